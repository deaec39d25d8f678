/- Part D of a proof: merged by program. -/
import Derived.Test.YtgdpmebdoipiaaaPkC
import Derived.Test.YtgdpmebdoipiaaaProg
import Derived.KernelRfl
namespace Go.Abs
open Go
def Zgn : List Z2a := [
  ⟨some 4, .mov, [.c (.slc 0 [] true)], none⟩,
  ⟨some 5, .mov, [.c (.int .i64 0)], none⟩]
def Zgo : List Z2a := [
  ⟨some 15, .mov, [.t 1], none⟩,
  ⟨some 16, (.bin .lss), [.t 15, .c (.int .i64 0)], none⟩,
  ⟨some 17, .mov, [.t 16], none⟩,
  ⟨some 18, .mov, [.t 1], some (17, false)⟩,
  ⟨some 19, (.bin .gtr), [.t 18, .c (.int .i64 1048576)], some (17, false)⟩,
  ⟨some 20, .pick, [.t 17, .c (.bool true), .t 19], none⟩]
def Zgp : List Z2a := [
  ⟨some 4, .mov, [.c (.slc 0 [] true)], none⟩,
  ⟨some 5, .mov, [.c (.int .i64 1)], none⟩]
def Zgq : List Z2a := [
  ⟨some 6, .mov, [.c (.slc 0 [] true)], none⟩]
def Zgr : List Z2a := [
  ⟨some 7, .mov, [.c (.int .i64 0)], none⟩]
def Zgs : List Z2a := [
  ⟨some 21, .mov, [.t 7], none⟩,
  ⟨some 22, .mov, [.t 0], none⟩,
  ⟨some 23, .lens, [.t 22], none⟩,
  ⟨some 24, (.bin .eql), [.t 21, .t 23], none⟩]
def Zgt : List Z2a := [
  ⟨some 4, .mov, [.c (.slc 0 [] true)], none⟩,
  ⟨some 5, .mov, [.c (.int .i64 3)], none⟩]
def Zgu : List Z2a := [
  ⟨some 25, .mov, [.t 0], none⟩,
  ⟨some 26, .mov, [.t 7], none⟩,
  ⟨some 27, (.iad 1), [.t 25, .t 26], none⟩,
  ⟨some 28, (.load false 1), [.t 27], none⟩,
  ⟨some 29, (.conv .i64), [.t 28], none⟩,
  ⟨some 8, .mov, [.t 29], none⟩]
def Zgv : List Z2a := [
  ⟨some 31, .mov, [.t 0], none⟩,
  ⟨some 32, .mov, [.t 7], none⟩,
  ⟨some 33, (.bin .add), [.t 32, .c (.int .i64 1)], none⟩,
  ⟨some 34, .mov, [.t 8], none⟩,
  ⟨some 35, (.bin .shr), [.t 34, .c (.int .u64 4)], none⟩,
  ⟨some 36, (.call Zd5), [.t 31, .t 33, .t 35], none⟩,
  ⟨some 30, .mov, [.t 36], none⟩,
  ⟨some 37, (.ext 0), [.t 30], none⟩,
  ⟨some 38, (.ext 1), [.t 30], none⟩,
  ⟨some 9, .mov, [.t 37], none⟩,
  ⟨some 10, .mov, [.t 38], none⟩]
def Zgw : List Z2a := [
  ⟨some 39, .mov, [.t 10], none⟩,
  ⟨some 40, (.bin .lss), [.t 39, .c (.int .i64 0)], none⟩]
def Zgx : List Z2a := [
  ⟨some 4, .mov, [.c (.slc 0 [] true)], none⟩,
  ⟨some 5, .mov, [.c (.int .i64 3)], none⟩]
def Zgy : List Z2a := [
  ⟨some 41, .mov, [.t 10], none⟩,
  ⟨some 7, .mov, [.t 41], none⟩]
def Zgz : List Z2a := [
  ⟨some 42, .mov, [.t 9], none⟩,
  ⟨some 43, .mov, [.t 1], none⟩,
  ⟨some 44, .mov, [.t 6], none⟩,
  ⟨some 45, .lens, [.t 44], none⟩,
  ⟨some 46, (.bin .sub), [.t 43, .t 45], none⟩,
  ⟨some 47, (.bin .gtr), [.t 42, .t 46], none⟩]
def Zh0 : List Z2a := [
  ⟨some 4, .mov, [.c (.slc 0 [] true)], none⟩,
  ⟨some 5, .mov, [.c (.int .i64 4)], none⟩]
def Zh1 : List Z2a := [
  ⟨some 48, .mov, [.t 9], none⟩,
  ⟨some 49, .mov, [.t 0], none⟩,
  ⟨some 50, .lens, [.t 49], none⟩,
  ⟨some 51, .mov, [.t 7], none⟩,
  ⟨some 52, (.bin .sub), [.t 50, .t 51], none⟩,
  ⟨some 53, (.bin .gtr), [.t 48, .t 52], none⟩]
def Zh2 : List Z2a := [
  ⟨some 4, .mov, [.c (.slc 0 [] true)], none⟩,
  ⟨some 5, .mov, [.c (.int .i64 3)], none⟩]
def Zh3 : List Z2a := [
  ⟨some 54, .mov, [.t 6], none⟩,
  ⟨some 55, .mov, [.t 0], none⟩,
  ⟨some 56, .mov, [.t 7], none⟩,
  ⟨some 57, .mov, [.t 7], none⟩,
  ⟨some 58, .mov, [.t 9], none⟩,
  ⟨some 59, (.bin .add), [.t 57, .t 58], none⟩,
  ⟨some 60, (.slc 1 true true false), [.t 55, .t 56, .t 59], none⟩,
  ⟨some 61, (.app 1 1), [.t 54, .t 60], none⟩,
  ⟨some 6, .mov, [.t 61], none⟩]
def Zh4 : List Z2a := [
  ⟨some 62, .mov, [.t 7], none⟩,
  ⟨some 63, .mov, [.t 9], none⟩,
  ⟨some 64, (.bin .add), [.t 62, .t 63], none⟩,
  ⟨some 7, .mov, [.t 64], none⟩]
def Zh5 : List Z2a := [
  ⟨some 65, .mov, [.t 7], none⟩,
  ⟨some 66, .mov, [.t 0], none⟩,
  ⟨some 67, .lens, [.t 66], none⟩,
  ⟨some 68, (.bin .eql), [.t 65, .t 67], none⟩]
def Zh6 : List Z2a := [
  ⟨some 69, .mov, [.t 6], none⟩,
  ⟨some 4, .mov, [.t 69], none⟩,
  ⟨some 5, .mov, [.c (.int .i64 0)], none⟩]
def Zh7 : List Z2a := [
  ⟨some 70, .mov, [.t 0], none⟩,
  ⟨some 71, .lens, [.t 70], none⟩,
  ⟨some 72, .mov, [.t 7], none⟩,
  ⟨some 73, (.bin .sub), [.t 71, .t 72], none⟩,
  ⟨some 74, (.bin .lss), [.t 73, .c (.int .i64 2)], none⟩]
def Zh8 : List Z2a := [
  ⟨some 4, .mov, [.c (.slc 0 [] true)], none⟩,
  ⟨some 5, .mov, [.c (.int .i64 3)], none⟩]
def Zh9 : List Z2a := [
  ⟨some 75, .mov, [.t 0], none⟩,
  ⟨some 76, .mov, [.t 7], none⟩,
  ⟨some 77, (.iad 1), [.t 75, .t 76], none⟩,
  ⟨some 78, (.load false 1), [.t 77], none⟩,
  ⟨some 79, (.conv .i64), [.t 78], none⟩,
  ⟨some 80, .mov, [.t 0], none⟩,
  ⟨some 81, .mov, [.t 7], none⟩,
  ⟨some 82, (.bin .add), [.t 81, .c (.int .i64 1)], none⟩,
  ⟨some 83, (.iad 1), [.t 80, .t 82], none⟩,
  ⟨some 84, (.load false 1), [.t 83], none⟩,
  ⟨some 85, (.conv .i64), [.t 84], none⟩,
  ⟨some 86, (.bin .shl), [.t 85, .c (.int .u64 8)], none⟩,
  ⟨some 87, (.bin .or), [.t 79, .t 86], none⟩,
  ⟨some 11, .mov, [.t 87], none⟩]
def Zha : List Z2a := [
  ⟨some 89, .mov, [.t 0], none⟩,
  ⟨some 90, .mov, [.t 7], none⟩,
  ⟨some 91, (.bin .add), [.t 90, .c (.int .i64 2)], none⟩,
  ⟨some 92, .mov, [.t 8], none⟩,
  ⟨some 93, (.bin .and), [.t 92, .c (.int .i64 15)], none⟩,
  ⟨some 94, (.call Zd5), [.t 89, .t 91, .t 93], none⟩,
  ⟨some 88, .mov, [.t 94], none⟩,
  ⟨some 95, (.ext 0), [.t 88], none⟩,
  ⟨some 96, (.ext 1), [.t 88], none⟩,
  ⟨some 12, .mov, [.t 95], none⟩,
  ⟨some 13, .mov, [.t 96], none⟩]
def Zhb : List Z2a := [
  ⟨some 97, .mov, [.t 13], none⟩,
  ⟨some 98, (.bin .lss), [.t 97, .c (.int .i64 0)], none⟩]
def Zhc : List Z2a := [
  ⟨some 4, .mov, [.c (.slc 0 [] true)], none⟩,
  ⟨some 5, .mov, [.c (.int .i64 3)], none⟩]
def Zhd : List Z2a := [
  ⟨some 99, .mov, [.t 13], none⟩,
  ⟨some 7, .mov, [.t 99], none⟩]
def Zhe : List Z2a := [
  ⟨some 100, .mov, [.t 11], none⟩,
  ⟨some 101, (.bin .eql), [.t 100, .c (.int .i64 0)], none⟩,
  ⟨some 102, .mov, [.t 101], none⟩,
  ⟨some 103, .mov, [.t 11], some (102, false)⟩,
  ⟨some 104, .mov, [.t 6], some (102, false)⟩,
  ⟨some 105, .lens, [.t 104], some (102, false)⟩,
  ⟨some 106, (.bin .gtr), [.t 103, .t 105], some (102, false)⟩,
  ⟨some 107, .pick, [.t 102, .c (.bool true), .t 106], none⟩]
def Zhf : List Z2a := [
  ⟨some 4, .mov, [.c (.slc 0 [] true)], none⟩,
  ⟨some 5, .mov, [.c (.int .i64 2)], none⟩]
def Zhg : List Z2a := [
  ⟨some 108, .mov, [.t 12], none⟩,
  ⟨some 109, (.bin .add), [.t 108, .c (.int .i64 4)], none⟩,
  ⟨some 12, .mov, [.t 109], none⟩]
def Zhh : List Z2a := [
  ⟨some 110, .mov, [.t 12], none⟩,
  ⟨some 111, .mov, [.t 1], none⟩,
  ⟨some 112, .mov, [.t 6], none⟩,
  ⟨some 113, .lens, [.t 112], none⟩,
  ⟨some 114, (.bin .sub), [.t 111, .t 113], none⟩,
  ⟨some 115, (.bin .gtr), [.t 110, .t 114], none⟩]
def Zhi : List Z2a := [
  ⟨some 4, .mov, [.c (.slc 0 [] true)], none⟩,
  ⟨some 5, .mov, [.c (.int .i64 4)], none⟩]
def Zhj : List Z2a := [
  ⟨some 14, .mov, [.c (.int .i64 0)], none⟩]
def Zhk : List Z2a := [
  ⟨some 116, .mov, [.t 14], none⟩,
  ⟨some 117, .mov, [.t 12], none⟩,
  ⟨some 118, (.bin .lss), [.t 116, .t 117], none⟩]
def Zhl : List Z2a := [
  ⟨some 121, .mov, [.t 6], none⟩,
  ⟨some 122, .mov, [.t 6], none⟩,
  ⟨some 123, .mov, [.t 6], none⟩,
  ⟨some 124, .lens, [.t 123], none⟩,
  ⟨some 125, .mov, [.t 11], none⟩,
  ⟨some 126, (.bin .sub), [.t 124, .t 125], none⟩,
  ⟨some 127, (.iad 1), [.t 122, .t 126], none⟩,
  ⟨some 128, (.load false 1), [.t 127], none⟩,
  ⟨some 129, (.bsl 1), [.t 128], none⟩,
  ⟨some 130, (.app 1 1), [.t 121, .t 129], none⟩,
  ⟨some 6, .mov, [.t 130], none⟩]
def Zhm : List Z2a := [
  ⟨some 119, .mov, [.t 14], none⟩,
  ⟨some 120, (.bin .add), [.t 119, .c (.int .i64 1)], none⟩,
  ⟨some 14, .mov, [.t 120], none⟩]
def Zhn : Z2b := (.seq (.seq (.region Zhk [0, 1, 6, 7, 11, 12, 14, 103, 104, 105, 106, 118]) (.cond (.t 118) .skip (.exit 2))) (.seq (.block 3 (.region Zhl [0, 1, 6, 7, 11, 12, 14, 103, 104, 105, 106])) (.region Zhm [0, 1, 6, 7, 11, 12, 14, 103, 104, 105, 106])))
def Zho : Z2b := (.block 1 (.seq (.seq (.region Zgs [0, 1, 6, 7, 24, 103, 104, 105, 106]) (.cond (.t 24) (.seq (.region Zgt [4, 5]) .ret) .skip)) (.seq (.region Zgu [0, 1, 6, 7, 8, 103, 104, 105, 106]) (.seq (.region Zgv [0, 1, 6, 8, 9, 10, 103, 104, 105, 106]) (.seq (.seq (.region Zgw [0, 1, 6, 8, 9, 10, 40, 103, 104, 105, 106]) (.cond (.t 40) (.seq (.region Zgx [4, 5]) .ret) .skip)) (.seq (.region Zgy [0, 1, 6, 7, 8, 9, 103, 104, 105, 106]) (.seq (.seq (.region Zgz [0, 1, 6, 7, 8, 9, 47, 103, 104, 105, 106]) (.cond (.t 47) (.seq (.region Zh0 [4, 5]) .ret) .skip)) (.seq (.seq (.region Zh1 [0, 1, 6, 7, 8, 9, 53, 103, 104, 105, 106]) (.cond (.t 53) (.seq (.region Zh2 [4, 5]) .ret) .skip)) (.seq (.region Zh3 [0, 1, 6, 7, 8, 9, 103, 104, 105, 106]) (.seq (.region Zh4 [0, 1, 6, 7, 8, 103, 104, 105, 106]) (.seq (.seq (.region Zh5 [0, 1, 6, 7, 8, 68, 103, 104, 105, 106]) (.cond (.t 68) (.seq (.region Zh6 [4, 5]) .ret) .skip)) (.seq (.seq (.region Zh7 [0, 1, 6, 7, 8, 74, 103, 104, 105, 106]) (.cond (.t 74) (.seq (.region Zh8 [4, 5]) .ret) .skip)) (.seq (.region Zh9 [0, 1, 6, 7, 8, 11, 103, 104, 105, 106]) (.seq (.region Zha [0, 1, 6, 11, 12, 13, 103, 104, 105, 106]) (.seq (.seq (.region Zhb [0, 1, 6, 11, 12, 13, 98, 103, 104, 105, 106]) (.cond (.t 98) (.seq (.region Zhc [4, 5]) .ret) .skip)) (.seq (.region Zhd [0, 1, 6, 7, 11, 12, 103, 104, 105, 106]) (.seq (.seq (.region Zhe [0, 1, 6, 7, 11, 12, 103, 104, 105, 106, 107]) (.cond (.t 107) (.seq (.region Zhf [4, 5]) .ret) .skip)) (.seq (.region Zhg [0, 1, 6, 7, 11, 12, 103, 104, 105, 106]) (.seq (.seq (.region Zhh [0, 1, 6, 7, 11, 12, 103, 104, 105, 106, 115]) (.cond (.t 115) (.seq (.region Zhi [4, 5]) .ret) .skip)) (.seq (.region Zhj [0, 1, 6, 7, 11, 12, 14, 103, 104, 105, 106]) (.block 2 (.loop Zhn))))))))))))))))))))))
def Zhp : Z2y := ⟨131, (.seq (.region Zgn [0, 1, 18, 19, 103, 104, 105, 106]) (.seq (.seq (.region Zgo [0, 1, 20, 103, 104, 105, 106]) (.cond (.t 20) (.seq (.region Zgp [4, 5]) .ret) .skip)) (.seq (.region Zgq [0, 1, 6, 103, 104, 105, 106]) (.seq (.region Zgr [0, 1, 6, 7, 103, 104, 105, 106]) (.block 0 (.loop Zho)))))), [.t 4, .t 5]⟩
def Zhq : List Z2a := [
  ⟨some 2, .mov, [.c (.slc 0 [] true)], none⟩]
def Zhr : List Z2a := [
  ⟨some 5, .mov, [.t 0], none⟩,
  ⟨some 6, .lens, [.t 5], none⟩,
  ⟨some 7, (.bin .gtr), [.t 6, .c (.int .i64 1048576)], none⟩]
def Zhs : List Z2a := [
  ⟨some 2, .mov, [.c (.slc 0 [] true)], none⟩]
def Zht : List Z2a := [
  ⟨some 8, (.call Zd8), [], none⟩,
  ⟨some 9, .mov, [.t 0], none⟩,
  ⟨some 10, (.call Zd7), [.t 8, .t 9], none⟩,
  ⟨some 3, .mov, [.t 10], none⟩]
def Zhu : List Z2a := [
  ⟨some 11, .mov, [.t 0], none⟩,
  ⟨some 12, (.call Zd9), [.c (.slc 0 [] true), .t 11, .c (.int .i64 0), .c (.int .i64 0)], none⟩,
  ⟨some 4, .mov, [.t 12], none⟩]
def Zhv : List Z2a := [
  ⟨some 13, .mov, [.t 4], none⟩,
  ⟨some 14, .lens, [.t 13], none⟩,
  ⟨some 15, .mov, [.t 3], none⟩,
  ⟨some 16, .lens, [.t 15], none⟩,
  ⟨some 17, (.bin .lss), [.t 14, .t 16], none⟩]
def Zhw : List Z2a := [
  ⟨some 18, .mov, [.t 4], none⟩,
  ⟨some 3, .mov, [.t 18], none⟩]
def Zhx : List Z2a := [
  ⟨some 19, .mov, [.t 3], none⟩,
  ⟨some 20, (.call Zcx), [.t 19], none⟩,
  ⟨some 2, .mov, [.t 20], none⟩]
def Zhy : Z2y := ⟨21, (.seq (.region Zhq [0]) (.seq (.seq (.region Zhr [0, 7]) (.cond (.t 7) (.seq (.region Zhs [2]) .ret) .skip)) (.seq (.region Zht [0, 3]) (.seq (.seq (.region Zhu [3, 4]) (.seq (.region Zhv [3, 4, 17]) (.cond (.t 17) (.region Zhw [3]) .skip))) (.seq (.region Zhx [2]) .ret))))), [.t 2]⟩
def Zhz : List Z2a := [
  ⟨some 6, .mov, [.c (.int .i64 0)], none⟩,
  ⟨some 7, .mov, [.c (.int .i64 0)], none⟩]
def Zi0 : List Z2a := [
  ⟨some 8, .mov, [.t 2], none⟩,
  ⟨some 9, (.bin .lss), [.t 8, .c (.int .i64 15)], none⟩]
def Zi1 : List Z2a := [
  ⟨some 10, .mov, [.t 2], none⟩,
  ⟨some 11, .mov, [.t 1], none⟩,
  ⟨some 6, .mov, [.t 10], none⟩,
  ⟨some 7, .mov, [.t 11], none⟩]
def Zi2 : List Z2a := [
  ⟨some 12, .mov, [.t 1], none⟩,
  ⟨some 13, .mov, [.t 0], none⟩,
  ⟨some 14, .lens, [.t 13], none⟩,
  ⟨some 15, (.bin .eql), [.t 12, .t 14], none⟩]
def Zi3 : List Z2a := [
  ⟨some 6, .mov, [.c (.int .i64 0)], none⟩,
  ⟨some 7, .mov, [.c (.int .i64 (-1))], none⟩]
def Zi4 : List Z2a := [
  ⟨some 16, .mov, [.t 2], none⟩,
  ⟨some 17, .mov, [.t 0], none⟩,
  ⟨some 18, .mov, [.t 1], none⟩,
  ⟨some 19, (.iad 1), [.t 17, .t 18], none⟩,
  ⟨some 20, (.load false 1), [.t 19], none⟩,
  ⟨some 21, (.conv .i64), [.t 20], none⟩,
  ⟨some 22, (.bin .add), [.t 16, .t 21], none⟩,
  ⟨some 2, .mov, [.t 22], none⟩]
def Zi5 : List Z2a := [
  ⟨some 23, .mov, [.t 1], none⟩,
  ⟨some 24, (.bin .add), [.t 23, .c (.int .i64 1)], none⟩,
  ⟨some 1, .mov, [.t 24], none⟩]
def Zi6 : List Z2a := [
  ⟨some 25, .mov, [.t 0], none⟩,
  ⟨some 26, .mov, [.t 1], none⟩,
  ⟨some 27, (.bin .sub), [.t 26, .c (.int .i64 1)], none⟩,
  ⟨some 28, (.iad 1), [.t 25, .t 27], none⟩,
  ⟨some 29, (.load false 1), [.t 28], none⟩,
  ⟨some 30, (.bin .neq), [.t 29, .c (.int .u8 255)], none⟩]
def Zi7 : List Z2a := [
  ⟨some 31, .mov, [.t 2], none⟩,
  ⟨some 32, .mov, [.t 1], none⟩,
  ⟨some 6, .mov, [.t 31], none⟩,
  ⟨some 7, .mov, [.t 32], none⟩]
def Zi8 : Z2b := (.block 1 (.seq (.seq (.region Zi2 [0, 1, 2, 15]) (.cond (.t 15) (.seq (.region Zi3 [6, 7]) .ret) .skip)) (.seq (.region Zi4 [0, 1, 2]) (.seq (.region Zi5 [0, 1, 2]) (.seq (.region Zi6 [0, 1, 2, 30]) (.cond (.t 30) (.seq (.region Zi7 [6, 7]) .ret) .skip))))))
def Zi9 : Z2y := ⟨33, (.seq (.region Zhz [0, 1, 2]) (.seq (.seq (.region Zi0 [0, 1, 2, 9]) (.cond (.t 9) (.seq (.region Zi1 [6, 7]) .ret) .skip)) (.block 0 (.loop Zi8)))), [.t 6, .t 7]⟩
def Zia : List Z2a := [
  ⟨some 4, .mov, [.c (.slc 0 [] true)], none⟩]
def Zib : List Z2a := [
  ⟨some 5, .mov, [.c (.slc 0 [] true)], none⟩]
def Zic : List Z2a := [
  ⟨some 6, .mov, [.c (.int .i64 0)], none⟩]
def Zid : List Z2a := [
  ⟨some 7, .mov, [.c (.int .i64 0)], none⟩]
def Zie : List Z2a := [
  ⟨some 11, .mov, [.t 7], none⟩,
  ⟨some 12, (.bin .add), [.t 11, .c (.int .i64 4)], none⟩,
  ⟨some 13, .mov, [.t 1], none⟩,
  ⟨some 14, .lens, [.t 13], none⟩,
  ⟨some 15, (.bin .leq), [.t 12, .t 14], none⟩]
def Zif : List Z2a := [
  ⟨some 16, .mov, [.t 1], none⟩,
  ⟨some 17, .mov, [.t 7], none⟩,
  ⟨some 18, (.slc 1 true false false), [.t 16, .t 17], none⟩,
  ⟨some 19, (.call Zdb), [.t 18], none⟩,
  ⟨some 8, .mov, [.t 19], none⟩]
def Zig : List Z2a := [
  ⟨some 20, .mov, [.t 0], none⟩,
  ⟨some 21, .mov, [.t 8], none⟩,
  ⟨some 22, (.iad 1), [.t 20, .t 21], none⟩,
  ⟨some 23, (.load false 1), [.t 22], none⟩,
  ⟨some 9, .mov, [.t 23], none⟩]
def Zih : List Z2a := [
  ⟨some 24, .mov, [.t 0], none⟩,
  ⟨some 25, .mov, [.t 8], none⟩,
  ⟨some 26, .mov, [.t 7], none⟩,
  ⟨some 27, (.iad 1), [.t 24, .t 25], none⟩,
  ⟨none, (.store 1), [.t 27, .t 26], none⟩]
def Zii : List Z2a := [
  ⟨some 28, .mov, [.t 9], none⟩,
  ⟨some 29, (.bin .lss), [.t 28, .c (.int .i64 0)], none⟩,
  ⟨some 30, .mov, [.t 29], none⟩,
  ⟨some 31, .mov, [.t 7], some (30, false)⟩,
  ⟨some 32, .mov, [.t 9], some (30, false)⟩,
  ⟨some 33, (.bin .sub), [.t 31, .t 32], some (30, false)⟩,
  ⟨some 34, (.bin .gtr), [.t 33, .c (.int .i64 65535)], some (30, false)⟩,
  ⟨some 35, .pick, [.t 30, .c (.bool true), .t 34], none⟩,
  ⟨some 36, .mov, [.t 35], none⟩,
  ⟨some 37, .mov, [.t 1], some (36, false)⟩,
  ⟨some 38, .mov, [.t 9], some (36, false)⟩,
  ⟨some 39, .mov, [.t 9], some (36, false)⟩,
  ⟨some 40, (.bin .add), [.t 39, .c (.int .i64 4)], some (36, false)⟩,
  ⟨some 41, (.slc 1 true true false), [.t 37, .t 38, .t 40], some (36, false)⟩,
  ⟨some 42, .mov, [.t 1], some (36, false)⟩,
  ⟨some 43, .mov, [.t 7], some (36, false)⟩,
  ⟨some 44, .mov, [.t 7], some (36, false)⟩,
  ⟨some 45, (.bin .add), [.t 44, .c (.int .i64 4)], some (36, false)⟩,
  ⟨some 46, (.slc 1 true true false), [.t 42, .t 43, .t 45], some (36, false)⟩,
  ⟨some 47, (.call Zdc), [.t 41, .t 46], some (36, false)⟩,
  ⟨some 48, .unot, [.t 47], some (36, false)⟩,
  ⟨some 49, .pick, [.t 36, .c (.bool true), .t 48], none⟩]
def Zij : List Z2a := [
  ⟨some 50, .mov, [.t 7], none⟩,
  ⟨some 51, (.bin .add), [.t 50, .c (.int .i64 1)], none⟩,
  ⟨some 7, .mov, [.t 51], none⟩]
def Zik : List Z2a := [
  ⟨some 10, .mov, [.c (.int .i64 4)], none⟩]
def Zil : List Z2a := [
  ⟨some 52, .mov, [.t 7], none⟩,
  ⟨some 53, .mov, [.t 10], none⟩,
  ⟨some 54, (.bin .add), [.t 52, .t 53], none⟩,
  ⟨some 55, .mov, [.t 1], none⟩,
  ⟨some 56, .lens, [.t 55], none⟩,
  ⟨some 57, (.bin .lss), [.t 54, .t 56], none⟩,
  ⟨some 58, .mov, [.t 57], none⟩,
  ⟨some 59, .mov, [.t 1], some (58, true)⟩,
  ⟨some 60, .mov, [.t 9], some (58, true)⟩,
  ⟨some 61, .mov, [.t 10], some (58, true)⟩,
  ⟨some 62, (.bin .add), [.t 60, .t 61], some (58, true)⟩,
  ⟨some 63, (.iad 1), [.t 59, .t 62], some (58, true)⟩,
  ⟨some 64, (.load false 1), [.t 63], some (58, true)⟩,
  ⟨some 65, .mov, [.t 1], some (58, true)⟩,
  ⟨some 66, .mov, [.t 7], some (58, true)⟩,
  ⟨some 67, .mov, [.t 10], some (58, true)⟩,
  ⟨some 68, (.bin .add), [.t 66, .t 67], some (58, true)⟩,
  ⟨some 69, (.iad 1), [.t 65, .t 68], some (58, true)⟩,
  ⟨some 70, (.load false 1), [.t 69], some (58, true)⟩,
  ⟨some 71, (.bin .eql), [.t 64, .t 70], some (58, true)⟩,
  ⟨some 72, .pick, [.t 58, .t 71, .c (.bool false)], none⟩]
def Zim : List Z2a := [
  ⟨some 73, .mov, [.t 10], none⟩,
  ⟨some 74, (.bin .add), [.t 73, .c (.int .i64 1)], none⟩,
  ⟨some 10, .mov, [.t 74], none⟩]
def Zin : Z2b := (.seq (.seq (.region Zil [0, 1, 5, 6, 7, 9, 10, 31, 32, 33, 34, 37, 38, 39, 40, 41, 42, 43, 44, 45, 46, 47, 48, 59, 60, 61, 62, 63, 64, 65, 66, 67, 68, 69, 70, 71, 72]) (.cond (.t 72) .skip (.exit 2))) (.block 3 (.region Zim [0, 1, 5, 6, 7, 9, 10, 31, 32, 33, 34, 37, 38, 39, 40, 41, 42, 43, 44, 45, 46, 47, 48, 59, 60, 61, 62, 63, 64, 65, 66, 67, 68, 69, 70, 71])))
def Zio : List Z2a := [
  ⟨some 75, .mov, [.t 5], none⟩,
  ⟨some 76, .mov, [.t 1], none⟩,
  ⟨some 77, .mov, [.t 6], none⟩,
  ⟨some 78, .mov, [.t 7], none⟩,
  ⟨some 79, (.slc 1 true true false), [.t 76, .t 77, .t 78], none⟩,
  ⟨some 80, .mov, [.t 7], none⟩,
  ⟨some 81, .mov, [.t 9], none⟩,
  ⟨some 82, (.bin .sub), [.t 80, .t 81], none⟩,
  ⟨some 83, .mov, [.t 10], none⟩,
  ⟨some 84, (.call Zd9), [.t 75, .t 79, .t 82, .t 83], none⟩,
  ⟨some 5, .mov, [.t 84], none⟩]
def Zip : List Z2a := [
  ⟨some 85, .mov, [.t 7], none⟩,
  ⟨some 86, .mov, [.t 10], none⟩,
  ⟨some 87, (.bin .add), [.t 85, .t 86], none⟩,
  ⟨some 7, .mov, [.t 87], none⟩]
def Ziq : List Z2a := [
  ⟨some 88, .mov, [.t 7], none⟩,
  ⟨some 6, .mov, [.t 88], none⟩]
def Zir : Z2b := (.seq (.seq (.region Zie [0, 1, 5, 6, 7, 15, 31, 32, 33, 34, 37, 38, 39, 40, 41, 42, 43, 44, 45, 46, 47, 48, 59, 60, 61, 62, 63, 64, 65, 66, 67, 68, 69, 70, 71]) (.cond (.t 15) .skip (.exit 0))) (.block 1 (.seq (.region Zif [0, 1, 5, 6, 7, 8, 31, 32, 33, 34, 37, 38, 39, 40, 41, 42, 43, 44, 45, 46, 47, 48, 59, 60, 61, 62, 63, 64, 65, 66, 67, 68, 69, 70, 71]) (.seq (.region Zig [0, 1, 5, 6, 7, 8, 9, 31, 32, 33, 34, 37, 38, 39, 40, 41, 42, 43, 44, 45, 46, 47, 48, 59, 60, 61, 62, 63, 64, 65, 66, 67, 68, 69, 70, 71]) (.seq (.region Zih [0, 1, 5, 6, 7, 9, 31, 32, 33, 34, 37, 38, 39, 40, 41, 42, 43, 44, 45, 46, 47, 48, 59, 60, 61, 62, 63, 64, 65, 66, 67, 68, 69, 70, 71]) (.seq (.seq (.region Zii [0, 1, 5, 6, 7, 9, 31, 32, 33, 34, 37, 38, 39, 40, 41, 42, 43, 44, 45, 46, 47, 48, 49, 59, 60, 61, 62, 63, 64, 65, 66, 67, 68, 69, 70, 71]) (.cond (.t 49) (.seq (.region Zij [0, 1, 5, 6, 7, 31, 32, 33, 34, 37, 38, 39, 40, 41, 42, 43, 44, 45, 46, 47, 48, 59, 60, 61, 62, 63, 64, 65, 66, 67, 68, 69, 70, 71]) (.exit 1)) .skip)) (.seq (.region Zik [0, 1, 5, 6, 7, 9, 10, 31, 32, 33, 34, 37, 38, 39, 40, 41, 42, 43, 44, 45, 46, 47, 48, 59, 60, 61, 62, 63, 64, 65, 66, 67, 68, 69, 70, 71]) (.seq (.block 2 (.loop Zin)) (.seq (.region Zio [0, 1, 5, 7, 10, 31, 32, 33, 34, 37, 38, 39, 40, 41, 42, 43, 44, 45, 46, 47, 48, 59, 60, 61, 62, 63, 64, 65, 66, 67, 68, 69, 70, 71]) (.seq (.region Zip [0, 1, 5, 7, 31, 32, 33, 34, 37, 38, 39, 40, 41, 42, 43, 44, 45, 46, 47, 48, 59, 60, 61, 62, 63, 64, 65, 66, 67, 68, 69, 70, 71]) (.region Ziq [0, 1, 5, 6, 7, 31, 32, 33, 34, 37, 38, 39, 40, 41, 42, 43, 44, 45, 46, 47, 48, 59, 60, 61, 62, 63, 64, 65, 66, 67, 68, 69, 70, 71])))))))))))
def Zis : List Z2a := [
  ⟨some 89, .mov, [.t 5], none⟩,
  ⟨some 90, .mov, [.t 1], none⟩,
  ⟨some 91, .mov, [.t 6], none⟩,
  ⟨some 92, (.slc 1 true false false), [.t 90, .t 91], none⟩,
  ⟨some 93, (.call Zd9), [.t 89, .t 92, .c (.int .i64 0), .c (.int .i64 0)], none⟩,
  ⟨some 4, .mov, [.t 93], none⟩]
def Zit : Z2y := ⟨94, (.seq (.region Zia [0, 1, 31, 32, 33, 34, 37, 38, 39, 40, 41, 42, 43, 44, 45, 46, 47, 48, 59, 60, 61, 62, 63, 64, 65, 66, 67, 68, 69, 70, 71]) (.seq (.region Zib [0, 1, 5, 31, 32, 33, 34, 37, 38, 39, 40, 41, 42, 43, 44, 45, 46, 47, 48, 59, 60, 61, 62, 63, 64, 65, 66, 67, 68, 69, 70, 71]) (.seq (.region Zic [0, 1, 5, 6, 31, 32, 33, 34, 37, 38, 39, 40, 41, 42, 43, 44, 45, 46, 47, 48, 59, 60, 61, 62, 63, 64, 65, 66, 67, 68, 69, 70, 71]) (.seq (.seq (.region Zid [0, 1, 5, 6, 7, 31, 32, 33, 34, 37, 38, 39, 40, 41, 42, 43, 44, 45, 46, 47, 48, 59, 60, 61, 62, 63, 64, 65, 66, 67, 68, 69, 70, 71]) (.block 0 (.loop Zir))) (.seq (.region Zis [4]) .ret))))), [.t 4]⟩
def Ziu : List Z2a := [
  ⟨some 0, .mov, [.c (.slc 0 [] true)], none⟩]
def Ziv : List Z2a := [
  ⟨some 3, (.mks 1 8 (.int .i64 0)), [.c (.int .i64 4096), .c (.int .i64 4096)], none⟩,
  ⟨some 1, .mov, [.t 3], none⟩]
def Ziw : List Z2a := [
  ⟨some 4, .mov, [.t 1], none⟩,
  ⟨some 5, .lens, [.t 4], none⟩,
  ⟨some 6, .mov, [.c (.int .i64 0)], none⟩]
def Zix : List Z2a := [
  ⟨some 7, (.bin .lss), [.t 6, .t 5], none⟩]
def Ziy : List Z2a := [
  ⟨some 8, .mov, [.t 6], none⟩,
  ⟨some 2, .mov, [.t 8], none⟩]
def Ziz : List Z2a := [
  ⟨some 9, .mov, [.t 1], none⟩,
  ⟨some 10, .mov, [.t 2], none⟩,
  ⟨some 11, (.iad 1), [.t 9, .t 10], none⟩,
  ⟨none, (.store 1), [.t 11, .c (.int .i64 (-1))], none⟩]
def Zj0 : List Z2a := [
  ⟨some 12, (.bin .add), [.t 6, .c (.int .i64 1)], none⟩,
  ⟨some 6, .mov, [.t 12], none⟩]
def Zj1 : Z2b := (.seq (.region Zix [1, 5, 6, 7]) (.seq (.cond (.t 7) .skip (.exit 0)) (.seq (.block 1 (.seq (.region Ziy [1, 2, 5, 6]) (.region Ziz [1, 5, 6]))) (.region Zj0 [1, 5, 6]))))
def Zj2 : List Z2a := [
  ⟨some 13, .mov, [.t 1], none⟩,
  ⟨some 0, .mov, [.t 13], none⟩]
def Zj3 : Z2y := ⟨14, (.seq (.region Ziu []) (.seq (.region Ziv [1]) (.seq (.seq (.region Ziw [1, 5, 6]) (.block 0 (.loop Zj1))) (.seq (.region Zj2 [0]) .ret)))), [.t 0]⟩
def Zj4 : List Z2a := [
  ⟨some 8, .mov, [.c (.slc 0 [] true)], none⟩]
def Zj5 : List Z2a := [
  ⟨some 9, .mov, [.c (.int .i64 0)], none⟩]
def Zj6 : List Z2a := [
  ⟨some 10, .mov, [.t 3], none⟩,
  ⟨some 11, (.bin .gtr), [.t 10, .c (.int .i64 0)], none⟩]
def Zj7 : List Z2a := [
  ⟨some 12, .mov, [.t 3], none⟩,
  ⟨some 13, (.bin .sub), [.t 12, .c (.int .i64 4)], none⟩,
  ⟨some 14, .min, [.t 13, .c (.int .i64 15)], none⟩,
  ⟨some 9, .mov, [.t 14], none⟩]
def Zj8 : List Z2a := [
  ⟨some 15, .mov, [.t 0], none⟩,
  ⟨some 16, .mov, [.t 1], none⟩,
  ⟨some 17, .lens, [.t 16], none⟩,
  ⟨some 18, .min, [.t 17, .c (.int .i64 15)], none⟩,
  ⟨some 19, (.bin .shl), [.t 18, .c (.int .u64 4)], none⟩,
  ⟨some 20, .mov, [.t 9], none⟩,
  ⟨some 21, (.bin .or), [.t 19, .t 20], none⟩,
  ⟨some 22, (.conv .u8), [.t 21], none⟩,
  ⟨some 23, (.bsl 1), [.t 22], none⟩,
  ⟨some 24, (.app 1 1), [.t 15, .t 23], none⟩,
  ⟨some 0, .mov, [.t 24], none⟩]
def Zj9 : List Z2a := [
  ⟨some 25, .mov, [.t 0], none⟩,
  ⟨some 26, .mov, [.t 1], none⟩,
  ⟨some 27, .lens, [.t 26], none⟩,
  ⟨some 28, (.call Zdd), [.t 25, .t 27], none⟩,
  ⟨some 0, .mov, [.t 28], none⟩]
def Zja : List Z2a := [
  ⟨some 29, .mov, [.t 0], none⟩,
  ⟨some 30, .mov, [.t 1], none⟩,
  ⟨some 31, (.app 1 1), [.t 29, .t 30], none⟩,
  ⟨some 0, .mov, [.t 31], none⟩]
def Zjb : List Z2a := [
  ⟨some 32, .mov, [.t 3], none⟩,
  ⟨some 33, (.bin .eql), [.t 32, .c (.int .i64 0)], none⟩]
def Zjc : List Z2a := [
  ⟨some 34, .mov, [.t 0], none⟩,
  ⟨some 8, .mov, [.t 34], none⟩]
def Zjd : List Z2a := [
  ⟨some 35, .mov, [.t 0], none⟩,
  ⟨some 36, .mov, [.t 2], none⟩,
  ⟨some 37, (.conv .u8), [.t 36], none⟩,
  ⟨some 38, .mov, [.t 2], none⟩,
  ⟨some 39, (.bin .shr), [.t 38, .c (.int .u64 8)], none⟩,
  ⟨some 40, (.conv .u8), [.t 39], none⟩,
  ⟨some 41, (.bsl 1), [.t 37, .t 40], none⟩,
  ⟨some 42, (.app 1 1), [.t 35, .t 41], none⟩,
  ⟨some 43, .mov, [.t 3], none⟩,
  ⟨some 44, (.bin .sub), [.t 43, .c (.int .i64 4)], none⟩,
  ⟨some 45, (.call Zdd), [.t 42, .t 44], none⟩,
  ⟨some 8, .mov, [.t 45], none⟩]
def Zje : Z2y := ⟨46, (.seq (.region Zj4 [0, 1, 2, 3]) (.seq (.region Zj5 [0, 1, 2, 3, 9]) (.seq (.seq (.region Zj6 [0, 1, 2, 3, 9, 11]) (.cond (.t 11) (.region Zj7 [0, 1, 2, 3, 9]) .skip)) (.seq (.region Zj8 [0, 1, 2, 3]) (.seq (.region Zj9 [0, 1, 2, 3]) (.seq (.region Zja [0, 2, 3]) (.seq (.seq (.region Zjb [0, 2, 3, 33]) (.cond (.t 33) (.seq (.region Zjc [8]) .ret) .skip)) (.seq (.region Zjd [8]) .ret)))))))), [.t 8]⟩
def Zjf : List Z2a := [
  ⟨some 2, .mov, [.c (.int .i64 0)], none⟩]
def Zjg : List Z2a := [
  ⟨some 4, .mov, [.t 0], none⟩,
  ⟨some 5, (.iad 1), [.t 4, .c (.int .i64 0)], none⟩,
  ⟨some 6, (.load false 1), [.t 5], none⟩,
  ⟨some 7, (.conv .u32), [.t 6], none⟩,
  ⟨some 8, .mov, [.t 0], none⟩,
  ⟨some 9, (.iad 1), [.t 8, .c (.int .i64 1)], none⟩,
  ⟨some 10, (.load false 1), [.t 9], none⟩,
  ⟨some 11, (.conv .u32), [.t 10], none⟩,
  ⟨some 12, (.bin .shl), [.t 11, .c (.int .u64 8)], none⟩,
  ⟨some 13, (.bin .or), [.t 7, .t 12], none⟩,
  ⟨some 14, .mov, [.t 0], none⟩,
  ⟨some 15, (.iad 1), [.t 14, .c (.int .i64 2)], none⟩,
  ⟨some 16, (.load false 1), [.t 15], none⟩,
  ⟨some 17, (.conv .u32), [.t 16], none⟩,
  ⟨some 18, (.bin .shl), [.t 17, .c (.int .u64 16)], none⟩,
  ⟨some 19, (.bin .or), [.t 13, .t 18], none⟩,
  ⟨some 20, .mov, [.t 0], none⟩,
  ⟨some 21, (.iad 1), [.t 20, .c (.int .i64 3)], none⟩,
  ⟨some 22, (.load false 1), [.t 21], none⟩,
  ⟨some 23, (.conv .u32), [.t 22], none⟩,
  ⟨some 24, (.bin .shl), [.t 23, .c (.int .u64 24)], none⟩,
  ⟨some 25, (.bin .or), [.t 19, .t 24], none⟩,
  ⟨some 3, .mov, [.t 25], none⟩]
def Zjh : List Z2a := [
  ⟨some 26, .mov, [.t 3], none⟩,
  ⟨some 27, (.bin .mul), [.t 26, .c (.int .u32 2654435761)], none⟩,
  ⟨some 28, (.bin .shr), [.t 27, .c (.int .u64 20)], none⟩,
  ⟨some 29, (.conv .i64), [.t 28], none⟩,
  ⟨some 2, .mov, [.t 29], none⟩]
def Zji : Z2y := ⟨30, (.seq (.region Zjf [0]) (.seq (.region Zjg [3]) (.seq (.region Zjh [2]) .ret))), [.t 2]⟩
def Zjj : List Z2a := [
  ⟨some 4, .mov, [.c (.bool false)], none⟩]
def Zjk : List Z2a := [
  ⟨some 6, .mov, [.t 0], none⟩,
  ⟨some 7, .lens, [.t 6], none⟩,
  ⟨some 8, .mov, [.t 1], none⟩,
  ⟨some 9, .lens, [.t 8], none⟩,
  ⟨some 10, (.bin .neq), [.t 7, .t 9], none⟩]
def Zjl : List Z2a := [
  ⟨some 4, .mov, [.c (.bool false)], none⟩]
def Zjm : List Z2a := [
  ⟨some 11, .mov, [.t 0], none⟩,
  ⟨some 12, .lens, [.t 11], none⟩,
  ⟨some 13, .mov, [.c (.int .i64 0)], none⟩]
def Zjn : List Z2a := [
  ⟨some 14, (.bin .lss), [.t 13, .t 12], none⟩]
def Zjo : List Z2a := [
  ⟨some 15, .mov, [.t 13], none⟩,
  ⟨some 5, .mov, [.t 15], none⟩]
def Zjp : List Z2a := [
  ⟨some 16, .mov, [.t 0], none⟩,
  ⟨some 17, .mov, [.t 5], none⟩,
  ⟨some 18, (.iad 1), [.t 16, .t 17], none⟩,
  ⟨some 19, (.load false 1), [.t 18], none⟩,
  ⟨some 20, .mov, [.t 1], none⟩,
  ⟨some 21, .mov, [.t 5], none⟩,
  ⟨some 22, (.iad 1), [.t 20, .t 21], none⟩,
  ⟨some 23, (.load false 1), [.t 22], none⟩,
  ⟨some 24, (.bin .neq), [.t 19, .t 23], none⟩]
def Zjq : List Z2a := [
  ⟨some 4, .mov, [.c (.bool false)], none⟩]
def Zjr : List Z2a := [
  ⟨some 25, (.bin .add), [.t 13, .c (.int .i64 1)], none⟩,
  ⟨some 13, .mov, [.t 25], none⟩]
def Zjs : Z2b := (.seq (.region Zjn [0, 1, 12, 13, 14]) (.seq (.cond (.t 14) .skip (.exit 0)) (.seq (.block 1 (.seq (.region Zjo [0, 1, 5, 12, 13]) (.seq (.region Zjp [0, 1, 12, 13, 24]) (.cond (.t 24) (.seq (.region Zjq [4]) .ret) .skip)))) (.region Zjr [0, 1, 12, 13]))))
def Zjt : List Z2a := [
  ⟨some 4, .mov, [.c (.bool true)], none⟩]
def Zju : Z2y := ⟨26, (.seq (.region Zjj [0, 1]) (.seq (.seq (.region Zjk [0, 1, 10]) (.cond (.t 10) (.seq (.region Zjl [4]) .ret) .skip)) (.seq (.seq (.region Zjm [0, 1, 12, 13]) (.block 0 (.loop Zjs))) (.seq (.region Zjt [4]) .ret)))), [.t 4]⟩
def Zjv : List Z2a := [
  ⟨some 4, .mov, [.c (.slc 0 [] true)], none⟩]
def Zjw : List Z2a := [
  ⟨some 5, .mov, [.t 1], none⟩,
  ⟨some 6, (.bin .lss), [.t 5, .c (.int .i64 15)], none⟩]
def Zjx : List Z2a := [
  ⟨some 7, .mov, [.t 0], none⟩,
  ⟨some 4, .mov, [.t 7], none⟩]
def Zjy : List Z2a := [
  ⟨some 8, .mov, [.t 1], none⟩,
  ⟨some 9, (.bin .sub), [.t 8, .c (.int .i64 15)], none⟩,
  ⟨some 1, .mov, [.t 9], none⟩]
def Zjz : List Z2a := [
  ⟨some 10, .mov, [.t 1], none⟩,
  ⟨some 11, (.bin .geq), [.t 10, .c (.int .i64 255)], none⟩]
def Zk0 : List Z2a := [
  ⟨some 14, .mov, [.t 0], none⟩,
  ⟨some 15, (.bsl 1), [.c (.int .u8 255)], none⟩,
  ⟨some 16, (.app 1 1), [.t 14, .t 15], none⟩,
  ⟨some 0, .mov, [.t 16], none⟩]
def Zk1 : List Z2a := [
  ⟨some 12, .mov, [.t 1], none⟩,
  ⟨some 13, (.bin .sub), [.t 12, .c (.int .i64 255)], none⟩,
  ⟨some 1, .mov, [.t 13], none⟩]
def Zk2 : Z2b := (.seq (.seq (.region Zjz [0, 1, 11]) (.cond (.t 11) .skip (.exit 0))) (.seq (.block 1 (.region Zk0 [0, 1])) (.region Zk1 [0, 1])))
def Zk3 : List Z2a := [
  ⟨some 17, .mov, [.t 0], none⟩,
  ⟨some 18, .mov, [.t 1], none⟩,
  ⟨some 19, (.conv .u8), [.t 18], none⟩,
  ⟨some 20, (.bsl 1), [.t 19], none⟩,
  ⟨some 21, (.app 1 1), [.t 17, .t 20], none⟩,
  ⟨some 4, .mov, [.t 21], none⟩]
def Zk4 : Z2y := ⟨22, (.seq (.region Zjv [0, 1]) (.seq (.seq (.region Zjw [0, 1, 6]) (.cond (.t 6) (.seq (.region Zjx [4]) .ret) .skip)) (.seq (.seq (.region Zjy [0, 1]) (.block 0 (.loop Zk2))) (.seq (.region Zk3 [4]) .ret)))), [.t 4]⟩
end Go.Abs
namespace Go.Abs
open Go Go.Proofs
theorem Zk5 : Z2z Try.prog [] Zd1 = some Zhp.erase := by kernel_rfl
theorem Zk6 : Z2z Try.prog [] Zd3 = some Zhy.erase := by kernel_rfl
theorem Zk7 : Z2z Try.prog [] Zd5 = some Zi9.erase := by kernel_rfl
theorem Zk8 : Z2z Try.prog [] Zd7 = some Zit.erase := by kernel_rfl
theorem Zk9 : Z2z Try.prog [] Zd8 = some Zj3.erase := by kernel_rfl
theorem Zka : Z2z Try.prog [] Zd9 = some Zje.erase := by kernel_rfl
theorem Zkb : Z2z Try.prog [] Zdb = some Zji.erase := by kernel_rfl
theorem Zkc : Z2z Try.prog [] Zdc = some Zju.erase := by kernel_rfl
theorem Zkd : Z2z Try.prog [] Zdd = some Zk4.erase := by kernel_rfl
end Go.Abs
namespace Go.Abs
open Go Go.Proofs Go.Abs.Lz
set_option linter.unusedVariables false
set_option linter.unusedSimpArgs false
theorem Zke (m : Nat) : IntKind.wrap .u8 (m : Int) = ((UInt8.ofNat m).toNat : Int) := by
  rw [w8, UInt8.toNat_ofNat']; omega
theorem Zkf (m : Nat) : Z0.int .u8 (IntKind.wrap .u8 (m : Int)) = Zx (UInt8.ofNat m) := by rw [Zke]; rfl
theorem Zkg {v : Z0} {xs : List UInt8} {β τ : Zc} {n : Nat} (ho : Grow v xs β) (hn : xs.length + n ≤ 70368744177664) :
    Z1q Try.prog Zdd [v, .int .i64 n] (β ++ τ) fun r σ' => ∃ β', Grow r (xs ++ Zfi n) β' ∧ σ' = β' ++ τ := by
  refine Z8t rfl Zkd (Nat.le_of_ble_eq_true rfl) ?_
  refine Z9z ?_
  (repeat (refine st_q rfl rfl rfl ?_))
  (refine Z8y ?_; (repeat (first | refine Z9v rfl ?_ | refine Z9w ?_)); refine Z9u ?_)
  refine Za5 ?_
  refine Zad ?_
  (repeat (refine st_q rfl rfl rfl ?_))
  (refine Z8y ?_; (repeat (first | refine Z9v rfl ?_ | refine Z9w ?_)); refine Z9u ?_)
  refine Za3 (p := (n : Int) < 15) rfl (fun h => ?_) (fun h => ?_)
  · refine Z9z ?_
    (repeat (refine st_q rfl rfl rfl ?_))
    (refine Z8y ?_; (repeat (first | refine Z9v rfl ?_ | refine Z9w ?_)); refine Z9u ?_)
    refine Z8d ?_
    refine ares rfl (HSub.refl _) ⟨β, ?_, rfl⟩
    rw [Zfi, if_pos (by omega), List.append_nil]
    exact ho
  refine Za4 ?_
  have hr : Zfi n = Zfh (n - 15) := by rw [Zfi, if_neg (by omega)]
  rw [hr]
  refine Za5 ?_
  refine Zad ?_
  (repeat (refine st_q rfl rfl rfl ?_))
  have e1 : IntKind.wrap .i64 ((n : Int) - 15) = ((n - 15 : Nat) : Int) := by rw [w64 _ (by omega) (by omega)]; omega
  rw [e1]
  (refine Z8y ?_; (repeat (first | refine Z9v rfl ?_ | refine Z9w ?_)); refine Z9u ?_)
  refine Z8h ?_
  refine Zaa (fun k F σ' => ∃ (m : Nat) (v' : Z0) (xs' : List UInt8) (β' : Zc), F = fset 0 (some v') (fset 1 (some (.int .i64 m)) Z27) ∧ σ' = β' ++ τ ∧ Grow v' xs' β' ∧ xs' ++ Zfh m = xs ++ Zfh (n - 15) ∧ xs'.length + m ≤ xs.length + n ∧ k = m) (n := n - 15)
    ⟨n - 15, v, xs, β, rfl, rfl, ho, rfl, by omega, rfl⟩ ?_
  rintro k F σ' ⟨m, v', xs', β', rfl, rfl, ho', he, hl, rfl⟩
  refine Za5 ?_
  refine Zad ?_
  (repeat (refine st_q rfl rfl rfl ?_))
  (refine Z8y ?_; (repeat (first | refine Z9v rfl ?_ | refine Z9w ?_)); refine Z9u ?_)
  refine Za3 (p := (255 : Int) ≤ k) rfl (fun h2 => ?_) (fun h2 => ?_)
  · refine Za4 ?_
    refine Za6 ?_
    refine awp_region ?_
    (repeat (refine st_q rfl rfl rfl ?_))
    refine Zat (ys := [255]) ho' rfl rfl (by simp only [List.length_cons, List.length_nil]; omega) fun b' hb' => ?_
    (repeat (refine st_q rfl rfl rfl ?_))
    refine Z8y ?_
    refine Z9y (keep := [0, 1]) ?_
    ((repeat (first | refine Z9v rfl ?_ | refine Z9w ?_)); refine Z9u ?_)
    refine awp_region ?_
    (repeat (refine st_q rfl rfl rfl ?_))
    have e2 : IntKind.wrap .i64 ((k : Int) - 255) = ((k - 255 : Nat) : Int) := by rw [w64 _ (by omega) (by omega)]; omega
    rw [e2]
    refine Z8y ?_
    refine Zac (keep := [0, 1]) ?_
    ((repeat (first | refine Z9v rfl ?_ | refine Z9w ?_)); refine Z9u ?_)
    refine ⟨_, k - 255, HSub.refl _, ⟨k - 255, _, xs' ++ [255], [(b', .cells 1 (bytes (xs' ++ [255])))], rfl, rfl, .inr ⟨b', rfl, rfl⟩, ?_, by simp only [List.length_append, List.length_cons, List.length_nil]; omega, rfl⟩, by omega⟩
    rw [← he]
    conv => rhs; rw [Zfh, dif_pos (by omega)]
    simp
  · refine Z8c ?_
    show AWp _ _ _ _ _ _
    refine Z9z ?_
    (repeat (refine st_q rfl rfl rfl ?_))
    rw [Zke]
    (repeat (refine st_q rfl rfl rfl ?_))
    refine Zat (ys := [UInt8.ofNat k]) ho' rfl rfl (by simp only [List.length_cons, List.length_nil]; omega) fun b' hb' => ?_
    (repeat (refine st_q rfl rfl rfl ?_))
    (refine Z8y ?_; (repeat (first | refine Z9v rfl ?_ | refine Z9w ?_)); refine Z9u ?_)
    refine Z8d ?_
    have e3 : Zfh k = [UInt8.ofNat k] := by rw [Zfh, dif_neg (by omega)]
    rw [e3] at he
    refine ares rfl (HSub.refl _) ⟨_, .inr ⟨b', ?_, rfl⟩, ?_⟩
    · rw [he]; rfl
    · rw [he]; rfl
end Go.Abs
namespace Go.Abs
open Go Go.Proofs Go.Abs.Lz
set_option linter.unusedVariables false
set_option linter.unusedSimpArgs false
theorem or4 (a b : Nat) (ha : a < 16) (hb : b < 16) : intBits .or .i64 ((a * 16 : Nat) : Int) (b : Int) = ((a * 16 + b : Nat) : Int) := by
  have e : a * 16 ||| b = a * 16 + b := by
    have := Nat.shiftLeft_add_eq_or_of_lt (i := 4) (b := b) (by omega) a
    rw [Nat.shiftLeft_eq] at this
    simp only [Nat.reducePow] at this
    rw [← this]
  rw [ibOr _ _ (by omega) (by omega), e]
theorem Zkh {v : Z0} {xs lits : List UInt8} {f : Bool} {β τ : Zc} {back n : Nat} (ho : Grow v xs β) (hn : n = 0 ∨ 4 ≤ n) (hbk : back < 9223372036854775808) (hx : 2 * xs.length + 4 * lits.length + 4 * n ≤ 35184372088832) :
    Z1q Try.prog Zd9 [v, .slc 1 (bytes lits) f, .int .i64 back, .int .i64 n] (β ++ τ) fun r σ' => ∃ β', Grow r (xs ++ putF lits back n) β' ∧ σ' = β' ++ τ := by
  refine Z8t rfl Zka (Nat.le_of_ble_eq_true rfl) ?_
  refine Z9z ?_
  (repeat (refine st_q rfl rfl rfl ?_))
  (refine Z8y ?_; (repeat (first | refine Z9v rfl ?_ | refine Z9w ?_)); refine Z9u ?_)
  refine Z9z ?_
  (repeat (refine st_q rfl rfl rfl ?_))
  (refine Z8y ?_; (repeat (first | refine Z9v rfl ?_ | refine Z9w ?_)); refine Z9u ?_)
  refine Za5 ?_
  refine Zad ?_
  (repeat (refine st_q rfl rfl rfl ?_))
  (refine Z8y ?_; (repeat (first | refine Z9v rfl ?_ | refine Z9w ?_)); refine Z9u ?_)
  have main : AWp Try.prog Zje.n (Zje.code.snd 3) (ARet Zje.res fun r σ' => ∃ β', Grow r (xs ++ putF lits back n) β' ∧ σ' = β' ++ τ)
      (fset 0 (some v) (fset 1 (some (.slc 1 (bytes lits) f)) (fset 2 (some (.int .i64 back)) (fset 3 (some (.int .i64 n)) (fset 9 (some (.int .i64 (if n = 0 then 0 else min (n - 4) 15 : Nat))) Z27))))) (β ++ τ) := by
    generalize hlow : (if n = 0 then 0 else min (n - 4) 15 : Nat) = low
    have hlow' : low < 16 := by rw [← hlow]; split <;> omega
    have hr1 := Zfq lits.length
    have hr2 := Zfq (n - 4)
    refine Z9z ?_
    (repeat (refine st_q rfl rfl rfl ?_))
    have e1 : (if (15 : Int) < ((bytes lits).length : Int) then (15 : Int) else ((bytes lits).length : Int)) = ((min lits.length 15 : Nat) : Int) := by
      rw [Zam]; split <;> omega
    generalize hL : min lits.length 15 = L at *
    have hL' : L < 16 := by omega
    have e2 : IntKind.wrap .i64 ((L : Int) * 16) = ((L * 16 : Nat) : Int) := by rw [w64 _ (by omega) (by omega)]; omega
    have e3 : some [Z0.int .u8 (IntKind.wrap .u8 (intBits .or .i64 (IntKind.wrap .i64 ((if (15 : Int) < ((bytes lits).length : Int) then (15 : Int) else ((bytes lits).length : Int)) * 16)) (low : Int)))] = some (bytes [UInt8.ofNat (L * 16 + low)]) := by
      rw [e1, e2, or4 _ _ hL' hlow', Zkf]; rfl
    refine Zat (ys := [UInt8.ofNat (L * 16 + low)]) ho rfl e3 (by simp only [List.length_cons, List.length_nil]; omega) fun b1 hb1 => ?_
    (repeat (refine st_q rfl rfl rfl ?_))
    (refine Z8y ?_; (repeat (first | refine Z9v rfl ?_ | refine Z9w ?_)); refine Z9u ?_)
    generalize hx1 : xs ++ [UInt8.ofNat (L * 16 + low)] = x1
    have hl1 : x1.length = xs.length + 1 := by rw [← hx1]; simp
    refine Z9z ?_
    (repeat (refine st_q rfl rfl rfl ?_))
    refine Z9s (congrArg (fun x => some [Z0.arr 1 b1 0 x1.length, Z0.int .i64 (x : Int)]) (congrArg Nat.cast (Zam lits)))
      (Zkg (β := [(b1, .cells 1 (bytes x1))]) (τ := τ) (.inr ⟨b1, rfl, rfl⟩) (by omega)) ?_ ?_
    · obtain ⟨gv, gβ, hgr⟩ := Grow.ex (x1 ++ Zfi lits.length)
      exact ⟨_, _, gβ, hgr, rfl⟩
    rintro r2 _ ⟨β2, ho2, rfl⟩
    (repeat (refine st_q rfl rfl rfl ?_))
    (refine Z8y ?_; (repeat (first | refine Z9v rfl ?_ | refine Z9w ?_)); refine Z9u ?_)
    generalize hx2 : x1 ++ Zfi lits.length = x2 at *
    have hl2 : x2.length = x1.length + (Zfi lits.length).length := by rw [← hx2]; simp
    refine Z9z ?_
    (repeat (refine st_q rfl rfl rfl ?_))
    refine Zat (ys := lits) ho2 rfl (by simp [Z1m]) (by omega) fun b3 hb3 => ?_
    (repeat (refine st_q rfl rfl rfl ?_))
    (refine Z8y ?_; (repeat (first | refine Z9v rfl ?_ | refine Z9w ?_)); refine Z9u ?_)
    generalize hx3 : x2 ++ lits = x3 at *
    have hl3 : x3.length = x2.length + lits.length := by rw [← hx3]; simp
    refine Za5 ?_
    refine Zad ?_
    (repeat (refine st_q rfl rfl rfl ?_))
    (refine Z8y ?_; (repeat (first | refine Z9v rfl ?_ | refine Z9w ?_)); refine Z9u ?_)
    have hput : ∀ t, (if n = 0 then [] else [UInt8.ofNat back, UInt8.ofNat (back / 256)] ++ Zfi (n - 4)) = t → xs ++ putF lits back n = x3 ++ t := by
      rintro t rfl
      rw [← hx3, ← hx2, ← hx1, putF, hL, hlow]
      simp
    refine Za3 (p := (n : Int) = 0) rfl (fun h2 => ?_) (fun h2 => ?_)
    · refine Z9z ?_
      (repeat (refine st_q rfl rfl rfl ?_))
      (refine Z8y ?_; (repeat (first | refine Z9v rfl ?_ | refine Z9w ?_)); refine Z9u ?_)
      refine Z8d ?_
      have e5 := hput [] (by rw [if_pos (by omega)])
      rw [List.append_nil] at e5
      rw [e5]
      exact ares rfl (HSub.refl _) ⟨_, .inr ⟨b3, rfl, rfl⟩, rfl⟩
    refine Za4 ?_
    have e5 := hput _ (if_neg (by omega))
    rw [e5]
    refine Z9z ?_
    refine st_q rfl rfl rfl ?_
    refine st_q rfl rfl rfl ?_
    refine st_q rfl rfl rfl ?_
    refine st_q rfl rfl rfl ?_
    refine Z96 rfl (by decide) ?_
    have e6 : Int.fdiv (back : Int) (2 ^ (Nat.min ((8 : Int).toNat) IntKind.i64.bits)) = ((back / 256 : Nat) : Int) := by
      show Int.fdiv (back : Int) 256 = _
      rw [Int.fdiv_eq_ediv_of_nonneg _ (by omega)]; omega
    rw [e6]
    (repeat (refine st_q rfl rfl rfl ?_))
    have e7 : some [Z0.int .u8 (IntKind.wrap .u8 (back : Int)), Z0.int .u8 (IntKind.wrap .u8 ((back / 256 : Nat) : Int))] = some (bytes [UInt8.ofNat back, UInt8.ofNat (back / 256)]) := by
      rw [Zkf, Zkf]; rfl
    refine Zat (β := [(b3, .cells 1 (bytes x3))]) (ys := [UInt8.ofNat back, UInt8.ofNat (back / 256)]) (.inr ⟨b3, rfl, rfl⟩) rfl e7 (by simp only [List.length_cons, List.length_nil]; omega) fun b4 hb4 => ?_
    (repeat (refine st_q rfl rfl rfl ?_))
    generalize hx4 : x3 ++ [UInt8.ofNat back, UInt8.ofNat (back / 256)] = x4 at *
    have hl4 : x4.length = x3.length + 2 := by rw [← hx4]; simp
    have e8 : IntKind.wrap .i64 ((n : Int) - 4) = ((n - 4 : Nat) : Int) := by rw [w64 _ (by omega) (by omega)]; omega
    refine Z9s (congrArg (fun x => some [Z0.arr 1 b4 0 x4.length, Z0.int .i64 x]) e8)
      (Zkg (β := [(b4, .cells 1 (bytes x4))]) (τ := τ) (.inr ⟨b4, rfl, rfl⟩) (by omega)) ?_ ?_
    · obtain ⟨gv, gβ, hgr⟩ := Grow.ex (x4 ++ Zfi (n - 4))
      exact ⟨_, _, gβ, hgr, rfl⟩
    rintro r5 _ ⟨β5, ho5, rfl⟩
    (repeat (refine st_q rfl rfl rfl ?_))
    (refine Z8y ?_; (repeat (first | refine Z9v rfl ?_ | refine Z9w ?_)); refine Z9u ?_)
    refine Z8d ?_
    refine ares rfl (HSub.refl _) ⟨β5, ?_, rfl⟩
    rw [← List.append_assoc, hx4]
    exact ho5
  refine Za3 (p := (0 : Int) < n) rfl (fun h => ?_) (fun h => ?_)
  · refine Zad ?_
    (repeat (refine st_q rfl rfl rfl ?_))
    have e9 : IntKind.wrap .i64 ((n : Int) - 4) = ((n - 4 : Nat) : Int) := by rw [w64 _ (by omega) (by omega)]; omega
    rw [e9]
    have e10 : (if (15 : Int) < ((n - 4 : Nat) : Int) then (15 : Int) else ((n - 4 : Nat) : Int)) = ((if n = 0 then 0 else min (n - 4) 15 : Nat) : Int) := by
      rw [if_neg (by omega : ¬ n = 0)]; split <;> omega
    rw [e10]
    (refine Z8y ?_; (repeat (first | refine Z9v rfl ?_ | refine Z9w ?_)); refine Z9u ?_)
    exact main
  · refine Za4 ?_
    have e11 : (if n = 0 then 0 else min (n - 4) 15 : Nat) = 0 := if_pos (by omega)
    rw [e11] at main
    refine Z9y (keep := [0, 1, 2, 3, 9]) ?_
    ((repeat (first | refine Z9v rfl ?_ | refine Z9w ?_)); refine Z9u ?_)
    exact main
end Go.Abs
namespace Go.Abs
open Go Go.Proofs Go.Abs.Lz
set_option linter.unusedVariables false
set_option linter.unusedSimpArgs false
def ints (l : List Int) : List Z0 := l.map fun n => .int .i64 n
theorem Zki (l : List Int) : (ints l).length = l.length := by simp [ints]
theorem Zkj (l : List Int) (i : Nat) : (ints l)[i]? = (l[i]?).map fun n => .int .i64 n := by simp [ints]
theorem Zkk (l : List Int) (i : Nat) (n : Int) : (ints l).set i (.int .i64 n) = ints (l.set i n) := by simp [ints, List.map_set]
theorem Zkl (σ : Zc) : Z1q Try.prog Zd8 [] σ fun r σ' => ∃ b, b ∉ Zh σ ∧ r = .arr 1 b 0 4096 ∧ σ' = (b, .cells 1 (ints (List.replicate 4096 (-1)))) :: σ := by
  refine Z8t rfl Zk9 (Nat.le_of_ble_eq_true rfl) ?_
  refine Z9z ?_
  (repeat (refine st_q rfl rfl rfl ?_))
  refine Z8y ?_
  refine Z9u ?_
  refine Z9z ?_
  refine Z9l rfl (Z0.fit_iff.1 rfl) (by omega) (by omega) (by omega) (by omega) fun b hb => ?_
  have hz : ∃ ys : List Int, ys.length = 4096 ∧ List.replicate (4096 : Int).toNat (Z0.int .i64 0) = ints ys := ⟨List.replicate 4096 0, List.length_replicate, (List.map_replicate (f := fun n => Z0.int .i64 n)).symm⟩
  obtain ⟨ys, hys, e0⟩ := hz
  rw [e0]
  change aops _ _ (fset _ (some (.arr 1 b 0 4096)) _) _ _
  (repeat (refine st_q rfl rfl rfl ?_))
  (refine Z8y ?_; (repeat (first | refine Z9v rfl ?_ | refine Z9w ?_)); refine Z9u ?_)
  refine Za5 ?_
  refine Zad ?_
  (repeat (refine st_q rfl rfl rfl ?_))
  (refine Z8y ?_; (repeat (first | refine Z9v rfl ?_ | refine Z9w ?_)); refine Z9u ?_)
  refine Z8h ?_
  refine Zaa (fun k F σ' => ∃ (j : Nat) (ys : List Int), F = fset 1 (some (.arr 1 b 0 4096)) (fset 5 (some (.int .i64 (4096 : Nat))) (fset 6 (some (.int .i64 j)) Z27)) ∧ σ' = (b, .cells 1 (ints ys)) :: σ ∧ ys.length = 4096 ∧ j ≤ 4096 ∧ k = 4096 - j ∧ ∀ i, i < j → ys[i]? = some (-1)) (n := 4096)
    ⟨0, ys, rfl, rfl, hys, by omega, by omega, fun i h => absurd h (by omega)⟩ ?_
  rintro k F σ' ⟨j, ys, rfl, rfl, hl, hj, rfl, hm⟩
  refine Z9z ?_
  (repeat (refine st_q rfl rfl rfl ?_))
  (refine Z8y ?_; (repeat (first | refine Z9v rfl ?_ | refine Z9w ?_)); refine Z9u ?_)
  refine Za2 (p := (j : Int) < (4096 : Nat)) rfl (fun h => ?_) (fun h => ?_)
  · refine Za4 ?_
    refine Za6 ?_
    refine Z9z ?_
    (repeat (refine st_q rfl rfl rfl ?_))
    (refine Z8y ?_; (repeat (first | refine Z9v rfl ?_ | refine Z9w ?_)); refine Z9u ?_)
    obtain ⟨y, hy⟩ : ∃ y, ys[j]? = some y := ⟨ys[j], List.getElem?_eq_getElem (by omega)⟩
    have hy' : (ints ys)[0 + (j : Int).toNat]? = some (.int .i64 y) := by rw [Zkj, Nat.zero_add]; simp [hy]
    refine awp_region ?_
    refine st_q rfl rfl rfl ?_
    refine st_q rfl rfl rfl ?_
    refine Z94 rfl ⟨by omega, by omega⟩ ?_
    refine Z9a rfl Z8z hy' (by decide) (Z0.fit_iff.1 rfl) (fun _ => ⟨rfl, rfl⟩) Z9b ?_
    refine Z8y ?_
    refine Z9y (keep := [1, 5, 6]) ?_
    ((repeat (first | refine Z9v rfl ?_ | refine Z9w ?_)); refine Z9u ?_)
    have e1 : (ints ys).set (0 + (j : Int).toNat) (Z1r (.int .i64 y) 0 (Z0.int .i64 (-1)).cells) = ints (ys.set j (-1)) := by
      rw [← Zkk, Nat.zero_add]; rfl
    rw [e1]
    have e2 : IntKind.wrap .i64 ((j : Int) + 1) = ((j + 1 : Nat) : Int) := by rw [w64 _ (by omega) (by omega)]; omega
    refine awp_region ?_
    (repeat (refine st_q rfl rfl rfl ?_))
    rw [e2]
    refine Z8y ?_
    refine Zac (keep := [1, 5, 6]) ?_
    ((repeat (first | refine Z9v rfl ?_ | refine Z9w ?_)); refine Z9u ?_)
    refine ⟨_, 4096 - (j + 1), HSub.refl _, ⟨j + 1, ys.set j (-1), rfl, rfl, by simp [hl], by omega, rfl, ?_⟩, by omega⟩
    intro i hi
    rw [List.getElem?_set]
    by_cases hij : j = i
    · subst hij; simp; omega
    · simp [hij]; exact hm i (by omega)
  · refine Z8c ?_
    show AWp _ _ _ _ _ _
    refine Z9z ?_
    (repeat (refine st_q rfl rfl rfl ?_))
    (refine Z8y ?_; (repeat (first | refine Z9v rfl ?_ | refine Z9w ?_)); refine Z9u ?_)
    refine Z8d ?_
    have e3 : ys = List.replicate 4096 (-1) := by
      apply List.ext_getElem?
      intro i
      rw [List.getElem?_replicate]
      by_cases hi : i < 4096
      · rw [if_pos hi]; exact hm i (by omega)
      · rw [if_neg hi]; exact List.getElem?_eq_none (by omega)
    rw [e3]
    exact ares rfl (HSub.refl _) ⟨b, hb, rfl, rfl⟩
theorem Zkm (a b : Nat) (ha : a < 4294967296) (hb : b < 4294967296) : intBits .or .u32 (a : Int) (b : Int) = ((a ||| b : Nat) : Int) := by
  have h1 : a ||| b < 2 ^ 32 := Nat.or_lt_two_pow (by omega) (by omega)
  show IntKind.wrap .u32 ((BitVec.ofInt 32 (a : Int) ||| BitVec.ofInt 32 (b : Int)).toNat : Int) = _
  rw [BitVec.toNat_or, BitVec.ofInt_natCast, BitVec.ofInt_natCast, BitVec.toNat_ofNat, BitVec.toNat_ofNat, Nat.mod_eq_of_lt (by omega), Nat.mod_eq_of_lt (by omega), w32]
  omega
theorem Zkn (a b i : Nat) (ha : a < 2 ^ i) (hi : a + b * 2 ^ i < 4294967296) : intBits .or .u32 (a : Int) ((b * 2 ^ i : Nat) : Int) = ((a + b * 2 ^ i : Nat) : Int) := by
  have e : a ||| b * 2 ^ i = a + b * 2 ^ i := by
    have := Nat.shiftLeft_add_eq_or_of_lt (i := i) (b := a) ha b
    rw [Nat.shiftLeft_eq] at this
    rw [Nat.or_comm, ← this, Nat.add_comm]
  rw [Zkm _ _ (by omega) (by omega), e]
theorem Zko {σ : Zc} {l : List UInt8} {f : Bool} (hl : 4 ≤ l.length) : Z1q Try.prog Zdb [.slc 1 (bytes l) f] σ fun r σ' => r = .int .i64 (Zfk l : Nat) ∧ σ' = σ := by
  obtain ⟨a, b, c, d, r, rfl⟩ : ∃ a b c d r, l = a :: b :: c :: d :: r := by
    match l, hl with
    | a :: b :: c :: d :: r, _ => exact ⟨a, b, c, d, r, rfl⟩
  have ha := a.toNat_lt
  have hb := b.toNat_lt
  have hc := c.toNat_lt
  have hd := d.toNat_lt
  simp only [Nat.reducePow] at ha hb hc hd
  refine Z8t rfl Zkb (Nat.le_of_ble_eq_true rfl) ?_
  refine Z9z ?_
  (repeat (refine st_q rfl rfl rfl ?_))
  (refine Z8y ?_; (repeat (first | refine Z9v rfl ?_ | refine Z9w ?_)); refine Z9u ?_)
  refine Z9z ?_
  (repeat (refine st_q rfl rfl rfl ?_))
  (refine Z8y ?_; (repeat (first | refine Z9v rfl ?_ | refine Z9w ?_)); refine Z9u ?_)
  refine Z9z ?_
  (repeat (refine st_q rfl rfl rfl ?_))
  (refine Z8y ?_; (repeat (first | refine Z9v rfl ?_ | refine Z9w ?_)); refine Z9u ?_)
  refine Z8d ?_
  refine ares rfl (HSub.refl _) ⟨?_, rfl⟩
  have e1 : ∀ x : Nat, x < 4294967296 → IntKind.wrap .u32 (x : Int) = (x : Int) := fun x hx => by rw [w32]; omega
  have e2 : IntKind.wrap .u32 ((b.toNat : Int) * 256) = ((b.toNat * 2 ^ 8 : Nat) : Int) := by rw [w32]; omega
  have e3 : IntKind.wrap .u32 ((c.toNat : Int) * 65536) = ((c.toNat * 2 ^ 16 : Nat) : Int) := by rw [w32]; omega
  have e4 : IntKind.wrap .u32 ((d.toNat : Int) * 16777216) = ((d.toNat * 2 ^ 24 : Nat) : Int) := by rw [w32]; omega
  show Z0.int .i64 (IntKind.wrap .i64 (Int.fdiv (IntKind.wrap .u32 (intBits .or .u32 (intBits .or .u32 (intBits .or .u32 (IntKind.wrap .u32 (a.toNat : Int)) (IntKind.wrap .u32 (IntKind.wrap .u32 (b.toNat : Int) * 256)))
    (IntKind.wrap .u32 (IntKind.wrap .u32 (c.toNat : Int) * 65536))) (IntKind.wrap .u32 (IntKind.wrap .u32 (d.toNat : Int) * 16777216)) * 2654435761)) 1048576)) = _
  rw [e1 _ (by omega), e1 _ (by omega), e1 _ (by omega), e1 _ (by omega), e2, e3, e4, Zkn _ _ 8 (by omega) (by omega), Zkn _ _ 16 (by omega) (by omega), Zkn _ _ 24 (by omega) (by omega)]
  have e5 : ∀ v : Nat, IntKind.wrap .u32 ((v : Int) * 2654435761) = ((v * 2654435761 % 4294967296 : Nat) : Int) := fun v => by rw [w32]; omega
  rw [e5, Int.fdiv_eq_ediv_of_nonneg _ (by omega)]
  simp only [Zfk, Zfj, Nat.reducePow]
  have hy : (a.toNat + b.toNat * 256 + c.toNat * 65536 + d.toNat * 16777216) * 2654435761 % 4294967296 < 4294967296 := Nat.mod_lt _ (by omega)
  generalize (a.toNat + b.toNat * 256 + c.toNat * 65536 + d.toNat * 16777216) * 2654435761 % 4294967296 = y at *
  rw [w64 _ (by omega) (by omega)]
  rfl
theorem Zkp {σ : Zc} {a b : List UInt8} {f g : Bool} (hla : a.length ≤ 140737488355328) : Z1q Try.prog Zdc [.slc 1 (bytes a) f, .slc 1 (bytes b) g] σ fun r σ' => r = .bool (decide (a = b)) ∧ σ' = σ := by
  refine Z8t rfl Zkc (Nat.le_of_ble_eq_true rfl) ?_
  refine Z9z ?_
  (repeat (refine st_q rfl rfl rfl ?_))
  (refine Z8y ?_; (repeat (first | refine Z9v rfl ?_ | refine Z9w ?_)); refine Z9u ?_)
  refine Za5 ?_
  refine Zad ?_
  (repeat (refine st_q rfl rfl rfl ?_))
  (refine Z8y ?_; (repeat (first | refine Z9v rfl ?_ | refine Z9w ?_)); refine Z9u ?_)
  refine Za3 (p := ((bytes a).length : Int) ≠ ((bytes b).length : Int)) rfl (fun h => ?_) (fun h => ?_)
  all_goals rw [Zam, Zam] at h
  · refine Z9z ?_
    (repeat (refine st_q rfl rfl rfl ?_))
    (refine Z8y ?_; (repeat (first | refine Z9v rfl ?_ | refine Z9w ?_)); refine Z9u ?_)
    refine Z8d ?_
    have e : decide (a = b) = false := decide_eq_false (fun e => h (by rw [e]))
    rw [e]
    exact ares rfl (HSub.refl _) ⟨rfl, rfl⟩
  refine Za4 ?_
  have hlen : a.length = b.length := by omega
  refine Za5 ?_
  refine Zad ?_
  (repeat (refine st_q rfl rfl rfl ?_))
  (refine Z8y ?_; (repeat (first | refine Z9v rfl ?_ | refine Z9w ?_)); refine Z9u ?_)
  refine Z8h ?_
  refine Zaa (fun k F σ' => ∃ (j : Nat), F = fset 0 (some (.slc 1 (bytes a) f)) (fset 1 (some (.slc 1 (bytes b) g)) (fset 12 (some (.int .i64 ((bytes a).length : Nat))) (fset 13 (some (.int .i64 j)) Z27))) ∧ σ' = σ ∧ j ≤ a.length ∧ k = a.length - j ∧ a.take j = b.take j) (n := a.length)
    ⟨0, rfl, rfl, by omega, by omega, by simp⟩ ?_
  rintro k F σ' ⟨j, rfl, rfl, hj, rfl, hm⟩
  refine Z9z ?_
  (repeat (refine st_q rfl rfl rfl ?_))
  (refine Z8y ?_; (repeat (first | refine Z9v rfl ?_ | refine Z9w ?_)); refine Z9u ?_)
  refine Za2 (p := (j : Int) < ((bytes a).length : Nat)) rfl (fun h2 => ?_) (fun h2 => ?_)
  all_goals rw [Zam] at h2
  · refine Za4 ?_
    refine Za6 ?_
    refine Z9z ?_
    (repeat (refine st_q rfl rfl rfl ?_))
    (refine Z8y ?_; (repeat (first | refine Z9v rfl ?_ | refine Z9w ?_)); refine Z9u ?_)
    obtain ⟨x, hx⟩ : ∃ x, a[j]? = some x := ⟨a[j], List.getElem?_eq_getElem (by omega)⟩
    obtain ⟨y, hy⟩ : ∃ y, b[j]? = some y := ⟨b[j], List.getElem?_eq_getElem (by omega)⟩
    have hx' : (bytes a)[(j : Int).toNat]? = some (Zx x) := by rw [Zao]; simp [hx]
    have hy' : (bytes b)[(j : Int).toNat]? = some (Zx y) := by rw [Zao]; simp [hy]
    refine Z9z ?_
    refine st_q rfl rfl rfl ?_
    refine st_q rfl rfl rfl ?_
    refine Z93 rfl (by omega) hx' ?_
    refine st_q rfl rfl rfl ?_
    refine st_q rfl rfl rfl ?_
    refine st_q rfl rfl rfl ?_
    refine Z93 rfl (by omega) hy' ?_
    (repeat (refine st_q rfl rfl rfl ?_))
    (refine Z8y ?_; (repeat (first | refine Z9v rfl ?_ | refine Z9w ?_)); refine Z9u ?_)
    refine Za3 (p := ((x.toNat : Int) ≠ (y.toNat : Int))) rfl (fun h3 => ?_) (fun h3 => ?_)
    · refine Z9z ?_
      (repeat (refine st_q rfl rfl rfl ?_))
      (refine Z8y ?_; (repeat (first | refine Z9v rfl ?_ | refine Z9w ?_)); refine Z9u ?_)
      refine Z8d ?_
      have e : decide (a = b) = false := decide_eq_false (fun e => by subst e; rw [hx] at hy; cases hy; exact h3 rfl)
      rw [e]
      exact ares rfl (HSub.refl _) ⟨rfl, rfl⟩
    · refine Z8b ?_
      have e2 : IntKind.wrap .i64 ((j : Int) + 1) = ((j + 1 : Nat) : Int) := by rw [w64 _ (by omega) (by omega)]; omega
      refine Z9y (keep := [0, 1, 12, 13]) ?_
      ((repeat (first | refine Z9v rfl ?_ | refine Z9w ?_)); refine Z9u ?_)
      refine awp_region ?_
      (repeat (refine st_q rfl rfl rfl ?_))
      rw [e2]
      refine Z8y ?_
      refine Zac (keep := [0, 1, 12, 13]) ?_
      ((repeat (first | refine Z9v rfl ?_ | refine Z9w ?_)); refine Z9u ?_)
      refine ⟨_, a.length - (j + 1), HSub.refl _, ⟨j + 1, rfl, rfl, by omega, rfl, ?_⟩, by omega⟩
      have hxy : x = y := UInt8.toNat_inj.1 (by omega)
      subst hxy
      rw [List.take_add_one, List.take_add_one, hx, hy, hm]
  · refine Z8c ?_
    show AWp _ _ _ _ _ _
    refine Z9z ?_
    (repeat (refine st_q rfl rfl rfl ?_))
    (refine Z8y ?_; (repeat (first | refine Z9v rfl ?_ | refine Z9w ?_)); refine Z9u ?_)
    refine Z8d ?_
    have e3 : a = b := by
      rw [List.take_of_length_le (by omega), List.take_of_length_le (by omega)] at hm
      exact hm
    have e : decide (a = b) = true := decide_eq_true e3
    rw [e]
    exact ares rfl (HSub.refl _) ⟨rfl, rfl⟩
end Go.Abs
namespace Go.Abs
open Go Go.Proofs Go.Abs.Lz
set_option linter.unusedVariables false
set_option linter.unusedSimpArgs false
theorem Zkq {bs : List UInt8} {t : List Int} {from_ at_ : Nat} {out : List UInt8} (h : at_ + 4 ≤ bs.length) {old : Int} (ho : t.getD (Zfk (bs.drop at_)) 0 = old) (h2 : old < 0 ∨ 65535 < (at_ : Int) - old ∨ (bs.drop old.toNat).take 4 ≠ (bs.drop at_).take 4) :
    Zfn bs t from_ at_ out = Zfn bs (t.set (Zfk (bs.drop at_)) at_) from_ (at_ + 1) out := by
  subst ho
  rw [Zfn, dif_pos h, if_pos h2]
theorem Zkr {bs : List UInt8} {t : List Int} {from_ at_ : Nat} {out : List UInt8} (h : at_ + 4 ≤ bs.length) {old : Nat} (ho : t.getD (Zfk (bs.drop at_)) 0 = (old : Int)) (h2 : ¬ ((old : Int) < 0 ∨ 65535 < (at_ : Int) - (old : Int) ∨ (bs.drop old).take 4 ≠ (bs.drop at_).take 4)) {n : Nat} (hn : runF bs old at_ 4 = n) :
    Zfn bs t from_ at_ out = Zfn bs (t.set (Zfk (bs.drop at_)) at_) (at_ + n) (at_ + n) (out ++ putF ((bs.drop from_).take (at_ - from_)) (at_ - old) n) := by
  subst hn
  rw [Zfn, dif_pos h, if_neg (by rw [ho]; exact h2), ho]
  rfl
theorem Zks {bs : List UInt8} {t : List Int} {from_ at_ : Nat} {out : List UInt8} (h : ¬ at_ + 4 ≤ bs.length) : Zfn bs t from_ at_ out = out ++ putF (bs.drop from_) 0 0 := by
  rw [Zfn, dif_neg h]
def Zkt (bs : List UInt8) (f : Bool) (tb : Nat) (τ : Zc) (X : List UInt8) (k : Nat) (F : Z26) (σ : Zc) : Prop :=
  ∃ (at_ from_ : Nat) (t : List Int) (out : List UInt8) (v : Z0) (β : Zc),
    F = fset 0 (some (.arr 1 tb 0 4096)) (fset 1 (some (.slc 1 (bytes bs) f)) (fset 5 (some v) (fset 6 (some (.int .i64 from_)) (fset 7 (some (.int .i64 at_)) Z27)))) ∧
    σ = β ++ (tb, .cells 1 (ints t)) :: τ ∧ Grow v out β ∧ t.length = 4096 ∧ from_ ≤ at_ ∧ at_ ≤ bs.length ∧ (∀ (i : Nat) (x : Int), t[i]? = some x → -1 ≤ x ∧ x < at_) ∧ out.length ≤ 2 * from_ ∧ k = bs.length - at_ ∧ Zfn bs t from_ at_ out = X
theorem Zku {bs : List UInt8} {f : Bool} {tb : Nat} {H : Zc} {v : Z0} {from_ at_ : Nat} {old : Int} (hb : bs.length ≤ 1048576) (h4 : at_ + 4 ≤ bs.length) (hlo : -1 ≤ old) (hhi : old < at_) :
    aops Try.prog Zii (fset 0 (some (.arr 1 tb 0 4096)) (fset 1 (some (.slc 1 (bytes bs) f)) (fset 5 (some v) (fset 6 (some (.int .i64 from_)) (fset 7 (some (.int .i64 at_)) (fset 9 (some (.int .i64 old)) Z27)))))) H
      (fun F' σ' => σ' = H ∧ ∃ d : Bool, (d = true ↔ (old < 0 ∨ 65535 < (at_ : Int) - old ∨ (bs.drop old.toNat).take 4 ≠ (bs.drop at_).take 4)) ∧
      KP [0, 1, 5, 6, 7, 9, 49] F' fun G => G = fset 0 (some (.arr 1 tb 0 4096)) (fset 1 (some (.slc 1 (bytes bs) f)) (fset 5 (some v) (fset 6 (some (.int .i64 from_)) (fset 7 (some (.int .i64 at_)) (fset 9 (some (.int .i64 old)) (fset 49 (some (.bool d)) Z27))))))) := by
  have e1 : IntKind.wrap .i64 ((at_ : Int) + 4) = ((at_ + 4 : Nat) : Int) := by rw [w64 _ (by omega) (by omega)]; omega
  (repeat (refine st_q rfl rfl rfl ?_))
  by_cases h5 : old < 0
  · have hd : decide (old < 0) = true := decide_eq_true h5
    rw [hd]
    (repeat (refine Z8w rfl ?_))
    (repeat (refine st_q rfl rfl rfl ?_))
    (repeat (refine Z8w rfl ?_))
    (repeat (refine st_q rfl rfl rfl ?_))
    refine Z8y ⟨rfl, true, by simp [h5], ?_⟩
    ((repeat (first | refine Z9v rfl ?_ | refine Z9w ?_)); refine Z9u ?_)
    rfl
  have hd : decide (old < 0) = false := decide_eq_false h5
  rw [hd]
  (repeat (refine Z8v rfl (st_q rfl rfl rfl ?_)))
  have e4 : IntKind.wrap .i64 ((at_ : Int) - old) = (at_ : Int) - old := w64 _ (by omega) (by omega)
  rw [e4]
  (repeat (refine st_q rfl rfl rfl ?_))
  by_cases h6 : 65535 < (at_ : Int) - old
  · have hd2 : decide (65535 < (at_ : Int) - old) = true := decide_eq_true h6
    rw [hd2]
    (repeat (refine Z8w rfl ?_))
    (repeat (refine st_q rfl rfl rfl ?_))
    refine Z8y ⟨rfl, true, by simp [h6], ?_⟩
    ((repeat (first | refine Z9v rfl ?_ | refine Z9w ?_)); refine Z9u ?_)
    rfl
  have hd2 : decide (65535 < (at_ : Int) - old) = false := decide_eq_false h6
  rw [hd2]
  obtain ⟨o, rfl⟩ : ∃ o : Nat, old = o := ⟨old.toNat, by omega⟩
  have e5 : IntKind.wrap .i64 ((o : Int) + 4) = ((o + 4 : Nat) : Int) := by rw [w64 _ (by omega) (by omega)]; omega
  (repeat (refine Z8v rfl (st_q rfl rfl rfl ?_)))
  rw [e5]
  refine Z8v rfl (Z99 rfl rfl ⟨by omega, by omega, by rw [Zam]; omega, by omega⟩ ?_)
  have e6 : ((bytes bs).drop ((o : Int).toNat)).take (((o + 4 : Nat) : Int) - (o : Int)).toNat = bytes ((bs.drop o).take 4) := by
    rw [Zap, Zaq]; congr 2; omega
  rw [e6]
  (repeat (refine Z8v rfl (st_q rfl rfl rfl ?_)))
  rw [e1]
  refine Z8v rfl (Z99 rfl rfl ⟨by omega, by omega, by rw [Zam]; omega, by omega⟩ ?_)
  have e7 : ((bytes bs).drop ((at_ : Int).toNat)).take (((at_ + 4 : Nat) : Int) - (at_ : Int)).toNat = bytes ((bs.drop at_).take 4) := by
    rw [Zap, Zaq]; congr 2; omega
  rw [e7]
  refine Z8v rfl (Z9t rfl (Zkp (by rw [List.length_take]; omega)) ?_)
  (repeat (refine Z8v rfl (st_q rfl rfl rfl ?_)))
  (repeat (refine st_q rfl rfl rfl ?_))
  refine Z8y ⟨rfl, !decide ((bs.drop o).take 4 = (bs.drop at_).take 4), ?_, ?_⟩
  · simp only [Int.toNat_natCast, Bool.not_eq_true', decide_eq_false_iff_not]
    exact ⟨fun h => .inr (.inr h), fun h => by rcases h with h | h | h <;> first | exact absurd h h5 | exact absurd h h6 | exact h⟩
  · ((repeat (first | refine Z9v rfl ?_ | refine Z9w ?_)); refine Z9u ?_)
    rfl
theorem Zkv {bs : List UInt8} {f : Bool} {tb : Nat} {H : Zc} {v : Z0} {from_ at_ o n : Nat} (hb : bs.length ≤ 1048576) (hlo : -1 ≤ (o : Int)) (hhi : (o : Int) < at_) (hnl : at_ + n ≤ bs.length) :
    aops Try.prog Zil (fset 0 (some (.arr 1 tb 0 4096)) (fset 1 (some (.slc 1 (bytes bs) f)) (fset 5 (some v) (fset 6 (some (.int .i64 from_)) (fset 7 (some (.int .i64 at_)) (fset 9 (some (.int .i64 o)) (fset 10 (some (.int .i64 n)) Z27))))))) H
      (fun F' σ' => σ' = H ∧ ∃ d : Bool, (d = true ↔ (at_ + n < bs.length ∧ bs.getD (o + n) 0 = bs.getD (at_ + n) 0)) ∧
      KP [0, 1, 5, 6, 7, 9, 10, 72] F' fun G => G = fset 0 (some (.arr 1 tb 0 4096)) (fset 1 (some (.slc 1 (bytes bs) f)) (fset 5 (some v) (fset 6 (some (.int .i64 from_)) (fset 7 (some (.int .i64 at_)) (fset 9 (some (.int .i64 o)) (fset 10 (some (.int .i64 n)) (fset 72 (some (.bool d)) Z27)))))))) := by
  have e9 : IntKind.wrap .i64 ((at_ : Int) + (n : Int)) = ((at_ + n : Nat) : Int) := by rw [w64 _ (by omega) (by omega)]; omega
  have e10 : IntKind.wrap .i64 ((o : Int) + (n : Int)) = ((o + n : Nat) : Int) := by rw [w64 _ (by omega) (by omega)]; omega
  (repeat (refine st_q rfl rfl rfl ?_))
  rw [e9]
  by_cases h6 : at_ + n < bs.length
  · have hd : decide (((at_ + n : Nat) : Int) < ((bytes bs).length : Int)) = true := decide_eq_true (by rw [Zam]; omega)
    rw [hd]
    have hx : bs[o + n]? = some (bs.getD (o + n) 0) := by rw [List.getD_eq_getElem?_getD, List.getElem?_eq_getElem (by omega)]; rfl
    have hy : bs[at_ + n]? = some (bs.getD (at_ + n) 0) := by rw [List.getD_eq_getElem?_getD, List.getElem?_eq_getElem (by omega)]; rfl
    generalize bs.getD (o + n) 0 = x at *
    generalize bs.getD (at_ + n) 0 = y at *
    have hx' : (bytes bs)[((o + n : Nat) : Int).toNat]? = some (Zx x) := by rw [Zao, Int.toNat_natCast, hx]; rfl
    have hy' : (bytes bs)[((at_ + n : Nat) : Int).toNat]? = some (Zx y) := by rw [Zao, Int.toNat_natCast, hy]; rfl
    (repeat (refine Z8v rfl (st_q rfl rfl rfl ?_)))
    rw [e10]
    refine Z8v rfl (Z93 rfl (by omega) hx' ?_)
    (repeat (refine Z8v rfl (st_q rfl rfl rfl ?_)))
    rw [e9]
    refine Z8v rfl (Z93 rfl (by omega) hy' ?_)
    (repeat (refine Z8v rfl (st_q rfl rfl rfl ?_)))
    (repeat (refine st_q rfl rfl rfl ?_))
    refine Z8y ⟨rfl, decide ((x.toNat : Int) = (y.toNat : Int)), ?_, ?_⟩
    · simp only [decide_eq_true_eq]
      exact ⟨fun h => ⟨h6, UInt8.toNat_inj.1 (by omega)⟩, fun h => by rw [h.2]⟩
    · ((repeat (first | refine Z9v rfl ?_ | refine Z9w ?_)); refine Z9u ?_)
      rfl
  · have hd : decide (((at_ + n : Nat) : Int) < ((bytes bs).length : Int)) = false := decide_eq_false (by rw [Zam]; omega)
    rw [hd]
    (repeat (refine Z8w rfl ?_))
    (repeat (refine st_q rfl rfl rfl ?_))
    refine Z8y ⟨rfl, false, by simp [h6], ?_⟩
    ((repeat (first | refine Z9v rfl ?_ | refine Z9w ?_)); refine Z9u ?_)
    rfl
end Go.Abs
namespace Go.Abs
open Go Go.Proofs Go.Abs.Lz
set_option linter.unusedVariables false
set_option linter.unusedSimpArgs false
theorem Zkw {bs : List UInt8} {f : Bool} {tb : Nat} {τ β : Zc} {T : Zb} {v : Z0} {out : List UInt8} {from_ at_ o : Nat} {Q : Z87} (hb : bs.length ≤ 1048576) (h4 : at_ + 4 ≤ bs.length) (hlo : -1 ≤ (o : Int)) (hhi : (o : Int) < at_) (hfa : from_ ≤ at_) (hal : at_ ≤ bs.length) (hol : out.length ≤ 2 * from_) (ho : Grow v out β)
    (hQ : ∀ (n : Nat) (β' : Zc) (r : Z0), runF bs o at_ 4 = n → 4 ≤ n → at_ + n ≤ bs.length → Grow r (out ++ putF ((bs.drop from_).take (at_ - from_)) (at_ - o) n) β' →
      ∀ F, FSub (fset 0 (some (.arr 1 tb 0 4096)) (fset 1 (some (.slc 1 (bytes bs) f)) (fset 5 (some r) (fset 6 (some (.int .i64 (at_ + n : Nat))) (fset 7 (some (.int .i64 (at_ + n : Nat))) Z27))))) F → Q .normal F (β' ++ (tb, T) :: τ)) :
    AWp Try.prog Zit.n ((Zir.snd 1).body.snd 4) Q (fset 0 (some (.arr 1 tb 0 4096)) (fset 1 (some (.slc 1 (bytes bs) f)) (fset 5 (some v) (fset 6 (some (.int .i64 from_)) (fset 7 (some (.int .i64 at_)) (fset 9 (some (.int .i64 o)) Z27)))))) (β ++ (tb, T) :: τ) := by
  generalize hH : β ++ (tb, T) :: τ = H
  refine Z9z ?_
  (repeat (refine st_q rfl rfl rfl ?_))
  (refine Z8y ?_; (repeat (first | refine Z9v rfl ?_ | refine Z9w ?_)); refine Z9u ?_)
  refine Za6 ?_
  refine Zaa (fun k F' σ' => ∃ n : Nat, F' = fset 0 (some (.arr 1 tb 0 4096)) (fset 1 (some (.slc 1 (bytes bs) f)) (fset 5 (some v) (fset 6 (some (.int .i64 from_)) (fset 7 (some (.int .i64 at_)) (fset 9 (some (.int .i64 o)) (fset 10 (some (.int .i64 n)) Z27)))))) ∧
    σ' = H ∧ 4 ≤ n ∧ at_ + n ≤ bs.length ∧ k = bs.length - (at_ + n) ∧ runF bs o at_ n = runF bs o at_ 4) (n := bs.length - (at_ + 4)) ⟨4, rfl, rfl, by omega, h4, rfl, rfl⟩ ?_
  rintro k F'' σ2 ⟨n, rfl, hσ2, hn4, hnl, rfl, hrun⟩
  rw [hσ2]
  have e9 : IntKind.wrap .i64 ((at_ : Int) + (n : Int)) = ((at_ + n : Nat) : Int) := by rw [w64 _ (by omega) (by omega)]; omega
  have e10 : IntKind.wrap .i64 ((o : Int) + (n : Int)) = ((o + n : Nat) : Int) := by rw [w64 _ (by omega) (by omega)]; omega
  refine Za5 ?_
  refine Zae (fun F' σ' => σ' = H ∧ ∃ d : Bool, (d = true ↔ (at_ + n < bs.length ∧ bs.getD (o + n) 0 = bs.getD (at_ + n) 0)) ∧
    KP [0, 1, 5, 6, 7, 9, 10, 72] F' fun G => G = fset 0 (some (.arr 1 tb 0 4096)) (fset 1 (some (.slc 1 (bytes bs) f)) (fset 5 (some v) (fset 6 (some (.int .i64 from_)) (fset 7 (some (.int .i64 at_)) (fset 9 (some (.int .i64 o)) (fset 10 (some (.int .i64 n)) (fset 72 (some (.bool d)) Z27)))))))) ?_ ?_
  · exact Zkv hb hlo hhi hnl
  rintro F3 σ3 ⟨hσ3, d2, hd2, hkp2⟩
  rw [hσ3]
  obtain ⟨G2, hG2, rfl⟩ := hkp2
  refine Z9y (keep := [0, 1, 5, 6, 7, 9, 10, 72]) ⟨_, hG2, ?_⟩
  refine Z8f rfl (fun h6 => ?_) (fun h6 => ?_)
  · refine Za4 ?_
    obtain ⟨h7, h8⟩ := hd2.1 h6
    have e11 : IntKind.wrap .i64 ((n : Int) + 1) = ((n + 1 : Nat) : Int) := by rw [w64 _ (by omega) (by omega)]; omega
    refine Z8h ?_
    refine awp_region ?_
    (repeat (refine st_q rfl rfl rfl ?_))
    rw [e11]
    refine Z8y ?_
    refine Zac (keep := [0, 1, 5, 6, 7, 9, 10]) ?_
    ((repeat (first | refine Z9v rfl ?_ | refine Z9w ?_)); refine Z9u ?_)
    refine ⟨_, bs.length - (at_ + (n + 1)), HSub.refl _, ⟨n + 1, rfl, rfl, by omega, by omega, rfl, ?_⟩, by omega⟩
    rw [← hrun]
    conv => rhs; rw [runF, dif_pos h7, if_pos h8]
  refine Z8c ?_
  show AWp _ _ _ _ _ _
  have hrn : runF bs o at_ 4 = n := by
    rw [← hrun, runF]
    by_cases h7 : at_ + n < bs.length
    · rw [dif_pos h7, if_neg (fun h8 => by rw [hd2.2 ⟨h7, h8⟩] at h6; cases h6)]
    · rw [dif_neg h7]
  refine Z9y (keep := [0, 1, 5, 6, 7, 9, 10]) ?_
  ((repeat (first | refine Z9v rfl ?_ | refine Z9w ?_)); refine Z9u ?_)
  refine Z9z ?_
  (repeat (refine st_q rfl rfl rfl ?_))
  refine Z99 rfl rfl ⟨by omega, by omega, by rw [Zam]; omega, by omega⟩ ?_
  have e12 : ((bytes bs).drop ((from_ : Int).toNat)).take ((at_ : Int) - (from_ : Int)).toNat = bytes ((bs.drop from_).take (at_ - from_)) := by
    rw [Zap, Zaq]; congr 2; omega
  rw [e12]
  (repeat (refine st_q rfl rfl rfl ?_))
  have e13 : IntKind.wrap .i64 ((at_ : Int) - (o : Int)) = ((at_ - o : Nat) : Int) := by rw [w64 _ (by omega) (by omega)]; omega
  rw [e13]
  have hpl := Zfr ((bs.drop from_).take (at_ - from_)) (at_ - o) n
  have hll : ((bs.drop from_).take (at_ - from_)).length = at_ - from_ := by rw [List.length_take, List.length_drop]; omega
  rw [hll] at hpl
  subst hH
  refine Z9s rfl (Zkh (f := _) (back := at_ - o) (n := n) ho (.inr hn4) (by omega) (by rw [hll]; omega)) ?_ ?_
  · obtain ⟨gv, gβ, hgr⟩ := Grow.ex (out ++ putF ((bs.drop from_).take (at_ - from_)) (at_ - o) n)
    exact ⟨_, _, gβ, hgr, rfl⟩
  rintro r _ ⟨β', ho', rfl⟩
  (repeat (refine st_q rfl rfl rfl ?_))
  refine Z8y ?_
  refine Z9v (i := 0) rfl ?_
  refine Z9v (i := 1) rfl ?_
  refine Z9v (i := 5) rfl ?_
  refine Z9v (i := 7) rfl ?_
  refine Z9v (i := 10) rfl ?_
  (repeat (refine Z9w ?_))
  refine Z9u ?_
  refine Z9z ?_
  (repeat (refine st_q rfl rfl rfl ?_))
  rw [e9]
  (refine Z8y ?_; (repeat (first | refine Z9v rfl ?_ | refine Z9w ?_)); refine Z9u ?_)
  refine awp_region ?_
  (repeat (refine st_q rfl rfl rfl ?_))
  refine Z8y ?_
  refine hQ n β' r hrn hn4 hnl ho' _ ?_
  exact FSub.set (FSub.set (FSub.set (FSub.set (FSub.set (FSub.none _) (fun y e => by cases e; rfl)) (fun y e => by cases e; rfl)) (fun y e => by cases e; rfl)) (fun y e => by cases e; rfl)) (fun y e => by cases e; rfl)
theorem Zkx {τ : Zc} {bs : List UInt8} {f : Bool} {tb : Nat} (hb : bs.length ≤ 1048576) :
    Z1q Try.prog Zd7 [.arr 1 tb 0 4096, .slc 1 (bytes bs) f] ((tb, .cells 1 (ints (List.replicate 4096 (-1)))) :: τ) fun r σ' => ∃ β', Grow r (Zfn bs (List.replicate 4096 (-1)) 0 0 []) β' ∧ σ' = β' ++ τ := by
  generalize hX : Zfn bs (List.replicate 4096 (-1)) 0 0 [] = X
  have ht0 : (List.replicate 4096 (-1 : Int)).length = 4096 := List.length_replicate
  have ht1 : ∀ (i : Nat) (x : Int), (List.replicate 4096 (-1 : Int))[i]? = some x → x = -1 := by
    intro i x h
    have := List.mem_of_getElem? h
    exact List.eq_of_mem_replicate this
  generalize List.replicate 4096 (-1 : Int) = t0 at *
  refine Z8t rfl Zk8 (Nat.le_of_ble_eq_true rfl) ?_
  refine Z9z ?_
  (repeat (refine st_q rfl rfl rfl ?_))
  (refine Z8y ?_; (repeat (first | refine Z9v rfl ?_ | refine Z9w ?_)); refine Z9u ?_)
  refine Z9z ?_
  (repeat (refine st_q rfl rfl rfl ?_))
  (refine Z8y ?_; (repeat (first | refine Z9v rfl ?_ | refine Z9w ?_)); refine Z9u ?_)
  refine Z9z ?_
  (repeat (refine st_q rfl rfl rfl ?_))
  (refine Z8y ?_; (repeat (first | refine Z9v rfl ?_ | refine Z9w ?_)); refine Z9u ?_)
  refine Za5 ?_
  refine Zad ?_
  (repeat (refine st_q rfl rfl rfl ?_))
  (refine Z8y ?_; (repeat (first | refine Z9v rfl ?_ | refine Z9w ?_)); refine Z9u ?_)
  refine Z8h ?_
  refine Zaa (Zkt bs f tb τ X) (n := bs.length) ⟨0, 0, t0, [], .slc 0 [] true, [], rfl, rfl, Grow.nil 0, ht0, by omega, by omega, fun i x h => by rw [ht1 i x h]; omega, by simp, by omega, hX⟩ ?_
  rintro k F σ ⟨at_, from_, t, out, v, β, rfl, rfl, ho, htl, hfa, hal, htb, hol, rfl, hF⟩
  refine Za5 ?_
  refine Zad ?_
  (repeat (refine st_q rfl rfl rfl ?_))
  (refine Z8y ?_; (repeat (first | refine Z9v rfl ?_ | refine Z9w ?_)); refine Z9u ?_)
  have e1 : IntKind.wrap .i64 ((at_ : Int) + 4) = ((at_ + 4 : Nat) : Int) := by rw [w64 _ (by omega) (by omega)]; omega
  rw [e1]
  refine Za3 (p := ((at_ + 4 : Nat) : Int) ≤ ((bytes bs).length : Int)) rfl (fun h => ?_) (fun h => ?_)
  all_goals rw [Zam] at h
  · refine Za4 ?_
    have h4 : at_ + 4 ≤ bs.length := by omega
    refine Z8h ?_
    refine Z9z ?_
    (repeat (refine st_q rfl rfl rfl ?_))
    refine Z99 rfl rfl ⟨by omega, by rw [Zam]; omega, by omega, by omega⟩ ?_
    have e2 : ((bytes bs).drop ((at_ : Int).toNat)).take (((bytes bs).length : Int) - (at_ : Int)).toNat = bytes (bs.drop at_) := by
      rw [Zap, Zaq, Zam]
      congr 1
      exact List.take_of_length_le (by rw [List.length_drop]; omega)
    rw [e2]
    refine Z9t rfl (Zko (by rw [List.length_drop]; omega)) ?_
    (repeat (refine st_q rfl rfl rfl ?_))
    (refine Z8y ?_; (repeat (first | refine Z9v rfl ?_ | refine Z9w ?_)); refine Z9u ?_)
    have hh := Zfl (bs.drop at_)
    generalize hhd : Zfk (bs.drop at_) = hs at *
    obtain ⟨old, hold⟩ : ∃ old, t[hs]? = some old := ⟨t[hs], List.getElem?_eq_getElem (by omega)⟩
    have hgd : t.getD (Zfk (bs.drop at_)) 0 = old := by rw [hhd, List.getD_eq_getElem?_getD, hold]; rfl
    obtain ⟨hlo, hhi⟩ := htb hs old hold
    refine Z89 fun nd => ?_
    have htb' : tb ∉ Zh β := Zgf nd
    have hg : ∀ x, Zd (β ++ (tb, x) :: τ) tb = some x := fun x => by rw [Zah htb']; exact Z8z
    have hst : ∀ x y, Ze (β ++ (tb, x) :: τ) tb y = β ++ (tb, y) :: τ := fun x y => by rw [Zai htb', Z9b]
    have hold' : (ints t)[0 + (hs : Int).toNat]? = some (.int .i64 old) := by rw [Zkj, Nat.zero_add]; simp [hold]
    refine Z9z ?_
    refine st_q rfl rfl rfl ?_
    refine st_q rfl rfl rfl ?_
    refine Z94 rfl ⟨by omega, by omega⟩ ?_
    refine Z92 rfl (hg _) hold' rfl ?_
    (repeat (refine st_q rfl rfl rfl ?_))
    (refine Z8y ?_; (repeat (first | refine Z9v rfl ?_ | refine Z9w ?_)); refine Z9u ?_)
    refine Z9z ?_
    refine st_q rfl rfl rfl ?_
    refine st_q rfl rfl rfl ?_
    refine st_q rfl rfl rfl ?_
    refine Z94 rfl ⟨by omega, by omega⟩ ?_
    refine Z9a rfl (hg _) hold' (by decide) (Z0.fit_iff.1 rfl) (fun _ => ⟨rfl, rfl⟩) (hst _ _) ?_
    refine Z8y ?_
    ((repeat (first | refine Z9v rfl ?_ | refine Z9w ?_)); refine Z9u ?_)
    have e3 : (ints t).set (0 + (hs : Int).toNat) (Z1r (.int .i64 old) 0 (Z0.int .i64 (at_ : Int)).cells) = ints (t.set hs at_) := by
      rw [← Zkk, Nat.zero_add]; rfl
    rw [e3]
    have htl' : (t.set hs (at_ : Int)).length = 4096 := by rw [List.length_set, htl]
    have htb2 : ∀ (m : Nat), at_ < m → ∀ (i : Nat) (x : Int), (t.set hs (at_ : Int))[i]? = some x → -1 ≤ x ∧ x < m := by
      intro m hm i x hx
      rw [List.getElem?_set] at hx
      split at hx
      · split at hx
        · cases hx; omega
        · cases hx
      · have := htb i x hx; omega
    -- what a place that is passed over leaves
    have skip : (old < 0 ∨ 65535 < (at_ : Int) - old ∨ (bs.drop old.toNat).take 4 ≠ (bs.drop at_).take 4) → Zkt bs f tb τ X (bs.length - (at_ + 1))
        (fset 0 (some (.arr 1 tb 0 4096)) (fset 1 (some (.slc 1 (bytes bs) f)) (fset 5 (some v) (fset 6 (some (.int .i64 from_)) (fset 7 (some (.int .i64 (at_ + 1 : Nat))) Z27))))) (β ++ (tb, .cells 1 (ints (t.set hs at_))) :: τ) := fun hsk =>
      ⟨at_ + 1, from_, t.set hs at_, out, v, β, rfl, rfl, ho, htl', by omega, by omega, htb2 _ (by omega), hol, rfl, by rw [← hF, Zkq h4 hgd hsk, hhd]⟩
    generalize hH : β ++ (tb, Zb.cells 1 (ints (t.set hs at_))) :: τ = H at *
    refine Za5 ?_
    refine Zae (fun F' σ' => σ' = H ∧ ∃ d : Bool, (d = true ↔ (old < 0 ∨ 65535 < (at_ : Int) - old ∨ (bs.drop old.toNat).take 4 ≠ (bs.drop at_).take 4)) ∧
      KP [0, 1, 5, 6, 7, 9, 49] F' fun G => G = fset 0 (some (.arr 1 tb 0 4096)) (fset 1 (some (.slc 1 (bytes bs) f)) (fset 5 (some v) (fset 6 (some (.int .i64 from_)) (fset 7 (some (.int .i64 at_)) (fset 9 (some (.int .i64 old)) (fset 49 (some (.bool d)) Z27))))))) ?_ ?_
    · exact Zku hb h4 hlo hhi
    rintro F' σ1 ⟨hσ1, d, hd, hkp⟩
    rw [hσ1]
    refine Z9y (keep := [0, 1, 5, 6, 7, 9, 49]) ?_
    obtain ⟨G, hG1, rfl⟩ := hkp
    refine ⟨_, hG1, ?_⟩
    refine Z8f rfl (fun h5 => ?_) (fun h5 => ?_)
    · have e8 : IntKind.wrap .i64 ((at_ : Int) + 1) = ((at_ + 1 : Nat) : Int) := by rw [w64 _ (by omega) (by omega)]; omega
      refine Z9z ?_
      (repeat (refine st_q rfl rfl rfl ?_))
      rw [e8]
      (refine Z8y ?_; (repeat (first | refine Z9v rfl ?_ | refine Z9w ?_)); refine Z9u ?_)
      refine Z8c ?_
      refine Zac (I := Zkt bs f tb τ X) (keep := [0, 1, 5, 6, 7]) ?_
      ((repeat (first | refine Z9v rfl ?_ | refine Z9w ?_)); refine Z9u ?_)
      exact ⟨_, _, HSub.refl _, skip (hd.1 h5), by omega⟩
    refine Za4 ?_
    have hC : ¬ (old < 0 ∨ 65535 < (at_ : Int) - old ∨ (bs.drop old.toNat).take 4 ≠ (bs.drop at_).take 4) := fun h => by rw [hd.2 h] at h5; cases h5
    obtain ⟨o, rfl⟩ : ∃ o : Nat, old = o := ⟨old.toNat, by omega⟩
    rw [Int.toNat_natCast] at hC
    subst hH
    refine Z9y (keep := [0, 1, 5, 6, 7, 9]) ?_
    ((repeat (first | refine Z9v rfl ?_ | refine Z9w ?_)); refine Z9u ?_)
    refine Zkw hb h4 hlo hhi hfa hal hol ho fun n β' r hrn hn4 hnl ho' F hF' => ?_
    have hpl := Zfr ((bs.drop from_).take (at_ - from_)) (at_ - o) n
    have hll : ((bs.drop from_).take (at_ - from_)).length = at_ - from_ := by rw [List.length_take, List.length_drop]; omega
    rw [hll] at hpl
    refine ⟨_, _, bs.length - (at_ + n), hF', HSub.refl _, ⟨at_ + n, at_ + n, t.set hs at_, _, r, β', rfl, rfl, ho', htl', by omega, hnl, htb2 _ (by omega), ?_, rfl, ?_⟩, by omega⟩
    · rw [List.length_append]; omega
    · rw [← hF, Zkr h4 hgd hC hrn, hhd]
  · refine Z8c ?_
    show AWp _ _ _ _ _ _
    refine Z9z ?_
    (repeat (refine st_q rfl rfl rfl ?_))
    refine Z99 rfl rfl ⟨by omega, by rw [Zam]; omega, by omega, by omega⟩ ?_
    have e2 : ((bytes bs).drop ((from_ : Int).toNat)).take (((bytes bs).length : Int) - (from_ : Int)).toNat = bytes (bs.drop from_) := by
      rw [Zap, Zaq, Zam]
      congr 1
      exact List.take_of_length_le (by rw [List.length_drop]; omega)
    rw [e2]
    refine Z9s rfl (Zkh (back := 0) (n := 0) ho (.inl rfl) (by omega) (by rw [List.length_drop]; omega)) ?_ ?_
    · obtain ⟨gv, gβ, hgr⟩ := Grow.ex (out ++ putF (bs.drop from_) 0 0)
      exact ⟨_, _, gβ, hgr, rfl⟩
    rintro r _ ⟨β', ho', rfl⟩
    (repeat (refine st_q rfl rfl rfl ?_))
    (refine Z8y ?_; (repeat (first | refine Z9v rfl ?_ | refine Z9w ?_)); refine Z9u ?_)
    refine Z8d ?_
    rw [Zks (by omega)] at hF
    rw [hF] at ho'
    exact ares rfl (HSub.of_sublist ((List.Sublist.refl β').append (List.sublist_cons_self _ _))) ⟨β', ho', rfl⟩
end Go.Abs
namespace Go.Abs
open Go Go.Proofs Go.Abs.Lz
set_option linter.unusedVariables false
set_option linter.unusedSimpArgs false
theorem Zky (bs : List UInt8) (t : List Int) (from_ at_ : Nat) (out : List UInt8) : from_ ≤ at_ → at_ ≤ bs.length → (∀ (i : Nat) (x : Int), t[i]? = some x → x < at_) → out.length ≤ 2 * from_ → (Zfn bs t from_ at_ out).length ≤ 5 + 3 * bs.length := by
  fun_induction Zfn bs t from_ at_ out
  · rename_i t from_ at_ out h h2 ih
    intro h3 h4 h5 h6
    refine ih (by omega) (by omega) ?_ h6
    intro i x hx
    rw [List.getElem?_set] at hx
    split at hx
    · split at hx
      · cases hx; omega
      · cases hx
    · have := h5 i x hx; omega
  · rename_i t from_ at_ out h h2 ih
    intro h3 h4 h5 h6
    have hr := Zfm bs (t.getD (Zfk (bs.drop at_)) 0).toNat at_ 4
    have hle : at_ + runF bs (t.getD (Zfk (bs.drop at_)) 0).toNat at_ 4 ≤ bs.length := by
      have : ∀ n, at_ + n ≤ bs.length → at_ + runF bs (t.getD (Zfk (bs.drop at_)) 0).toNat at_ n ≤ bs.length := by
        intro n
        fun_induction runF bs (t.getD (Zfk (bs.drop at_)) 0).toNat at_ n <;> intro hh <;> first | omega | (rename_i ih; exact ih (by omega))
      exact this 4 h
    refine ih (by omega) hle ?_ ?_
    · intro i x hx
      rw [List.getElem?_set] at hx
      split at hx
      · split at hx
        · cases hx; omega
        · cases hx
      · have := h5 i x hx; omega
    · have hpl := Zfr ((bs.drop from_).take (at_ - from_)) (at_ - (t.getD (Zfk (bs.drop at_)) 0).toNat) (runF bs (t.getD (Zfk (bs.drop at_)) 0).toNat at_ 4)
      have hll : ((bs.drop from_).take (at_ - from_)).length = at_ - from_ := by rw [List.length_take, List.length_drop]; omega
      rw [hll] at hpl
      rw [List.length_append]
      omega
  · rename_i t from_ at_ out h
    intro h3 h4 h5 h6
    have hpl := Zfr (bs.drop from_) 0 0
    rw [List.length_drop] at hpl
    rw [List.length_append]
    omega
theorem Zkz {σ : Zc} {bs : List UInt8} {f : Bool} (hb : bs.length ≤ 140737488355328) : Z1q Try.prog Zd3 [.slc 1 (bytes bs) f] σ fun r σ' => r = .slc 1 (bytes (Zfo bs)) true ∧ σ' = σ := by
  refine Z8t rfl Zk6 (Nat.le_of_ble_eq_true rfl) ?_
  refine Z9z ?_
  (repeat (refine st_q rfl rfl rfl ?_))
  (refine Z8y ?_; (repeat (first | refine Z9v rfl ?_ | refine Z9w ?_)); refine Z9u ?_)
  refine Za5 ?_
  refine Zad ?_
  (repeat (refine st_q rfl rfl rfl ?_))
  (refine Z8y ?_; (repeat (first | refine Z9v rfl ?_ | refine Z9w ?_)); refine Z9u ?_)
  refine Za3 (p := (1048576 : Int) < ((bytes bs).length : Int)) rfl (fun h => ?_) (fun h => ?_)
  all_goals rw [Zam] at h
  · refine Z9z ?_
    (repeat (refine st_q rfl rfl rfl ?_))
    (refine Z8y ?_; (repeat (first | refine Z9v rfl ?_ | refine Z9w ?_)); refine Z9u ?_)
    refine Z8d ?_
    have e : Zfo bs = [] := by rw [Zfo, if_pos (by omega)]
    rw [e]
    exact Zau rfl (VRle.nil_slc 0 1 true) (HSub.refl _) ⟨rfl, rfl⟩
  refine Za4 ?_
  have e : Zfo bs = if (putF bs 0 0).length < (Zfn bs (List.replicate 4096 (-1)) 0 0 []).length then putF bs 0 0 else Zfn bs (List.replicate 4096 (-1)) 0 0 [] := by rw [Zfo, if_neg (by omega)]
  rw [e]
  have hfl : (Zfn bs (List.replicate 4096 (-1)) 0 0 []).length ≤ 5 + 3 * bs.length := by
    refine Zky bs _ 0 0 [] (by omega) (by omega) ?_ (by simp)
    intro i x h
    have := List.eq_of_mem_replicate (List.mem_of_getElem? h)
    omega
  refine Z9z ?_
  refine Z9s (C := fun r σ' => ∃ b, b ∉ Zh σ ∧ r = .arr 1 b 0 4096 ∧ σ' = (b, .cells 1 (ints (List.replicate 4096 (-1)))) :: σ) rfl (Zkl σ) ?_ ?_
  · have : ∃ b, b ∉ Zh σ := ⟨(Zh σ).foldr (fun a b => max (a + 1) b) 0, by
      have : ∀ (l : List Nat) (x : Nat), x ∈ l → x < l.foldr (fun a b => max (a + 1) b) 0 := by
        intro l
        induction l with
        | nil => intro x h; cases h
        | cons a l ih =>
          intro x h
          simp only [List.foldr_cons]
          rcases List.mem_cons.1 h with rfl | h
          · omega
          · have := ih x h; omega
      exact fun h => absurd (this _ _ h) (by omega)⟩
    obtain ⟨b, hb⟩ := this
    exact ⟨_, _, b, hb, rfl, rfl⟩
  rintro _ _ ⟨b, hbk, rfl, rfl⟩
  (repeat (refine st_q rfl rfl rfl ?_))
  refine Z9s rfl (Zkx (by omega)) ?_ ?_
  · obtain ⟨gv, gβ, hgr⟩ := Grow.ex (Zfn bs (List.replicate 4096 (-1)) 0 0 [])
    exact ⟨_, _, gβ, hgr, rfl⟩
  generalize Zfn bs (List.replicate 4096 (-1)) 0 0 [] = X at *
  rintro r _ ⟨β, ho, rfl⟩
  (repeat (refine st_q rfl rfl rfl ?_))
  (refine Z8y ?_; (repeat (first | refine Z9v rfl ?_ | refine Z9w ?_)); refine Z9u ?_)
  refine Za5 ?_
  refine Zad ?_
  (repeat (refine st_q rfl rfl rfl ?_))
  refine Z9s rfl (Z1q.args (VRle.refl _) (Zkh (β := []) (τ := β ++ σ) (back := 0) (n := 0) (Grow.nil 0) (.inl rfl) (by omega) (by simp; omega))) ?_ ?_
  · obtain ⟨gv, gβ, hgr⟩ := Grow.ex ([] ++ putF bs 0 0)
    exact ⟨_, _, gβ, hgr, rfl⟩
  rw [List.nil_append]
  have hpl := Zfr bs 0 0
  generalize putF bs 0 0 = Y at *
  rintro r2 _ ⟨β2, ho2, rfl⟩
  (repeat (refine st_q rfl rfl rfl ?_))
  (refine Z8y ?_; (repeat (first | refine Z9v rfl ?_ | refine Z9w ?_)); refine Z9u ?_)
  refine Zaf ?_
  refine Zad ?_
  refine st_q rfl rfl rfl ?_
  refine Zas rfl ho2.lens ?_
  refine st_q rfl rfl rfl ?_
  refine Zas rfl ho.lens ?_
  (repeat (refine st_q rfl rfl rfl ?_))
  (refine Z8y ?_; (repeat (first | refine Z9v rfl ?_ | refine Z9w ?_)); refine Z9u ?_)
  refine Za3 (p := (Y.length : Int) < (X.length : Int)) rfl (fun h2 => ?_) (fun h2 => ?_)
  · refine Zad ?_
    (repeat (refine st_q rfl rfl rfl ?_))
    (refine Z8y ?_; (repeat (first | refine Z9v rfl ?_ | refine Z9w ?_)); refine Z9u ?_)
    refine Z9z ?_
    (repeat (refine st_q rfl rfl rfl ?_))
    refine Z9s rfl (ho2.clip) ⟨_, _, rfl, rfl⟩ ?_
    rintro _ _ ⟨rfl, rfl⟩
    (repeat (refine st_q rfl rfl rfl ?_))
    (refine Z8y ?_; (repeat (first | refine Z9v rfl ?_ | refine Z9w ?_)); refine Z9u ?_)
    refine Z8d ?_
    rw [if_pos (by omega)]
    exact ares rfl (HSub.of_sublist (List.sublist_append_right _ _)) ⟨rfl, rfl⟩
  · refine Za4 ?_
    refine Z9y (keep := [3]) ?_
    ((repeat (first | refine Z9v rfl ?_ | refine Z9w ?_)); refine Z9u ?_)
    have hsub : HSub (β ++ σ) (β2 ++ (β ++ σ)) := HSub.of_sublist (List.sublist_append_right _ _)
    refine Z8a (FSub.refl _) hsub ?_
    refine Z9z ?_
    (repeat (refine st_q rfl rfl rfl ?_))
    refine Z9s rfl (ho.clip) ⟨_, _, rfl, rfl⟩ ?_
    rintro _ _ ⟨rfl, rfl⟩
    (repeat (refine st_q rfl rfl rfl ?_))
    (refine Z8y ?_; (repeat (first | refine Z9v rfl ?_ | refine Z9w ?_)); refine Z9u ?_)
    refine Z8d ?_
    rw [if_neg (by omega)]
    exact ares rfl (HSub.refl _) ⟨rfl, rfl⟩
end Go.Abs
namespace Go.Abs
open Go Go.Proofs Go.Abs.Lz
set_option linter.unusedVariables false
set_option linter.unusedSimpArgs false
theorem Zl0 {σ : Zc} {xs : List UInt8} {f : Bool} : ab2s σ [.slc 1 (bytes xs) f] = some (.str xs) := by
  simp [ab2s, Z1m, Zar]
theorem Zl1 (hello : List UInt8) (h : hello.length = 29) : Zfd 100 (Zfo hello) = (0, hello) := by
  rw [Zg5 (by omega) (by omega) (by omega), if_pos (by omega)]
theorem Zl2 (σ : Zc) {bs : List UInt8} {f : Bool} {most : Int} (hb : bs.length ≤ 140737488355328) {e : Nat} {xs : List UInt8} (h : Zfd most bs = (e, xs)) :
    Z1q Try.prog Zd0 [.slc 1 (bytes bs) f, .int .i64 most] σ fun r σ' => r = .tup [.slc 1 (bytes xs) true, .int .i64 e] ∧ σ' = σ := by
  have := Zgm σ (f := f) (most := most) hb
  rw [h] at this
  exact this
end Go.Abs
namespace Go.Abs
open Go Go.Proofs Go.Abs.Lz
set_option linter.unusedVariables false
set_option linter.unusedSimpArgs false
theorem Zl3 : ∀ {l : List UInt8} {n m : Nat} {r : List UInt8}, lenL l n = some (m, r) → m ≤ n + 255 * l.length
  | [], _, _, _, h => by simp [lenL] at h
  | c :: l, n, m, r, h => by
    have hc := c.toNat_lt
    simp only [Nat.reducePow] at hc
    unfold lenL at h
    split at h
    · simp only [Option.some.injEq, Prod.mk.injEq] at h
      simp only [List.length_cons]; omega
    · have := Zl3 h
      simp only [List.length_cons]; omega
theorem Zl4 {l : List UInt8} {n m : Nat} {r : List UInt8} (h : lenN l n = some (m, r)) : m ≤ n + 255 * l.length := by
  unfold lenN at h
  split at h
  · simp only [Option.some.injEq, Prod.mk.injEq] at h
    omega
  · exact Zl3 h
theorem Zl5 {σ : Zc} {bs : List UInt8} {f : Bool} {i n : Nat} {l : List UInt8} (hi : i ≤ bs.length) (hl : bs.drop i = l) (hn : n ≤ 15) (hb : bs.length ≤ 140737488355328) :
    Z1q Try.prog Zd5 [.slc 1 (bytes bs) f, .int .i64 i, .int .i64 n] σ fun r σ' => σ' = σ ∧
      match lenN l n with
      | none => r = .tup [.int .i64 0, .int .i64 (-1)]
      | some (m, l') => m ≤ 15 + 255 * bs.length ∧ ∃ j : Nat, j ≤ bs.length ∧ bs.drop j = l' ∧ r = .tup [.int .i64 m, .int .i64 j] := by
  refine Z8t rfl Zk7 (Nat.le_of_ble_eq_true rfl) ?_
  refine Z9z ?_
  (repeat (refine st_q rfl rfl rfl ?_))
  (refine Z8y ?_; (repeat (first | refine Z9v rfl ?_ | refine Z9w ?_)); refine Z9u ?_)
  refine Za5 ?_
  refine Zad ?_
  (repeat (refine st_q rfl rfl rfl ?_))
  (refine Z8y ?_; (repeat (first | refine Z9v rfl ?_ | refine Z9w ?_)); refine Z9u ?_)
  refine Za3 (p := (n : Int) < 15) rfl (fun h => ?_) (fun h => ?_)
  · refine Z9z ?_
    (repeat (refine st_q rfl rfl rfl ?_))
    (refine Z8y ?_; (repeat (first | refine Z9v rfl ?_ | refine Z9w ?_)); refine Z9u ?_)
    refine Z8d ?_
    refine ares rfl (HSub.refl _) ⟨rfl, ?_⟩
    have e : lenN l n = some (n, l) := by simp only [lenN]; rw [if_pos (by omega)]
    rw [e]
    exact ⟨by omega, i, hi, hl, rfl⟩
  refine Za4 ?_
  have e : lenN l n = lenL l n := by simp only [lenN]; rw [if_neg (by omega)]
  rw [e]
  refine Z9y (keep := [0, 1, 2]) ?_
  ((repeat (first | refine Z9v rfl ?_ | refine Z9w ?_)); refine Z9u ?_)
  refine Z8h ?_
  refine Zaa (fun k F σ' => ∃ (j m : Nat), F = fset 0 (some (.slc 1 (bytes bs) f)) (fset 1 (some (.int .i64 j)) (fset 2 (some (.int .i64 m)) Z27)) ∧ σ' = σ ∧ j ≤ bs.length ∧ m ≤ 15 + 255 * j ∧ k = bs.length - j ∧ lenL (bs.drop j) m = lenL l n) (n := bs.length - i)
    ⟨i, n, rfl, rfl, hi, by omega, rfl, by rw [hl]⟩ ?_
  rintro k F σ' ⟨j, m, rfl, rfl, hj, hm, rfl, hL⟩
  refine Z8h ?_
  refine Za5 ?_
  refine Zad ?_
  (repeat (refine st_q rfl rfl rfl ?_))
  (refine Z8y ?_; (repeat (first | refine Z9v rfl ?_ | refine Z9w ?_)); refine Z9u ?_)
  refine Za3 (p := (j : Int) = ((bytes bs).length : Int)) rfl (fun h1 => ?_) (fun h1 => ?_)
  all_goals rw [Zam] at h1
  · refine Z9z ?_
    (repeat (refine st_q rfl rfl rfl ?_))
    (refine Z8y ?_; (repeat (first | refine Z9v rfl ?_ | refine Z9w ?_)); refine Z9u ?_)
    refine Z8d ?_
    have e5 : bs.drop j = [] := List.drop_eq_nil_of_le (by omega)
    rw [e5] at hL
    have e6 : lenL l n = none := by rw [← hL]; rfl
    refine ares rfl (HSub.refl _) ⟨rfl, ?_⟩
    rw [e6]
    rfl
  refine Za4 ?_
  have hj' : j < bs.length := by omega
  obtain ⟨c, r, hc⟩ : ∃ c r, bs.drop j = c :: r := by
    cases h2 : bs.drop j with
    | nil => exact absurd (Zga h2) (by omega)
    | cons c r => exact ⟨c, r, rfl⟩
  obtain ⟨_, hx, hr⟩ := Zg9 hc
  have hx' : (bytes bs)[(j : Int).toNat]? = some (Zx c) := by rw [Zao]; simp [hx]
  have hc0 : c.toNat < 256 := c.toNat_lt
  have e1 : IntKind.wrap .i64 (c.toNat : Int) = (c.toNat : Int) := w64 _ (by omega) (by omega)
  have e2 : IntKind.wrap .i64 ((m : Int) + (c.toNat : Int)) = ((m + c.toNat : Nat) : Int) := by rw [w64 _ (by omega) (by omega)]; omega
  have e4 : IntKind.wrap .i64 ((j : Int) + 1) = ((j + 1 : Nat) : Int) := by rw [w64 _ (by omega) (by omega)]; omega
  have e7 : IntKind.wrap .i64 (((j + 1 : Nat) : Int) - 1) = (j : Int) := by rw [w64 _ (by omega) (by omega)]; omega
  refine Z9z ?_
  refine st_q rfl rfl rfl ?_
  refine st_q rfl rfl rfl ?_
  refine st_q rfl rfl rfl ?_
  refine Z93 rfl (by omega) hx' ?_
  (repeat (refine st_q rfl rfl rfl ?_))
  rw [e1, e2]
  (refine Z8y ?_; (repeat (first | refine Z9v rfl ?_ | refine Z9w ?_)); refine Z9u ?_)
  refine Z9z ?_
  (repeat (refine st_q rfl rfl rfl ?_))
  rw [e4]
  (refine Z8y ?_; (repeat (first | refine Z9v rfl ?_ | refine Z9w ?_)); refine Z9u ?_)
  refine Z9z ?_
  refine st_q rfl rfl rfl ?_
  refine st_q rfl rfl rfl ?_
  refine st_q rfl rfl rfl ?_
  rw [e7]
  refine Z93 rfl (by omega) hx' ?_
  (repeat (refine st_q rfl rfl rfl ?_))
  (refine Z8y ?_; (repeat (first | refine Z9v rfl ?_ | refine Z9w ?_)); refine Z9u ?_)
  refine Za3 (p := (c.toNat : Int) ≠ 255) rfl (fun h2 => ?_) (fun h2 => ?_)
  · refine Z9z ?_
    (repeat (refine st_q rfl rfl rfl ?_))
    (refine Z8y ?_; (repeat (first | refine Z9v rfl ?_ | refine Z9w ?_)); refine Z9u ?_)
    refine Z8d ?_
    refine ares rfl (HSub.refl _) ⟨rfl, ?_⟩
    have e5 : lenL l n = some (m + c.toNat, r) := by rw [← hL, hc]; simp only [lenL]; rw [if_pos (by omega)]
    rw [e5]
    exact ⟨by omega, j + 1, by omega, hr, rfl⟩
  · refine Z8b ?_
    refine Zac (keep := [0, 1, 2]) ?_
    ((repeat (first | refine Z9v rfl ?_ | refine Z9w ?_)); refine Z9u ?_)
    refine ⟨_, _, HSub.refl _, ⟨j + 1, m + c.toNat, rfl, rfl, by omega, by omega, rfl, ?_⟩, by omega⟩
    rw [← hL, hc, hr]
    conv => rhs; unfold lenL
    rw [if_neg (by omega)]
def Zl6 (bs : List UInt8) (f : Bool) (most : Nat) (σ : Zc) (k : Nat) (F : Z26) (σ' : Zc) : Prop :=
  ∃ (i : Nat) (o : List UInt8) (v : Z0) (β : Zc), F = fset 0 (some (.slc 1 (bytes bs) f)) (fset 1 (some (.int .i64 most)) (fset 6 (some v) (fset 7 (some (.int .i64 i)) Z27))) ∧ σ' = β ++ σ ∧ Grow v o β ∧
    i ≤ bs.length ∧ o.length ≤ most ∧ k = (bs.drop i).length ∧ unpF most (bs.drop i) o = unpF most bs []
def RefR (σ : Zc) (x : Nat × List UInt8) (r : Z0) (σ' : Zc) : Prop := ∃ v β, r = .tup [v, .int .i64 x.1] ∧ Grow v x.2 β ∧ σ' = β ++ σ
def seqU (most : Nat) (y : Nat × List UInt8) : SeqR → Prop
  | .err e => y = (e, [])
  | .last o => y = (0, o)
  | .go r o => unpF most r o = y
theorem Zl7 {most : Nat} {l o : List UInt8} {X : SeqR} (h : seqF most l o = X) : seqU most (unpF most l o) X := by
  cases X with
  | err e => exact Zfa h
  | last o' => exact Zfb h
  | go r o' => exact (Zfc h).symm
theorem Zl8 {σ : Zc} {b' : Nat} {bs : List UInt8} {f : Bool} {i3 k0 : Nat} {o1 l4 : List UInt8} {t a b : UInt8} {most : Nat} (hb : bs.length ≤ 140737488355328) (hm : most ≤ 1048576) (hol : o1.length ≤ most) (hi3 : i3 + 2 ≤ bs.length)
    (hxa : bs[i3]? = some a) (hxb : bs[i3 + 1]? = some b) (hl4 : bs.drop (i3 + 2) = l4) (hk : l4.length < k0)
    (hU : seqU most (unpF most bs []) (match lenN l4 (t.toNat % 16) with
          | none => SeqR.err 3
          | some (m, l5) =>
            if a.toNat + 256 * b.toNat = 0 ∨ o1.length < a.toNat + 256 * b.toNat then .err 2
            else if most < o1.length + (m + 4) then .err 4
            else .go l5 (Zf6 (a.toNat + 256 * b.toNat) (m + 4) o1))) :
    AWp Try.prog Zhp.n (Zho.body.snd 11) (Z8g 1 (Za9 (Zl6 bs f most σ) k0 (Z8g 0 (ARet Zhp.res (RefR σ (unpF most bs []))))))
      (fset 0 (some (.slc 1 (bytes bs) f)) (fset 1 (some (.int .i64 most)) (fset 6 (some (.arr 1 b' 0 o1.length)) (fset 7 (some (.int .i64 i3)) (fset 8 (some (.int .i64 t.toNat)) Z27))))) ((b', .cells 1 (bytes o1)) :: σ) := by
  have hxa' : (bytes bs)[(i3 : Int).toNat]? = some (Zx a) := by rw [Zao]; simp [hxa]
  have hxb' : (bytes bs)[((i3 + 1 : Nat) : Int).toNat]? = some (Zx b) := by rw [Zao]; simp [hxb]
  have ht0 : t.toNat < 256 := t.toNat_lt
  have ha0 : a.toNat < 256 := a.toNat_lt
  have hb0 : b.toNat < 256 := b.toNat_lt
  have e11 : IntKind.wrap .i64 ((i3 : Int) + 1) = ((i3 + 1 : Nat) : Int) := by rw [w64 _ (by omega) (by omega)]; omega
  have e12 : IntKind.wrap .i64 (a.toNat : Int) = (a.toNat : Int) := w64 _ (by omega) (by omega)
  have e13 : IntKind.wrap .i64 (b.toNat : Int) = (b.toNat : Int) := w64 _ (by omega) (by omega)
  have e14 : IntKind.wrap .i64 ((b.toNat : Int) * 256) = ((b.toNat * 256 : Nat) : Int) := by rw [w64 _ (by omega) (by omega)]; omega
  have e15 := or8 a.toNat b.toNat ha0 hb0
  have e16 : IntKind.wrap .i64 ((i3 : Int) + 2) = ((i3 + 2 : Nat) : Int) := by rw [w64 _ (by omega) (by omega)]; omega
  have e17 := Zgh t.toNat ht0
  have hnil : ∀ (e : Nat), unpF most bs [] = (e, []) → RefR σ (unpF most bs []) (.tup [.slc 0 [] true, .int .i64 e]) σ := fun e h => by rw [h]; exact ⟨_, [], rfl, Grow.nil 0, rfl⟩
  refine Z9z ?_
  refine st_q rfl rfl rfl ?_
  refine st_q rfl rfl rfl ?_
  refine Z93 rfl (by omega) hxa' ?_
  (repeat (refine st_q rfl rfl rfl ?_))
  rw [e11, e12]
  refine Z93 rfl (by omega) hxb' ?_
  refine st_q rfl rfl rfl ?_
  refine st_q rfl rfl rfl ?_
  rw [e13]
  refine Z95 rfl (by decide) ?_
  change aops _ _ (fset _ (some (.int .i64 (IntKind.wrap .i64 ((b.toNat : Int) * 256)))) _) _ _
  rw [e14]
  refine st_q rfl (congrArg (fun x => some (Z0.int .i64 x)) e15) rfl ?_
  (repeat (refine st_q rfl rfl rfl ?_))
  generalize hbk : a.toNat + 256 * b.toNat = back at *
  (refine Z8y ?_; (repeat (first | refine Z9v rfl ?_ | refine Z9w ?_)); refine Z9u ?_)
  refine Z9z ?_
  (repeat (refine st_q rfl rfl rfl ?_))
  rw [e16, e17]
  have hc := Zl5 (σ := (b', .cells 1 (bytes o1)) :: σ) (bs := bs) (f := f) (i := i3 + 2) (n := t.toNat % 16) (by omega) hl4 (by omega) hb
  cases hL : lenN l4 (t.toNat % 16) with
  | none =>
    rw [hL] at hU hc
    refine Z9s rfl hc ⟨_, _, rfl, rfl⟩ ?_
    rintro _ _ ⟨rfl, rfl⟩
    (repeat (refine st_q rfl rfl rfl ?_))
    (refine Z8y ?_; (repeat (first | refine Z9v rfl ?_ | refine Z9w ?_)); refine Z9u ?_)
    refine Za5 ?_
    refine Zad ?_
    (repeat (refine st_q rfl rfl rfl ?_))
    (refine Z8y ?_; (repeat (first | refine Z9v rfl ?_ | refine Z9w ?_)); refine Z9u ?_)
    refine Z8f rfl (fun _ => ?_) (fun e => by cases e)
    refine Z9z ?_
    (repeat (refine st_q rfl rfl rfl ?_))
    (refine Z8y ?_; (repeat (first | refine Z9v rfl ?_ | refine Z9w ?_)); refine Z9u ?_)
    refine Z8d ?_
    exact ares rfl (HSub.tail _ _) (hnil 3 hU)
  | some p =>
    obtain ⟨m, l5⟩ := p
    rw [hL] at hU hc
    simp only at hU hc
    obtain ⟨kk, hk1, hk2⟩ := Zge hL
    have hsh := Zf8 hL
    refine Z9s (C := fun r σ' => σ' = (b', .cells 1 (bytes o1)) :: σ ∧ m ≤ 15 + 255 * bs.length ∧ ∃ j : Nat, j ≤ bs.length ∧ bs.drop j = l5 ∧ r = .tup [.int .i64 m, .int .i64 j]) rfl hc ?_ ?_
    · have hbd := Zl4 hL
      have hdl := Zgb hl4 (by omega)
      exact ⟨_, _, rfl, by omega, i3 + 2 + kk, by omega, by rw [← hk2, ← hl4, List.drop_drop], rfl⟩
    rintro _ _ ⟨rfl, hmb, i4, hi4, hl5, rfl⟩
    (repeat (refine st_q rfl rfl rfl ?_))
    (refine Z8y ?_; (repeat (first | refine Z9v rfl ?_ | refine Z9w ?_)); refine Z9u ?_)
    refine Za5 ?_
    refine Zad ?_
    (repeat (refine st_q rfl rfl rfl ?_))
    (refine Z8y ?_; (repeat (first | refine Z9v rfl ?_ | refine Z9w ?_)); refine Z9u ?_)
    refine Za3 (p := (i4 : Int) < 0) rfl (fun h => by omega) (fun _ => ?_)
    refine Za4 ?_
    refine Z9z ?_
    (repeat (refine st_q rfl rfl rfl ?_))
    (refine Z8y ?_; (repeat (first | refine Z9v rfl ?_ | refine Z9w ?_)); refine Z9u ?_)
    by_cases hz : back = 0
    · rw [if_pos (.inl hz)] at hU
      have hd : decide ((back : Int) = 0) = true := decide_eq_true (by omega)
      refine Za5 ?_
      refine Zad ?_
      (repeat (refine st_q rfl rfl rfl ?_))
      rw [hd]
      (repeat (refine Z8w rfl ?_))
      (repeat (refine st_q rfl rfl rfl ?_))
      (refine Z8y ?_; (repeat (first | refine Z9v rfl ?_ | refine Z9w ?_)); refine Z9u ?_)
      refine Z8f rfl (fun _ => ?_) (fun e => by cases e)
      refine Z9z ?_
      (repeat (refine st_q rfl rfl rfl ?_))
      (refine Z8y ?_; (repeat (first | refine Z9v rfl ?_ | refine Z9w ?_)); refine Z9u ?_)
      refine Z8d ?_
      exact ares rfl (HSub.tail _ _) (hnil 2 hU)
    have hd : decide ((back : Int) = 0) = false := decide_eq_false (by omega)
    refine Za5 ?_
    refine Zad ?_
    (repeat (refine st_q rfl rfl rfl ?_))
    rw [hd]
    (repeat (refine Z8v rfl (st_q rfl rfl rfl ?_)))
    (repeat (refine st_q rfl rfl rfl ?_))
    (refine Z8y ?_; (repeat (first | refine Z9v rfl ?_ | refine Z9w ?_)); refine Z9u ?_)
    refine Za3 (p := (o1.length : Int) < back) rfl (fun h2 => ?_) (fun h2 => ?_)
    · rw [if_pos (.inr (by omega))] at hU
      refine Z9z ?_
      (repeat (refine st_q rfl rfl rfl ?_))
      (refine Z8y ?_; (repeat (first | refine Z9v rfl ?_ | refine Z9w ?_)); refine Z9u ?_)
      refine Z8d ?_
      exact ares rfl (HSub.tail _ _) (hnil 2 hU)
    rw [if_neg (by omega)] at hU
    refine Za4 ?_
    have e18 : IntKind.wrap .i64 ((m : Int) + 4) = ((m + 4 : Nat) : Int) := by rw [w64 _ (by omega) (by omega)]; omega
    have e19 : IntKind.wrap .i64 ((most : Int) - (o1.length : Int)) = (most : Int) - (o1.length : Int) := w64 _ (by omega) (by omega)
    refine Z9z ?_
    (repeat (refine st_q rfl rfl rfl ?_))
    rw [e18]
    (refine Z8y ?_; (repeat (first | refine Z9v rfl ?_ | refine Z9w ?_)); refine Z9u ?_)
    refine Za5 ?_
    refine Zad ?_
    (repeat (refine st_q rfl rfl rfl ?_))
    rw [e19]
    (refine Z8y ?_; (repeat (first | refine Z9v rfl ?_ | refine Z9w ?_)); refine Z9u ?_)
    refine Za3 (p := (most : Int) - (o1.length : Int) < ((m + 4 : Nat) : Int)) rfl (fun h3 => ?_) (fun h3 => ?_)
    · rw [if_pos (by omega)] at hU
      refine Z9z ?_
      (repeat (refine st_q rfl rfl rfl ?_))
      (refine Z8y ?_; (repeat (first | refine Z9v rfl ?_ | refine Z9w ?_)); refine Z9u ?_)
      refine Z8d ?_
      exact ares rfl (HSub.tail _ _) (hnil 4 hU)
    rw [if_neg (by omega)] at hU
    refine Za4 ?_
    refine Z9y (keep := [0, 1, 6, 7, 11, 12]) ?_
    ((repeat (first | refine Z9v rfl ?_ | refine Z9w ?_)); refine Z9u ?_)
    refine Z9z ?_
    (repeat (refine st_q rfl rfl rfl ?_))
    (refine Z8y ?_; (repeat (first | refine Z9v rfl ?_ | refine Z9w ?_)); refine Z9u ?_)
    refine Z8h ?_
    refine Zaa (fun k F σ' => ∃ (j c : Nat) (o : List UInt8), F = fset 0 (some (.slc 1 (bytes bs) f)) (fset 1 (some (.int .i64 most)) (fset 6 (some (.arr 1 c 0 o.length)) (fset 7 (some (.int .i64 i4)) (fset 11 (some (.int .i64 back)) (fset 12 (some (.int .i64 (m + 4 : Nat))) (fset 14 (some (.int .i64 j)) Z27)))))) ∧
      σ' = (c, .cells 1 (bytes o)) :: σ ∧ o.length = o1.length + j ∧ j ≤ m + 4 ∧ k = m + 4 - j ∧ Zf6 back k o = Zf6 back (m + 4) o1) (n := m + 4)
      ⟨0, b', o1, rfl, rfl, by omega, by omega, by omega, rfl⟩ ?_
    rintro k F σ' ⟨j, c, o, rfl, rfl, hoj, hjm, rfl, hcp⟩
    refine Za5 ?_
    refine Zad ?_
    (repeat (refine st_q rfl rfl rfl ?_))
    (refine Z8y ?_; (repeat (first | refine Z9v rfl ?_ | refine Z9w ?_)); refine Z9u ?_)
    refine Za3 (p := (j : Int) < (m + 4 : Nat)) rfl (fun h4 => ?_) (fun h4 => ?_)
    · refine Za4 ?_
      refine Za6 ?_
      have e20 : IntKind.wrap .i64 ((o.length : Int) - (back : Int)) = ((o.length - back : Nat) : Int) := by rw [w64 _ (by omega) (by omega)]; omega
      have hoc : o[o.length - back]? = some (o.getD (o.length - back) 0) := by
        rw [List.getD_eq_getElem?_getD, List.getElem?_eq_getElem (by omega)]; rfl
      generalize hcc : o.getD (o.length - back) 0 = cc at *
      have hoc' : (bytes o)[0 + ((o.length - back : Nat) : Int).toNat]? = some (Zx cc) := by rw [Zao, Nat.zero_add]; simp [hoc]
      refine awp_region ?_
      (repeat (refine st_q rfl rfl rfl ?_))
      rw [e20]
      refine Z94 rfl ⟨by omega, by omega⟩ ?_
      refine Z92 rfl Z8z hoc' rfl ?_
      (repeat (refine st_q rfl rfl rfl ?_))
      refine Zat (β := [(c, .cells 1 (bytes o))]) (ys := [cc]) (.inr ⟨c, rfl, rfl⟩) rfl rfl (by simp only [List.length_cons, List.length_nil]; omega) fun c' hc' => ?_
      (repeat (refine st_q rfl rfl rfl ?_))
      refine Z8y ?_
      refine Z9y (keep := [0, 1, 6, 7, 11, 12, 14]) ?_
      ((repeat (first | refine Z9v rfl ?_ | refine Z9w ?_)); refine Z9u ?_)
      have e21 : IntKind.wrap .i64 ((j : Int) + 1) = ((j + 1 : Nat) : Int) := by rw [w64 _ (by omega) (by omega)]; omega
      refine awp_region ?_
      (repeat (refine st_q rfl rfl rfl ?_))
      rw [e21]
      refine Z8y ?_
      refine Zac (keep := [0, 1, 6, 7, 11, 12, 14]) ?_
      ((repeat (first | refine Z9v rfl ?_ | refine Z9w ?_)); refine Z9u ?_)
      refine ⟨_, m + 4 - (j + 1), HSub.refl _, ⟨j + 1, c', o ++ [cc], rfl, rfl, by simp; omega, by omega, rfl, ?_⟩, by omega⟩
      rw [← hcp, show m + 4 - j = (m + 4 - (j + 1)) + 1 by omega, Zf6, hcc]
    · refine Z8c ?_
      have e22 : m + 4 - j = 0 := by omega
      rw [e22, Zf6] at hcp
      subst hcp
      refine Zac (I := Zl6 bs f most σ) (keep := [0, 1, 6, 7]) ?_
      ((repeat (first | refine Z9v rfl ?_ | refine Z9w ?_)); refine Z9u ?_)
      exact ⟨_, l5.length, HSub.refl _, ⟨i4, _, _, [(c, .cells 1 (bytes _))], rfl, rfl, .inr ⟨c, rfl, rfl⟩, hi4, by omega, by rw [hl5], by rw [hl5]; exact hU⟩, by omega⟩
theorem Zl9 (σ : Zc) {bs : List UInt8} {f : Bool} {most : Int} (hb : bs.length ≤ 140737488355328) :
    Z1q Try.prog Zd1 [.slc 1 (bytes bs) f, .int .i64 most] σ (RefR σ (Zfd most bs)) := by
  refine Z8t rfl Zk5 (Nat.le_of_ble_eq_true rfl) ?_
  refine Z9z ?_
  (repeat (refine st_q rfl rfl rfl ?_))
  (refine Z8y ?_; (repeat (first | refine Z9v rfl ?_ | refine Z9w ?_)); refine Z9u ?_)
  refine Za5 ?_
  refine Zad ?_
  (repeat (refine st_q rfl rfl rfl ?_))
  by_cases h1 : most < 0 ∨ 1048576 < most
  · have hu : Zfd most bs = (1, []) := by rw [Zfd, if_pos h1]
    rw [hu]
    have hcode : ∀ F, AWp Try.prog Zhp.n (.seq (.region Zgp [4, 5]) .ret) (Z8e Try.prog Zhp.n (Zhp.code.snd 2) (ARet Zhp.res (RefR σ (1, [])))) F σ := fun F => by
      refine Z9z ?_
      (repeat (refine st_q rfl rfl rfl ?_))
      (refine Z8y ?_; (repeat (first | refine Z9v rfl ?_ | refine Z9w ?_)); refine Z9u ?_)
      refine Z8d ?_
      exact ares rfl (HSub.refl _) ⟨_, [], rfl, Grow.nil 0, rfl⟩
    by_cases h2 : most < 0
    · rw [show decide (most < 0) = true from decide_eq_true h2]
      (repeat (refine Z8w rfl ?_))
      (repeat (refine st_q rfl rfl rfl ?_))
      (refine Z8y ?_; (repeat (first | refine Z9v rfl ?_ | refine Z9w ?_)); refine Z9u ?_)
      exact Z8f rfl (fun _ => hcode _) (fun e => by cases e)
    · rw [show decide (most < 0) = false from decide_eq_false h2]
      (repeat (refine Z8v rfl (st_q rfl rfl rfl ?_)))
      (repeat (refine st_q rfl rfl rfl ?_))
      (refine Z8y ?_; (repeat (first | refine Z9v rfl ?_ | refine Z9w ?_)); refine Z9u ?_)
      exact Za3 (p := 1048576 < most) rfl (fun _ => hcode _) (fun e => absurd h1 (by omega))
  rw [show decide (most < 0) = false from decide_eq_false (by omega)]
  (repeat (refine Z8v rfl (st_q rfl rfl rfl ?_)))
  (repeat (refine st_q rfl rfl rfl ?_))
  (refine Z8y ?_; (repeat (first | refine Z9v rfl ?_ | refine Z9w ?_)); refine Z9u ?_)
  refine Za3 (p := 1048576 < most) rfl (fun _ => by omega) (fun _ => ?_)
  refine Za4 ?_
  obtain ⟨m, rfl⟩ : ∃ m : Nat, most = m := ⟨most.toNat, by omega⟩
  have hu : Zfd m bs = unpF m bs [] := by rw [Zfd, if_neg h1]; rfl
  rw [hu]
  refine Z9z ?_
  (repeat (refine st_q rfl rfl rfl ?_))
  (refine Z8y ?_; (repeat (first | refine Z9v rfl ?_ | refine Z9w ?_)); refine Z9u ?_)
  refine Z9z ?_
  (repeat (refine st_q rfl rfl rfl ?_))
  (refine Z8y ?_; (repeat (first | refine Z9v rfl ?_ | refine Z9w ?_)); refine Z9u ?_)
  refine Z8h ?_
  refine Zaa (Zl6 bs f m σ) (n := bs.length) ⟨0, [], .slc 0 [] true, [], rfl, rfl, Grow.nil 0, by omega, by simp, by simp, by simp⟩ ?_
  rintro k F σ' ⟨i, xs, v, β, rfl, rfl, ho, hi, hxm, rfl, hUU⟩
  have hnil : ∀ (e : Nat), unpF m bs [] = (e, []) → RefR σ (unpF m bs []) (.tup [.slc 0 [] true, .int .i64 e]) σ := fun e h => by rw [h]; exact ⟨_, [], rfl, Grow.nil 0, rfl⟩
  have hU := Zl7 (most := m) (l := bs.drop i) (o := xs) rfl
  rw [hUU] at hU
  generalize hl : bs.drop i = l at hU ⊢
  have hsub : HSub σ (β ++ σ) := HSub.of_sublist (List.sublist_append_right _ _)
  have hlen := ho.lens
  unfold seqF at hU
  refine Z8h ?_
  refine Za5 ?_
  refine Zad ?_
  (repeat (refine st_q rfl rfl rfl ?_))
  (refine Z8y ?_; (repeat (first | refine Z9v rfl ?_ | refine Z9w ?_)); refine Z9u ?_)
  refine Za3 (p := (i : Int) = ((bytes bs).length : Int)) rfl (fun h => ?_) (fun h => ?_)
  all_goals rw [Zam] at h
  · refine Z9z ?_
    (repeat (refine st_q rfl rfl rfl ?_))
    (refine Z8y ?_; (repeat (first | refine Z9v rfl ?_ | refine Z9w ?_)); refine Z9u ?_)
    refine Z8d ?_
    have e : l = [] := by rw [← hl]; exact List.drop_eq_nil_of_le (by omega)
    subst e
    exact ares rfl hsub (hnil 3 hU)
  refine Za4 ?_
  obtain ⟨t, l1, rfl⟩ : ∃ t l1, l = t :: l1 := by
    cases l with
    | nil => exact absurd (Zga hl) (by omega)
    | cons t l1 => exact ⟨t, l1, rfl⟩
  obtain ⟨hi1, hx, hl1⟩ := Zg9 hl
  have hx' : (bytes bs)[(i : Int).toNat]? = some (Zx t) := by rw [Zao]; simp [hx]
  have ht0 : t.toNat < 256 := t.toNat_lt
  have e1 : IntKind.wrap .i64 (t.toNat : Int) = (t.toNat : Int) := w64 _ (by omega) (by omega)
  have e4 : IntKind.wrap .i64 ((i : Int) + 1) = ((i + 1 : Nat) : Int) := by rw [w64 _ (by omega) (by omega)]; omega
  have e5 : Int.fdiv (t.toNat : Int) (2 ^ (Nat.min ((4 : Int).toNat) IntKind.i64.bits)) = ((t.toNat / 16 : Nat) : Int) := by
    show Int.fdiv (t.toNat : Int) 16 = _
    rw [Int.fdiv_eq_ediv_of_nonneg _ (by omega)]; omega
  refine Z9z ?_
  refine st_q rfl rfl rfl ?_
  refine st_q rfl rfl rfl ?_
  refine Z93 rfl (by omega) hx' ?_
  (repeat (refine st_q rfl rfl rfl ?_))
  rw [e1]
  (refine Z8y ?_; (repeat (first | refine Z9v rfl ?_ | refine Z9w ?_)); refine Z9u ?_)
  refine Z9z ?_
  refine st_q rfl rfl rfl ?_
  refine st_q rfl rfl rfl ?_
  refine st_q rfl rfl rfl ?_
  refine st_q rfl rfl rfl ?_
  refine Z96 rfl (by decide) ?_
  rw [e4, e5]
  simp only at hU
  have hc := Zl5 (σ := β ++ σ) (bs := bs) (f := f) (i := i + 1) (n := t.toNat / 16) (by omega) hl1 (by omega) hb
  cases hL : lenN l1 (t.toNat / 16) with
  | none =>
    rw [hL] at hU hc
    refine Z9s rfl hc ⟨_, _, rfl, rfl⟩ ?_
    rintro _ _ ⟨rfl, rfl⟩
    (repeat (refine st_q rfl rfl rfl ?_))
    (refine Z8y ?_; (repeat (first | refine Z9v rfl ?_ | refine Z9w ?_)); refine Z9u ?_)
    refine Za5 ?_
    refine Zad ?_
    (repeat (refine st_q rfl rfl rfl ?_))
    (refine Z8y ?_; (repeat (first | refine Z9v rfl ?_ | refine Z9w ?_)); refine Z9u ?_)
    refine Z8f rfl (fun _ => ?_) (fun e => by cases e)
    refine Z9z ?_
    (repeat (refine st_q rfl rfl rfl ?_))
    (refine Z8y ?_; (repeat (first | refine Z9v rfl ?_ | refine Z9w ?_)); refine Z9u ?_)
    refine Z8d ?_
    exact ares rfl hsub (hnil 3 hU)
  | some p =>
  obtain ⟨n, l2⟩ := p
  rw [hL] at hU hc
  simp only at hU hc
  obtain ⟨kk, hk1, hk2⟩ := Zge hL
  have hsh := Zf8 hL
  refine Z9s (C := fun r σ' => σ' = β ++ σ ∧ n ≤ 15 + 255 * bs.length ∧ ∃ j : Nat, j ≤ bs.length ∧ bs.drop j = l2 ∧ r = .tup [.int .i64 n, .int .i64 j]) rfl hc ?_ ?_
  · have hbd := Zl4 hL
    have hdl := Zgb hl1 (by omega)
    exact ⟨_, _, rfl, by omega, i + 1 + kk, by omega, by rw [← hk2, ← hl1, List.drop_drop], rfl⟩
  rintro _ _ ⟨rfl, hmb, i2, hi2, hl2, rfl⟩
  (repeat (refine st_q rfl rfl rfl ?_))
  (refine Z8y ?_; (repeat (first | refine Z9v rfl ?_ | refine Z9w ?_)); refine Z9u ?_)
  refine Za5 ?_
  refine Zad ?_
  (repeat (refine st_q rfl rfl rfl ?_))
  (refine Z8y ?_; (repeat (first | refine Z9v rfl ?_ | refine Z9w ?_)); refine Z9u ?_)
  refine Za3 (p := (i2 : Int) < 0) rfl (fun h => by omega) (fun _ => ?_)
  refine Za4 ?_
  refine Z9z ?_
  (repeat (refine st_q rfl rfl rfl ?_))
  (refine Z8y ?_; (repeat (first | refine Z9v rfl ?_ | refine Z9w ?_)); refine Z9u ?_)
  refine Za5 ?_
  refine Zad ?_
  (repeat (refine st_q rfl rfl rfl ?_))
  refine Zas rfl hlen ?_
  (repeat (refine st_q rfl rfl rfl ?_))
  have e6 : IntKind.wrap .i64 ((m : Int) - (xs.length : Int)) = (m : Int) - (xs.length : Int) := w64 _ (by omega) (by omega)
  rw [e6]
  (refine Z8y ?_; (repeat (first | refine Z9v rfl ?_ | refine Z9w ?_)); refine Z9u ?_)
  refine Za3 (p := (m : Int) - (xs.length : Int) < (n : Int)) rfl (fun h2 => ?_) (fun h2 => ?_)
  · rw [if_pos (by omega)] at hU
    refine Z9z ?_
    (repeat (refine st_q rfl rfl rfl ?_))
    (refine Z8y ?_; (repeat (first | refine Z9v rfl ?_ | refine Z9w ?_)); refine Z9u ?_)
    refine Z8d ?_
    exact ares rfl hsub (hnil 4 hU)
  rw [if_neg (by omega)] at hU
  refine Za4 ?_
  have hln := Zgb hl2 hi2
  refine Za5 ?_
  refine Zad ?_
  (repeat (refine st_q rfl rfl rfl ?_))
  have e7 : IntKind.wrap .i64 (((bytes bs).length : Int) - (i2 : Int)) = (l2.length : Int) := by
    rw [Zam, w64 _ (by omega) (by omega)]; omega
  rw [e7]
  (refine Z8y ?_; (repeat (first | refine Z9v rfl ?_ | refine Z9w ?_)); refine Z9u ?_)
  refine Za3 (p := (l2.length : Int) < n) rfl (fun h3 => ?_) (fun h3 => ?_)
  · rw [if_pos (by omega)] at hU
    refine Z9z ?_
    (repeat (refine st_q rfl rfl rfl ?_))
    (refine Z8y ?_; (repeat (first | refine Z9v rfl ?_ | refine Z9w ?_)); refine Z9u ?_)
    refine Z8d ?_
    exact ares rfl hsub (hnil 3 hU)
  rw [if_neg (by omega)] at hU
  refine Za4 ?_
  refine Z9y (keep := [0, 1, 6, 7, 8, 9]) ?_
  ((repeat (first | refine Z9v rfl ?_ | refine Z9w ?_)); refine Z9u ?_)
  refine Z9z ?_
  (repeat (refine st_q rfl rfl rfl ?_))
  have e8 : IntKind.wrap .i64 ((i2 : Int) + (n : Int)) = ((i2 + n : Nat) : Int) := by rw [w64 _ (by omega) (by omega)]; omega
  rw [e8]
  refine Z99 rfl rfl ⟨by omega, by omega, by rw [Zam]; omega, by omega⟩ ?_
  have e9 : ((bytes bs).drop ((i2 : Int).toNat)).take (((i2 + n : Nat) : Int) - (i2 : Int)).toNat = bytes (l2.take n) := by
    rw [Zap, Zaq, show ((i2 : Int).toNat) = i2 from rfl, hl2, show (((i2 + n : Nat) : Int) - (i2 : Int)).toNat = n by omega]
  rw [e9]
  refine Zat (ys := l2.take n) ho rfl (by simp [Z1m]) (by rw [List.length_take]; omega) fun b' hb' => ?_
  generalize ho1 : xs ++ l2.take n = o1 at *
  have hol : o1.length = xs.length + n := by rw [← ho1, List.length_append, List.length_take]; omega
  (repeat (refine st_q rfl rfl rfl ?_))
  (refine Z8y ?_; (repeat (first | refine Z9v rfl ?_ | refine Z9w ?_)); refine Z9u ?_)
  refine Z9z ?_
  (repeat (refine st_q rfl rfl rfl ?_))
  rw [e8]
  have hl3 : bs.drop (i2 + n) = l2.drop n := by rw [← hl2, List.drop_drop]
  generalize hi3 : i2 + n = i3 at *
  have hi3' : i3 ≤ bs.length := by omega
  (refine Z8y ?_; (repeat (first | refine Z9v rfl ?_ | refine Z9w ?_)); refine Z9u ?_)
  refine Za5 ?_
  refine Zad ?_
  (repeat (refine st_q rfl rfl rfl ?_))
  (refine Z8y ?_; (repeat (first | refine Z9v rfl ?_ | refine Z9w ?_)); refine Z9u ?_)
  refine Za3 (p := (i3 : Int) = ((bytes bs).length : Int)) rfl (fun h4 => ?_) (fun h4 => ?_)
  all_goals rw [Zam] at h4
  · refine Z9z ?_
    (repeat (refine st_q rfl rfl rfl ?_))
    (refine Z8y ?_; (repeat (first | refine Z9v rfl ?_ | refine Z9w ?_)); refine Z9u ?_)
    refine Z8d ?_
    have e : l2.drop n = [] := by rw [← hl3]; exact List.drop_eq_nil_of_le (by omega)
    rw [e] at hU
    have hU' : unpF m bs [] = (0, o1) := hU
    rw [hU']
    exact ares rfl (HSub.refl _) ⟨_, [(b', .cells 1 (bytes o1))], rfl, .inr ⟨b', rfl, rfl⟩, rfl⟩
  refine Za4 ?_
  refine Za5 ?_
  refine Zad ?_
  (repeat (refine st_q rfl rfl rfl ?_))
  have e10 : IntKind.wrap .i64 (((bytes bs).length : Int) - (i3 : Int)) = ((l2.drop n).length : Int) := by
    have := Zgb hl3 hi3'
    rw [Zam, w64 _ (by omega) (by omega)]; omega
  rw [e10]
  (refine Z8y ?_; (repeat (first | refine Z9v rfl ?_ | refine Z9w ?_)); refine Z9u ?_)
  refine Za3 (p := ((l2.drop n).length : Int) < 2) rfl (fun h5 => ?_) (fun h5 => ?_)
  · refine Z9z ?_
    (repeat (refine st_q rfl rfl rfl ?_))
    (refine Z8y ?_; (repeat (first | refine Z9v rfl ?_ | refine Z9w ?_)); refine Z9u ?_)
    refine Z8d ?_
    have : ∃ x, l2.drop n = [x] := by
      have := Zgb hl3 hi3'
      cases hd : l2.drop n with
      | nil => rw [hd] at this; simp only [List.length_nil] at this; omega
      | cons x r => cases r with
        | nil => exact ⟨x, rfl⟩
        | cons y r => rw [hd] at h5; simp only [List.length_cons] at h5; omega
    obtain ⟨x, hx⟩ := this
    rw [hx] at hU
    exact ares rfl (HSub.tail _ _) (hnil 3 hU)
  refine Za4 ?_
  obtain ⟨a, b, l4, hab⟩ : ∃ a b l4, l2.drop n = a :: b :: l4 := by
    cases hd : l2.drop n with
    | nil => rw [hd] at h5; simp only [List.length_nil] at h5; omega
    | cons x r => cases r with
      | nil => rw [hd] at h5; simp only [List.length_cons, List.length_nil] at h5; omega
      | cons y r => exact ⟨x, y, r, rfl⟩
  rw [hab] at hU hl3
  simp only at hU
  obtain ⟨hj1, hxa, hl4⟩ := Zg9 hl3
  obtain ⟨hj2, hxb, hl5⟩ := Zg9 hl4
  have hlk := Zgb hl5 (by omega)
  have hcons : (t :: l1).length = l1.length + 1 := rfl
  refine Z9y (keep := [0, 1, 6, 7, 8]) ?_
  ((repeat (first | refine Z9v rfl ?_ | refine Z9w ?_)); refine Z9u ?_)
  exact Zl8 hb (by omega) (by omega) (by omega) hxa hxb (by simpa [Nat.add_assoc] using hl5) (by omega) hU
end Go.Abs

