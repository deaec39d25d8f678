/- Part C of a proof: merged by program. -/
import Derived.Test.YtgdpmebdoipiaaaPkB
import Derived.Test.YtgdpmebdoipiaaaProg
import Derived.KernelRfl
namespace Go.Abs
def Zcd : Nat := 2
def Zce : Nat := 3
def Zcf : Nat := 4
def Zcg : Nat := 5
def Zch : Nat := 6
def Zci : Nat := 7
def Zcj : Nat := 8
def Zck : Nat := 9
def Zcl : Nat := 10
def Zcm : Nat := 11
def Zcn : Nat := 12
def Zco : Nat := 13
def Zcp : Nat := 14
def Zcq : Nat := 15
def Zcr : Nat := 16
def Zcs : Nat := 17
def Zct : Nat := 18
def Zcu : Nat := 19
def Zcv : Nat := 20
def Zcw : Nat := 21
def Zcx : Nat := 22
def Zcy : Nat := 23
def Zcz : Nat := 24
def Zd0 : Nat := 25
def Zd1 : Nat := 26
def Zd2 : Nat := 27
def Zd3 : Nat := 28
def Zd4 : Nat := 29
def Zd5 : Nat := 30
def Zd6 : Nat := 31
def Zd7 : Nat := 32
def Zd8 : Nat := 33
def Zd9 : Nat := 34
def Zda : Nat := 35
def Zdb : Nat := 36
def Zdc : Nat := 37
def Zdd : Nat := 38
end Go.Abs
namespace Go.Abs
open Go
def Zde : List Z2a := [
  ⟨some 4, .mov, [.c (.slc 0 [] true)], none⟩,
  ⟨some 5, .mov, [.c (.int .i64 0)], none⟩]
def Zdf : List Z2a := [
  ⟨some 9, .mov, [.t 1], none⟩,
  ⟨some 10, (.bin .lss), [.t 9, .c (.int .i64 0)], none⟩,
  ⟨some 11, .mov, [.t 10], none⟩,
  ⟨some 12, .mov, [.t 1], some (11, false)⟩,
  ⟨some 13, (.bin .gtr), [.t 12, .c (.int .i64 1048576)], some (11, false)⟩,
  ⟨some 14, .pick, [.t 11, .c (.bool true), .t 13], none⟩]
def Zdg : List Z2a := [
  ⟨some 4, .mov, [.c (.slc 0 [] true)], none⟩,
  ⟨some 5, .mov, [.c (.int .i64 1)], none⟩]
def Zdh : List Z2a := [
  ⟨some 15, .mov, [.t 0], none⟩,
  ⟨some 16, (.bld [(.slc 0 [] true), (.int .i64 0), (.slc 0 [] true)] [(0, 1)]), [.t 15], none⟩,
  ⟨some 17, (.box 3), [.t 16], none⟩,
  ⟨some 6, .mov, [.t 17], none⟩]
def Zdi : List Z2a := [
  ⟨some 19, .mov, [.t 6], none⟩,
  ⟨some 20, .mov, [.t 1], none⟩,
  ⟨some 21, (.call Zd4), [.t 19, .t 20], none⟩,
  ⟨some 18, .mov, [.t 21], none⟩,
  ⟨some 22, (.ext 0), [.t 18], none⟩,
  ⟨some 23, (.ext 1), [.t 18], none⟩,
  ⟨some 7, .mov, [.t 22], none⟩,
  ⟨some 8, .mov, [.t 23], none⟩]
def Zdj : List Z2a := [
  ⟨some 25, .mov, [.t 8], none⟩,
  ⟨some 26, (.bin .neq), [.t 25, .c (.int .i64 0)], none⟩,
  ⟨some 24, .mov, [.t 26], none⟩]
def Zdk : List Z2a := [
  ⟨some 27, .mov, [.t 8], none⟩,
  ⟨some 4, .mov, [.c (.slc 0 [] true)], none⟩,
  ⟨some 5, .mov, [.t 27], none⟩]
def Zdl : List Z2a := [
  ⟨some 29, .mov, [.t 7], none⟩,
  ⟨some 28, .mov, [.t 29], none⟩]
def Zdm : List Z2a := [
  ⟨some 30, .mov, [.t 6], none⟩,
  ⟨some 31, .nilc, [.t 30], none⟩,
  ⟨some 32, (.fad 2), [.t 31], none⟩,
  ⟨some 33, (.load false 1), [.t 32], none⟩,
  ⟨some 34, (.call Zcx), [.t 33], none⟩,
  ⟨some 4, .mov, [.t 34], none⟩,
  ⟨some 5, .mov, [.c (.int .i64 0)], none⟩]
def Zdn : Z2b := (.block 1 (.seq (.region Zdi [1, 6, 7, 8]) (.block 2 (.seq (.region Zdj [1, 6, 7, 8, 24]) (.cond (.t 24) (.seq (.region Zdk [4, 5]) .ret) (.seq (.region Zdl [1, 6, 28]) (.cond (.t 28) (.seq (.region Zdm [4, 5]) .ret) .skip)))))))
def Zdo : Z2y := ⟨35, (.seq (.region Zde [0, 1, 12, 13]) (.seq (.seq (.region Zdf [0, 1, 14]) (.cond (.t 14) (.seq (.region Zdg [4, 5]) .ret) .skip)) (.seq (.region Zdh [1, 6]) (.block 0 (.loop Zdn))))), [.t 4, .t 5]⟩
def Zdp : List Z2a := [
  ⟨some 4, .mov, [.c (.bool false)], none⟩,
  ⟨some 5, .mov, [.c (.int .i64 0)], none⟩]
def Zdq : List Z2a := [
  ⟨some 10, .mov, [.t 0], none⟩,
  ⟨some 11, .nilc, [.t 10], none⟩,
  ⟨some 12, (.fad 1), [.t 11], none⟩,
  ⟨some 13, (.load false 1), [.t 12], none⟩,
  ⟨some 14, .mov, [.t 0], none⟩,
  ⟨some 15, .nilc, [.t 14], none⟩,
  ⟨some 16, (.fad 0), [.t 15], none⟩,
  ⟨some 17, (.load false 1), [.t 16], none⟩,
  ⟨some 18, .lens, [.t 17], none⟩,
  ⟨some 19, (.bin .geq), [.t 13, .t 18], none⟩]
def Zdr : List Z2a := [
  ⟨some 4, .mov, [.c (.bool false)], none⟩,
  ⟨some 5, .mov, [.c (.int .i64 3)], none⟩]
def Zds : List Z2a := [
  ⟨some 20, .mov, [.t 0], none⟩,
  ⟨some 21, .nilc, [.t 20], none⟩,
  ⟨some 22, (.fad 0), [.t 21], none⟩,
  ⟨some 23, (.load false 1), [.t 22], none⟩,
  ⟨some 24, .mov, [.t 0], none⟩,
  ⟨some 25, .nilc, [.t 24], none⟩,
  ⟨some 26, (.fad 1), [.t 25], none⟩,
  ⟨some 27, (.load false 1), [.t 26], none⟩,
  ⟨some 28, (.iad 1), [.t 23, .t 27], none⟩,
  ⟨some 29, (.load false 1), [.t 28], none⟩,
  ⟨some 30, (.conv .i64), [.t 29], none⟩,
  ⟨some 6, .mov, [.t 30], none⟩]
def Zdt : List Z2a := [
  ⟨some 31, .mov, [.t 0], none⟩,
  ⟨some 32, .nilc, [.t 31], none⟩,
  ⟨some 33, (.fad 1), [.t 32], none⟩,
  ⟨some 34, (.load false 1), [.t 33], none⟩,
  ⟨some 35, (.bin .add), [.t 34, .c (.int .i64 1)], none⟩,
  ⟨some 36, .nilc, [.t 31], none⟩,
  ⟨some 37, (.fad 1), [.t 36], none⟩,
  ⟨none, (.store 1), [.t 37, .t 35], none⟩]
def Zdu : List Z2a := [
  ⟨some 39, .mov, [.t 0], none⟩,
  ⟨some 40, .mov, [.t 6], none⟩,
  ⟨some 41, (.bin .shr), [.t 40, .c (.int .u64 4)], none⟩,
  ⟨some 42, (.call Zda), [.t 39, .t 41], none⟩,
  ⟨some 38, .mov, [.t 42], none⟩,
  ⟨some 43, (.ext 0), [.t 38], none⟩,
  ⟨some 44, (.ext 1), [.t 38], none⟩,
  ⟨some 7, .mov, [.t 43], none⟩,
  ⟨some 8, .mov, [.t 44], none⟩]
def Zdv : List Z2a := [
  ⟨some 46, .mov, [.t 8], none⟩,
  ⟨some 47, .unot, [.t 46], none⟩,
  ⟨some 45, .mov, [.t 47], none⟩]
def Zdw : List Z2a := [
  ⟨some 4, .mov, [.c (.bool false)], none⟩,
  ⟨some 5, .mov, [.c (.int .i64 3)], none⟩]
def Zdx : List Z2a := [
  ⟨some 49, .mov, [.t 7], none⟩,
  ⟨some 50, .mov, [.t 1], none⟩,
  ⟨some 51, .mov, [.t 0], none⟩,
  ⟨some 52, .nilc, [.t 51], none⟩,
  ⟨some 53, (.fad 2), [.t 52], none⟩,
  ⟨some 54, (.load false 1), [.t 53], none⟩,
  ⟨some 55, .lens, [.t 54], none⟩,
  ⟨some 56, (.bin .sub), [.t 50, .t 55], none⟩,
  ⟨some 57, (.bin .gtr), [.t 49, .t 56], none⟩,
  ⟨some 48, .mov, [.t 57], none⟩]
def Zdy : List Z2a := [
  ⟨some 4, .mov, [.c (.bool false)], none⟩,
  ⟨some 5, .mov, [.c (.int .i64 4)], none⟩]
def Zdz : List Z2a := [
  ⟨some 59, .mov, [.t 7], none⟩,
  ⟨some 60, .mov, [.t 0], none⟩,
  ⟨some 61, .nilc, [.t 60], none⟩,
  ⟨some 62, (.fad 0), [.t 61], none⟩,
  ⟨some 63, (.load false 1), [.t 62], none⟩,
  ⟨some 64, .lens, [.t 63], none⟩,
  ⟨some 65, .mov, [.t 0], none⟩,
  ⟨some 66, .nilc, [.t 65], none⟩,
  ⟨some 67, (.fad 1), [.t 66], none⟩,
  ⟨some 68, (.load false 1), [.t 67], none⟩,
  ⟨some 69, (.bin .sub), [.t 64, .t 68], none⟩,
  ⟨some 70, (.bin .gtr), [.t 59, .t 69], none⟩,
  ⟨some 58, .mov, [.t 70], none⟩]
def Ze0 : List Z2a := [
  ⟨some 4, .mov, [.c (.bool false)], none⟩,
  ⟨some 5, .mov, [.c (.int .i64 3)], none⟩]
def Ze1 : List Z2a := [
  ⟨some 71, .mov, [.t 0], none⟩,
  ⟨some 72, .mov, [.t 0], none⟩,
  ⟨some 73, .nilc, [.t 72], none⟩,
  ⟨some 74, (.fad 2), [.t 73], none⟩,
  ⟨some 75, (.load false 1), [.t 74], none⟩,
  ⟨some 76, .mov, [.t 0], none⟩,
  ⟨some 77, .nilc, [.t 76], none⟩,
  ⟨some 78, (.fad 0), [.t 77], none⟩,
  ⟨some 79, (.load false 1), [.t 78], none⟩,
  ⟨some 80, .mov, [.t 0], none⟩,
  ⟨some 81, .nilc, [.t 80], none⟩,
  ⟨some 82, (.fad 1), [.t 81], none⟩,
  ⟨some 83, (.load false 1), [.t 82], none⟩,
  ⟨some 84, .mov, [.t 0], none⟩,
  ⟨some 85, .nilc, [.t 84], none⟩,
  ⟨some 86, (.fad 1), [.t 85], none⟩,
  ⟨some 87, (.load false 1), [.t 86], none⟩,
  ⟨some 88, .mov, [.t 7], none⟩,
  ⟨some 89, (.bin .add), [.t 87, .t 88], none⟩,
  ⟨some 90, (.slc 1 true true false), [.t 79, .t 83, .t 89], none⟩,
  ⟨some 91, (.app 1 1), [.t 75, .t 90], none⟩,
  ⟨some 92, .nilc, [.t 71], none⟩,
  ⟨some 93, (.fad 2), [.t 92], none⟩,
  ⟨none, (.store 1), [.t 93, .t 91], none⟩]
def Ze2 : List Z2a := [
  ⟨some 94, .mov, [.t 0], none⟩,
  ⟨some 95, .nilc, [.t 94], none⟩,
  ⟨some 96, (.fad 1), [.t 95], none⟩,
  ⟨some 97, (.load false 1), [.t 96], none⟩,
  ⟨some 98, .mov, [.t 7], none⟩,
  ⟨some 99, (.bin .add), [.t 97, .t 98], none⟩,
  ⟨some 100, .nilc, [.t 94], none⟩,
  ⟨some 101, (.fad 1), [.t 100], none⟩,
  ⟨none, (.store 1), [.t 101, .t 99], none⟩]
def Ze3 : List Z2a := [
  ⟨some 102, .mov, [.t 0], none⟩,
  ⟨some 103, .nilc, [.t 102], none⟩,
  ⟨some 104, (.fad 1), [.t 103], none⟩,
  ⟨some 105, (.load false 1), [.t 104], none⟩,
  ⟨some 106, .mov, [.t 0], none⟩,
  ⟨some 107, .nilc, [.t 106], none⟩,
  ⟨some 108, (.fad 0), [.t 107], none⟩,
  ⟨some 109, (.load false 1), [.t 108], none⟩,
  ⟨some 110, .lens, [.t 109], none⟩,
  ⟨some 111, (.bin .eql), [.t 105, .t 110], none⟩]
def Ze4 : List Z2a := [
  ⟨some 4, .mov, [.c (.bool true)], none⟩,
  ⟨some 5, .mov, [.c (.int .i64 0)], none⟩]
def Ze5 : List Z2a := [
  ⟨some 112, .mov, [.t 0], none⟩,
  ⟨some 113, .nilc, [.t 112], none⟩,
  ⟨some 114, (.fad 0), [.t 113], none⟩,
  ⟨some 115, (.load false 1), [.t 114], none⟩,
  ⟨some 116, .lens, [.t 115], none⟩,
  ⟨some 117, .mov, [.t 0], none⟩,
  ⟨some 118, .nilc, [.t 117], none⟩,
  ⟨some 119, (.fad 1), [.t 118], none⟩,
  ⟨some 120, (.load false 1), [.t 119], none⟩,
  ⟨some 121, (.bin .sub), [.t 116, .t 120], none⟩,
  ⟨some 122, (.bin .lss), [.t 121, .c (.int .i64 2)], none⟩]
def Ze6 : List Z2a := [
  ⟨some 4, .mov, [.c (.bool false)], none⟩,
  ⟨some 5, .mov, [.c (.int .i64 3)], none⟩]
def Ze7 : List Z2a := [
  ⟨some 123, .mov, [.t 0], none⟩,
  ⟨some 124, .nilc, [.t 123], none⟩,
  ⟨some 125, (.fad 0), [.t 124], none⟩,
  ⟨some 126, (.load false 1), [.t 125], none⟩,
  ⟨some 127, .mov, [.t 0], none⟩,
  ⟨some 128, .nilc, [.t 127], none⟩,
  ⟨some 129, (.fad 1), [.t 128], none⟩,
  ⟨some 130, (.load false 1), [.t 129], none⟩,
  ⟨some 131, (.iad 1), [.t 126, .t 130], none⟩,
  ⟨some 132, (.load false 1), [.t 131], none⟩,
  ⟨some 133, (.conv .i64), [.t 132], none⟩,
  ⟨some 134, .mov, [.t 0], none⟩,
  ⟨some 135, .nilc, [.t 134], none⟩,
  ⟨some 136, (.fad 0), [.t 135], none⟩,
  ⟨some 137, (.load false 1), [.t 136], none⟩,
  ⟨some 138, .mov, [.t 0], none⟩,
  ⟨some 139, .nilc, [.t 138], none⟩,
  ⟨some 140, (.fad 1), [.t 139], none⟩,
  ⟨some 141, (.load false 1), [.t 140], none⟩,
  ⟨some 142, (.bin .add), [.t 141, .c (.int .i64 1)], none⟩,
  ⟨some 143, (.iad 1), [.t 137, .t 142], none⟩,
  ⟨some 144, (.load false 1), [.t 143], none⟩,
  ⟨some 145, (.conv .i64), [.t 144], none⟩,
  ⟨some 146, (.bin .shl), [.t 145, .c (.int .u64 8)], none⟩,
  ⟨some 147, (.bin .or), [.t 133, .t 146], none⟩,
  ⟨some 9, .mov, [.t 147], none⟩]
def Ze8 : List Z2a := [
  ⟨some 148, .mov, [.t 0], none⟩,
  ⟨some 149, .nilc, [.t 148], none⟩,
  ⟨some 150, (.fad 1), [.t 149], none⟩,
  ⟨some 151, (.load false 1), [.t 150], none⟩,
  ⟨some 152, (.bin .add), [.t 151, .c (.int .i64 2)], none⟩,
  ⟨some 153, .nilc, [.t 148], none⟩,
  ⟨some 154, (.fad 1), [.t 153], none⟩,
  ⟨none, (.store 1), [.t 154, .t 152], none⟩]
def Ze9 : List Z2a := [
  ⟨some 156, .mov, [.t 0], none⟩,
  ⟨some 157, .mov, [.t 6], none⟩,
  ⟨some 158, (.bin .and), [.t 157, .c (.int .i64 15)], none⟩,
  ⟨some 159, (.call Zda), [.t 156, .t 158], none⟩,
  ⟨some 155, .mov, [.t 159], none⟩,
  ⟨some 160, (.ext 0), [.t 155], none⟩,
  ⟨some 161, (.ext 1), [.t 155], none⟩,
  ⟨some 7, .mov, [.t 160], none⟩,
  ⟨some 8, .mov, [.t 161], none⟩]
def Zea : List Z2a := [
  ⟨some 163, .mov, [.t 8], none⟩,
  ⟨some 164, .unot, [.t 163], none⟩,
  ⟨some 162, .mov, [.t 164], none⟩]
def Zeb : List Z2a := [
  ⟨some 4, .mov, [.c (.bool false)], none⟩,
  ⟨some 5, .mov, [.c (.int .i64 3)], none⟩]
def Zec : List Z2a := [
  ⟨some 166, .mov, [.t 9], none⟩,
  ⟨some 167, (.bin .eql), [.t 166, .c (.int .i64 0)], none⟩,
  ⟨some 168, .mov, [.t 167], none⟩,
  ⟨some 169, .mov, [.t 9], some (168, false)⟩,
  ⟨some 170, .mov, [.t 0], some (168, false)⟩,
  ⟨some 171, .nilc, [.t 170], some (168, false)⟩,
  ⟨some 172, (.fad 2), [.t 171], some (168, false)⟩,
  ⟨some 173, (.load false 1), [.t 172], some (168, false)⟩,
  ⟨some 174, .lens, [.t 173], some (168, false)⟩,
  ⟨some 175, (.bin .gtr), [.t 169, .t 174], some (168, false)⟩,
  ⟨some 176, .pick, [.t 168, .c (.bool true), .t 175], none⟩,
  ⟨some 165, .mov, [.t 176], none⟩]
def Zed : List Z2a := [
  ⟨some 4, .mov, [.c (.bool false)], none⟩,
  ⟨some 5, .mov, [.c (.int .i64 2)], none⟩]
def Zee : List Z2a := [
  ⟨some 178, .mov, [.t 7], none⟩,
  ⟨some 179, (.bin .add), [.t 178, .c (.int .i64 4)], none⟩,
  ⟨some 180, .mov, [.t 1], none⟩,
  ⟨some 181, .mov, [.t 0], none⟩,
  ⟨some 182, .nilc, [.t 181], none⟩,
  ⟨some 183, (.fad 2), [.t 182], none⟩,
  ⟨some 184, (.load false 1), [.t 183], none⟩,
  ⟨some 185, .lens, [.t 184], none⟩,
  ⟨some 186, (.bin .sub), [.t 180, .t 185], none⟩,
  ⟨some 187, (.bin .gtr), [.t 179, .t 186], none⟩,
  ⟨some 177, .mov, [.t 187], none⟩]
def Zef : List Z2a := [
  ⟨some 4, .mov, [.c (.bool false)], none⟩,
  ⟨some 5, .mov, [.c (.int .i64 4)], none⟩]
def Zeg : List Z2a := [
  ⟨some 188, .mov, [.t 7], none⟩,
  ⟨some 189, (.bin .add), [.t 188, .c (.int .i64 4)], none⟩,
  ⟨some 190, .mov, [.c (.int .i64 0)], none⟩]
def Zeh : List Z2a := [
  ⟨some 191, (.bin .lss), [.t 190, .t 189], none⟩]
def Zei : List Z2a := [
  ⟨some 192, .mov, [.t 0], none⟩,
  ⟨some 193, .mov, [.t 0], none⟩,
  ⟨some 194, .nilc, [.t 193], none⟩,
  ⟨some 195, (.fad 2), [.t 194], none⟩,
  ⟨some 196, (.load false 1), [.t 195], none⟩,
  ⟨some 197, .mov, [.t 0], none⟩,
  ⟨some 198, .nilc, [.t 197], none⟩,
  ⟨some 199, (.fad 2), [.t 198], none⟩,
  ⟨some 200, (.load false 1), [.t 199], none⟩,
  ⟨some 201, .mov, [.t 0], none⟩,
  ⟨some 202, .nilc, [.t 201], none⟩,
  ⟨some 203, (.fad 2), [.t 202], none⟩,
  ⟨some 204, (.load false 1), [.t 203], none⟩,
  ⟨some 205, .lens, [.t 204], none⟩,
  ⟨some 206, .mov, [.t 9], none⟩,
  ⟨some 207, (.bin .sub), [.t 205, .t 206], none⟩,
  ⟨some 208, (.iad 1), [.t 200, .t 207], none⟩,
  ⟨some 209, (.load false 1), [.t 208], none⟩,
  ⟨some 210, (.bsl 1), [.t 209], none⟩,
  ⟨some 211, (.app 1 1), [.t 196, .t 210], none⟩,
  ⟨some 212, .nilc, [.t 192], none⟩,
  ⟨some 213, (.fad 2), [.t 212], none⟩,
  ⟨none, (.store 1), [.t 213, .t 211], none⟩]
def Zej : List Z2a := [
  ⟨some 214, (.bin .add), [.t 190, .c (.int .i64 1)], none⟩,
  ⟨some 190, .mov, [.t 214], none⟩]
def Zek : Z2b := (.seq (.region Zeh [0, 9, 189, 190, 191]) (.seq (.cond (.t 191) .skip (.exit 2)) (.seq (.block 3 (.region Zei [0, 9, 189, 190])) (.region Zej [0, 9, 189, 190]))))
def Zel : List Z2a := [
  ⟨some 4, .mov, [.c (.bool false)], none⟩,
  ⟨some 5, .mov, [.c (.int .i64 0)], none⟩]
def Zem : Z2y := ⟨215, (.seq (.region Zdp [0, 1, 169, 170, 171, 172, 173, 174, 175]) (.seq (.seq (.region Zdq [0, 1, 19, 169, 170, 171, 172, 173, 174, 175]) (.cond (.t 19) (.seq (.region Zdr [4, 5]) .ret) .skip)) (.seq (.region Zds [0, 1, 6, 169, 170, 171, 172, 173, 174, 175]) (.seq (.region Zdt [0, 1, 6, 169, 170, 171, 172, 173, 174, 175]) (.seq (.region Zdu [0, 1, 6, 7, 8, 169, 170, 171, 172, 173, 174, 175]) (.seq (.block 0 (.seq (.region Zdv [0, 1, 6, 7, 45, 169, 170, 171, 172, 173, 174, 175]) (.cond (.t 45) (.seq (.region Zdw [4, 5]) .ret) (.seq (.region Zdx [0, 1, 6, 7, 48, 169, 170, 171, 172, 173, 174, 175]) (.cond (.t 48) (.seq (.region Zdy [4, 5]) .ret) (.seq (.region Zdz [0, 1, 6, 7, 58, 169, 170, 171, 172, 173, 174, 175]) (.cond (.t 58) (.seq (.region Ze0 [4, 5]) .ret) .skip))))))) (.seq (.region Ze1 [0, 1, 6, 7, 169, 170, 171, 172, 173, 174, 175]) (.seq (.seq (.region Ze2 [0, 1, 6, 169, 170, 171, 172, 173, 174, 175]) (.seq (.region Ze3 [0, 1, 6, 111, 169, 170, 171, 172, 173, 174, 175]) (.cond (.t 111) (.seq (.region Ze4 [4, 5]) .ret) .skip))) (.seq (.seq (.region Ze5 [0, 1, 6, 122, 169, 170, 171, 172, 173, 174, 175]) (.cond (.t 122) (.seq (.region Ze6 [4, 5]) .ret) .skip)) (.seq (.region Ze7 [0, 1, 6, 9, 169, 170, 171, 172, 173, 174, 175]) (.seq (.region Ze8 [0, 1, 6, 9, 169, 170, 171, 172, 173, 174, 175]) (.seq (.region Ze9 [0, 1, 7, 8, 9, 169, 170, 171, 172, 173, 174, 175]) (.seq (.block 1 (.seq (.region Zea [0, 1, 7, 9, 162, 169, 170, 171, 172, 173, 174, 175]) (.cond (.t 162) (.seq (.region Zeb [4, 5]) .ret) (.seq (.region Zec [0, 1, 7, 9, 165]) (.cond (.t 165) (.seq (.region Zed [4, 5]) .ret) (.seq (.region Zee [0, 7, 9, 177]) (.cond (.t 177) (.seq (.region Zef [4, 5]) .ret) .skip))))))) (.seq (.seq (.region Zeg [0, 9, 189, 190]) (.block 2 (.loop Zek))) (.seq (.region Zel [4, 5]) .ret))))))))))))))), [.t 4, .t 5]⟩
def Zen : List Z2a := [
  ⟨some 2, .mov, [.c (.slc 0 [] true)], none⟩]
def Zeo : List Z2a := [
  ⟨some 3, .mov, [.t 0], none⟩,
  ⟨some 4, .mov, [.t 0], none⟩,
  ⟨some 5, .lens, [.t 4], none⟩,
  ⟨some 6, .mov, [.t 0], none⟩,
  ⟨some 7, .lens, [.t 6], none⟩,
  ⟨some 8, (.clip 1), [.t 3, .t 5, .t 7], none⟩,
  ⟨some 2, .mov, [.t 8], none⟩]
def Zep : Z2y := ⟨9, (.seq (.region Zen [0]) (.seq (.region Zeo [2]) .ret)), [.t 2]⟩
def Zeq : List Z2a := [
  ⟨some 4, .mov, [.c (.int .i64 0)], none⟩,
  ⟨some 5, .mov, [.c (.bool false)], none⟩]
def Zer : List Z2a := [
  ⟨some 7, .mov, [.t 1], none⟩,
  ⟨some 8, (.bin .lss), [.t 7, .c (.int .i64 15)], none⟩]
def Zes : List Z2a := [
  ⟨some 9, .mov, [.t 1], none⟩,
  ⟨some 4, .mov, [.t 9], none⟩,
  ⟨some 5, .mov, [.c (.bool true)], none⟩]
def Zet : List Z2a := [
  ⟨some 10, .mov, [.t 0], none⟩,
  ⟨some 11, .nilc, [.t 10], none⟩,
  ⟨some 12, (.fad 1), [.t 11], none⟩,
  ⟨some 13, (.load false 1), [.t 12], none⟩,
  ⟨some 14, .mov, [.t 0], none⟩,
  ⟨some 15, .nilc, [.t 14], none⟩,
  ⟨some 16, (.fad 0), [.t 15], none⟩,
  ⟨some 17, (.load false 1), [.t 16], none⟩,
  ⟨some 18, .lens, [.t 17], none⟩,
  ⟨some 19, (.bin .lss), [.t 13, .t 18], none⟩]
def Zeu : List Z2a := [
  ⟨some 20, .mov, [.t 0], none⟩,
  ⟨some 21, .nilc, [.t 20], none⟩,
  ⟨some 22, (.fad 0), [.t 21], none⟩,
  ⟨some 23, (.load false 1), [.t 22], none⟩,
  ⟨some 24, .mov, [.t 0], none⟩,
  ⟨some 25, .nilc, [.t 24], none⟩,
  ⟨some 26, (.fad 1), [.t 25], none⟩,
  ⟨some 27, (.load false 1), [.t 26], none⟩,
  ⟨some 28, (.iad 1), [.t 23, .t 27], none⟩,
  ⟨some 29, (.load false 1), [.t 28], none⟩,
  ⟨some 30, (.conv .i64), [.t 29], none⟩,
  ⟨some 6, .mov, [.t 30], none⟩]
def Zev : List Z2a := [
  ⟨some 31, .mov, [.t 0], none⟩,
  ⟨some 32, .nilc, [.t 31], none⟩,
  ⟨some 33, (.fad 1), [.t 32], none⟩,
  ⟨some 34, (.load false 1), [.t 33], none⟩,
  ⟨some 35, (.bin .add), [.t 34, .c (.int .i64 1)], none⟩,
  ⟨some 36, .nilc, [.t 31], none⟩,
  ⟨some 37, (.fad 1), [.t 36], none⟩,
  ⟨none, (.store 1), [.t 37, .t 35], none⟩]
def Zew : List Z2a := [
  ⟨some 38, .mov, [.t 1], none⟩,
  ⟨some 39, .mov, [.t 6], none⟩,
  ⟨some 40, (.bin .add), [.t 38, .t 39], none⟩,
  ⟨some 41, .min, [.t 40, .c (.int .i64 2097152)], none⟩,
  ⟨some 1, .mov, [.t 41], none⟩]
def Zex : List Z2a := [
  ⟨some 42, .mov, [.t 6], none⟩,
  ⟨some 43, (.bin .lss), [.t 42, .c (.int .i64 255)], none⟩]
def Zey : List Z2a := [
  ⟨some 44, .mov, [.t 1], none⟩,
  ⟨some 4, .mov, [.t 44], none⟩,
  ⟨some 5, .mov, [.c (.bool true)], none⟩]
def Zez : Z2b := (.seq (.seq (.region Zet [0, 1, 19]) (.cond (.t 19) .skip (.exit 0))) (.block 1 (.seq (.region Zeu [0, 1, 6]) (.seq (.region Zev [0, 1, 6]) (.seq (.region Zew [0, 1, 6]) (.seq (.region Zex [0, 1, 43]) (.cond (.t 43) (.seq (.region Zey [4, 5]) .ret) .skip)))))))
def Zf0 : List Z2a := [
  ⟨some 4, .mov, [.c (.int .i64 0)], none⟩,
  ⟨some 5, .mov, [.c (.bool false)], none⟩]
def Zf1 : Z2y := ⟨45, (.seq (.region Zeq [0, 1]) (.seq (.seq (.region Zer [0, 1, 8]) (.cond (.t 8) (.seq (.region Zes [4, 5]) .ret) .skip)) (.seq (.block 0 (.loop Zez)) (.seq (.region Zf0 [4, 5]) .ret)))), [.t 4, .t 5]⟩
end Go.Abs
namespace Go.Abs
open Go Go.Proofs
theorem Zf2 : Z2z Try.prog [] Zd0 = some Zdo.erase := by kernel_rfl
theorem Zf3 : Z2z Try.prog [] Zd4 = some Zem.erase := by kernel_rfl
theorem Zf4 : Z2z Try.prog [] Zcx = some Zep.erase := by kernel_rfl
theorem Zf5 : Z2z Try.prog [] Zda = some Zf1.erase := by kernel_rfl
end Go.Abs
set_option linter.unusedVariables false
set_option linter.unusedSimpArgs false
namespace Go.Abs.Lz
def lenL : List UInt8 → Nat → Option (Nat × List UInt8)
  | [], _ => none
  | c :: l, n => if c.toNat < 255 then some (n + c.toNat, l) else lenL l (n + c.toNat)
def lenN (l : List UInt8) (n : Nat) : Option (Nat × List UInt8) := if n < 15 then some (n, l) else lenL l n
def Zf6 (back : Nat) : Nat → List UInt8 → List UInt8
  | 0, out => out
  | k + 1, out => Zf6 back k (out ++ [out.getD (out.length - back) 0])
inductive SeqR where
  | err (e : Nat)
  | last (out : List UInt8)
  | go (rest out : List UInt8)
  deriving DecidableEq
def seqF (most : Nat) (l out : List UInt8) : SeqR :=
  match l with
  | [] => .err 3
  | t :: l1 =>
    match lenN l1 (t.toNat / 16) with
    | none => .err 3
    | some (n, l2) =>
      if most < out.length + n then .err 4
      else if l2.length < n then .err 3
      else
        match l2.drop n with
        | [] => .last (out ++ l2.take n)
        | [_] => .err 3
        | a :: b :: l4 =>
          match lenN l4 (t.toNat % 16) with
          | none => .err 3
          | some (m, l5) =>
            if a.toNat + 256 * b.toNat = 0 ∨ (out ++ l2.take n).length < a.toNat + 256 * b.toNat then .err 2
            else if most < (out ++ l2.take n).length + (m + 4) then .err 4
            else .go l5 (Zf6 (a.toNat + 256 * b.toNat) (m + 4) (out ++ l2.take n))
theorem Zf7 : ∀ {l : List UInt8} {n m : Nat} {r : List UInt8}, lenL l n = some (m, r) → r.length < l.length
  | [], _, _, _, h => by simp [lenL] at h
  | c :: l, n, m, r, h => by
    unfold lenL at h
    split at h
    · simp only [Option.some.injEq, Prod.mk.injEq] at h
      obtain ⟨_, rfl⟩ := h
      simp
    · have := Zf7 h
      simp only [List.length_cons]; omega
theorem Zf8 {l : List UInt8} {n m : Nat} {r : List UInt8} (h : lenN l n = some (m, r)) : r.length ≤ l.length := by
  unfold lenN at h
  split at h
  · simp only [Option.some.injEq, Prod.mk.injEq] at h
    rw [h.2]; exact Nat.le_refl _
  · exact Nat.le_of_lt (Zf7 h)
theorem Zf9 {most : Nat} {l out r out' : List UInt8} (h : seqF most l out = .go r out') : r.length < l.length := by
  unfold seqF at h
  split at h
  · cases h
  · rename_i t l1
    split at h
    · cases h
    · rename_i n l2 e2
      have h2 := Zf8 e2
      split at h
      · cases h
      · split at h
        · cases h
        · split at h
          · cases h
          · cases h
          · rename_i a b l4 e4
            split at h
            · cases h
            · rename_i m l5 e5
              have h5 := Zf8 e5
              split at h
              · cases h
              · split at h
                · cases h
                · cases h
                  have := congrArg List.length e4
                  simp only [List.length_drop, List.length_cons] at this
                  simp only [List.length_cons]
                  omega
def unpF (most : Nat) (l out : List UInt8) : Nat × List UInt8 :=
  match h : seqF most l out with
  | .err e => (e, [])
  | .last o => (0, o)
  | .go r o => unpF most r o
termination_by l.length
decreasing_by exact Zf9 h
theorem Zfa {most e : Nat} {l out : List UInt8} (h : seqF most l out = .err e) : unpF most l out = (e, []) := by
  rw [unpF]; split <;> simp_all
theorem Zfb {most : Nat} {l out o : List UInt8} (h : seqF most l out = .last o) : unpF most l out = (0, o) := by
  rw [unpF]; split <;> simp_all
theorem Zfc {most : Nat} {l out r o : List UInt8} (h : seqF most l out = .go r o) : unpF most l out = unpF most r o := by
  rw [unpF]; split <;> simp_all
def Zfd (most : Int) (l : List UInt8) : Nat × List UInt8 :=
  if most < 0 ∨ 1048576 < most then (1, []) else unpF most.toNat l []
theorem Zfe (back : Nat) : ∀ (k : Nat) (out : List UInt8), (Zf6 back k out).length = out.length + k
  | 0, out => rfl
  | k + 1, out => by rw [Zf6, Zfe back k]; simp only [List.length_append, List.length_cons, List.length_nil]; omega
theorem Zff {most : Nat} {l out o : List UInt8} (h : seqF most l out = .last o) : o.length ≤ most := by
  unfold seqF at h
  split at h
  · cases h
  · split at h
    · cases h
    · split at h
      · cases h
      · split at h
        · cases h
        · split at h
          · cases h; simp only [List.length_append, List.length_take]; omega
          · cases h
          · split at h
            · cases h
            · split at h
              · cases h
              · split at h <;> cases h
theorem Zfg {most : Nat} {l out r o : List UInt8} (h : seqF most l out = .go r o) : o.length ≤ most := by
  unfold seqF at h
  split at h
  · cases h
  · split at h
    · cases h
    · split at h
      · cases h
      · split at h
        · cases h
        · split at h
          · cases h
          · cases h
          · split at h
            · cases h
            · split at h
              · cases h
              · split at h
                · cases h
                · cases h
                  rw [Zfe]; omega
end Go.Abs.Lz
set_option linter.unusedVariables false
set_option linter.unusedSimpArgs false
namespace Go.Abs.Lz
def Zfh (n : Nat) : List UInt8 := if _h : 255 ≤ n then 255 :: Zfh (n - 255) else [UInt8.ofNat n]
termination_by n
decreasing_by exact Nat.sub_lt (Nat.lt_of_lt_of_le (Nat.succ_pos 254) _h) (Nat.succ_pos 254)
def Zfi (n : Nat) : List UInt8 := if n < 15 then [] else Zfh (n - 15)
def putF (lits : List UInt8) (back n : Nat) : List UInt8 :=
  UInt8.ofNat (min lits.length 15 * 16 + (if n = 0 then 0 else min (n - 4) 15)) ::
    (Zfi lits.length ++ lits ++ (if n = 0 then [] else [UInt8.ofNat back, UInt8.ofNat (back / 256)] ++ Zfi (n - 4)))
def Zfj (a b c d : UInt8) : Nat := ((a.toNat + b.toNat * 256 + c.toNat * 65536 + d.toNat * 16777216) * 2654435761 % 4294967296) / 1048576
def Zfk : List UInt8 → Nat
  | a :: b :: c :: d :: _ => Zfj a b c d
  | _ => 0
theorem Zfl (l : List UInt8) : Zfk l < 4096 := by
  unfold Zfk Zfj
  split
  · omega
  · omega
def runF (bs : List UInt8) (old at_ n : Nat) : Nat :=
  if _h : at_ + n < bs.length then if bs.getD (old + n) 0 = bs.getD (at_ + n) 0 then runF bs old at_ (n + 1) else n else n
termination_by bs.length - (at_ + n)
theorem Zfm (bs : List UInt8) (old at_ n : Nat) : n ≤ runF bs old at_ n := by
  fun_induction runF bs old at_ n <;> omega
def Zfn (bs : List UInt8) (t : List Int) (from_ at_ : Nat) (out : List UInt8) : List UInt8 :=
  if _h : at_ + 4 ≤ bs.length then
    if t.getD (Zfk (bs.drop at_)) 0 < 0 ∨ 65535 < (at_ : Int) - t.getD (Zfk (bs.drop at_)) 0 ∨ (bs.drop (t.getD (Zfk (bs.drop at_)) 0).toNat).take 4 ≠ (bs.drop at_).take 4 then
      Zfn bs (t.set (Zfk (bs.drop at_)) at_) from_ (at_ + 1) out
    else
      Zfn bs (t.set (Zfk (bs.drop at_)) at_) (at_ + runF bs (t.getD (Zfk (bs.drop at_)) 0).toNat at_ 4) (at_ + runF bs (t.getD (Zfk (bs.drop at_)) 0).toNat at_ 4)
        (out ++ putF ((bs.drop from_).take (at_ - from_)) (at_ - (t.getD (Zfk (bs.drop at_)) 0).toNat) (runF bs (t.getD (Zfk (bs.drop at_)) 0).toNat at_ 4))
  else out ++ putF (bs.drop from_) 0 0
termination_by bs.length - at_
decreasing_by
  · omega
  · have := Zfm bs (t.getD (Zfk (bs.drop at_)) 0).toNat at_ 4
    omega
def Zfo (bs : List UInt8) : List UInt8 :=
  if 1048576 < bs.length then []
  else if (putF bs 0 0).length < (Zfn bs (List.replicate 4096 (-1)) 0 0 []).length then putF bs 0 0 else Zfn bs (List.replicate 4096 (-1)) 0 0 []
theorem Zfp (n : Nat) : (Zfh n).length = n / 255 + 1 := by
  fun_induction Zfh n
  · rename_i n h ih
    simp only [List.length_cons, ih]
    omega
  · simp only [List.length_cons, List.length_nil]
    omega
theorem Zfq (n : Nat) : (Zfi n).length ≤ n / 255 + 1 := by
  unfold Zfi
  split
  · simp
  · rw [Zfp]; omega
theorem Zfr (lits : List UInt8) (back n : Nat) : (putF lits back n).length ≤ 5 + lits.length + lits.length / 255 + n / 255 := by
  have h1 := Zfq lits.length
  have h2 := Zfq (n - 4)
  unfold putF
  split <;> simp only [List.length_cons, List.length_append, List.length_nil] <;> omega
end Go.Abs.Lz
set_option linter.unusedVariables false
set_option linter.unusedSimpArgs false
namespace Go.Abs.Lz
theorem Zfs (k : Nat) (r : List UInt8) : ∀ a, lenL (Zfh k ++ r) a = some (a + k, r) := by
  fun_induction Zfh k
  · rename_i k h ih
    intro a
    simp only [List.cons_append]
    rw [lenL, if_neg (by decide), ih]
    simp only [Option.some.injEq, Prod.mk.injEq, and_true]
    show a + 255 + (k - 255) = a + k
    omega
  · rename_i k h
    intro a
    have e : (UInt8.ofNat k).toNat = k := by rw [UInt8.toNat_ofNat']; omega
    simp only [List.cons_append, List.nil_append]
    rw [lenL, e, if_pos (by omega)]
theorem Zft (m : Nat) (r : List UInt8) : lenN (Zfi m ++ r) (min m 15) = some (m, r) := by
  unfold Zfi lenN
  by_cases h : m < 15
  · rw [if_pos h, if_pos (by omega)]
    simp only [List.nil_append, Option.some.injEq, Prod.mk.injEq, and_true]
    omega
  · rw [if_neg h, if_neg (by omega), Zfs]
    simp only [Option.some.injEq, Prod.mk.injEq, and_true]
    omega
theorem tok (L low : Nat) (hL : L < 16) (hl : low < 16) : (UInt8.ofNat (L * 16 + low)).toNat / 16 = L ∧ (UInt8.ofNat (L * 16 + low)).toNat % 16 = low := by
  have e : (UInt8.ofNat (L * 16 + low)).toNat = L * 16 + low := by rw [UInt8.toNat_ofNat']; omega
  rw [e]; omega
theorem Zfu {most : Nat} {lits out r : List UInt8} {back n : Nat} (hn : 4 ≤ n) (hb0 : 1 ≤ back) (hb1 : back ≤ 65535) (hb2 : back ≤ out.length + lits.length) :
    seqF most (putF lits back n ++ r) out = if most < out.length + lits.length + n then .err 4 else .go r (Zf6 back n (out ++ lits)) := by
  have hlow : (if n = 0 then 0 else min (n - 4) 15) = min (n - 4) 15 := if_neg (by omega)
  have ht := tok (min lits.length 15) (min (n - 4) 15) (by omega) (by omega)
  have e1 : putF lits back n ++ r = UInt8.ofNat (min lits.length 15 * 16 + min (n - 4) 15) :: (Zfi lits.length ++ (lits ++ (UInt8.ofNat back :: UInt8.ofNat (back / 256) :: (Zfi (n - 4) ++ r)))) := by
    rw [putF, hlow, if_neg (by omega)]
    simp
  rw [e1]
  unfold seqF
  simp only [ht.1, ht.2, Zft]
  by_cases h1 : most < out.length + lits.length
  · rw [if_pos h1, if_pos (by omega)]
  rw [if_neg h1, if_neg (by simp), List.drop_left, List.take_left]
  simp only [Zft]
  have eb : (UInt8.ofNat back).toNat + 256 * (UInt8.ofNat (back / 256)).toNat = back := by
    rw [UInt8.toNat_ofNat', UInt8.toNat_ofNat']; omega
  rw [eb, if_neg (by rw [List.length_append]; omega), List.length_append, show n - 4 + 4 = n by omega]
theorem Zfv {most : Nat} {lits out : List UInt8} : seqF most (putF lits 0 0) out = if most < out.length + lits.length then .err 4 else .last (out ++ lits) := by
  have ht := tok (min lits.length 15) 0 (by omega) (by omega)
  have e1 : putF lits 0 0 = UInt8.ofNat (min lits.length 15 * 16 + 0) :: (Zfi lits.length ++ lits) := by
    rw [putF]; simp
  rw [e1]
  unfold seqF
  simp only [ht.1, Zft]
  by_cases h1 : most < out.length + lits.length
  · rw [if_pos h1, if_pos h1]
  · rw [if_neg h1, if_neg h1, if_neg (by omega)]
    simp only [List.drop_length, List.take_length]
theorem Zfw (bs : List UInt8) (t : List Int) (from_ at_ : Nat) (out : List UInt8) : Zfn bs t from_ at_ out = out ++ Zfn bs t from_ at_ [] := by
  suffices h : ∀ out0, Zfn bs t from_ at_ (out0 ++ out) = out0 ++ Zfn bs t from_ at_ out by
    have := h out
    have h2 := (show ∀ out1, Zfn bs t from_ at_ (out1 ++ []) = out1 ++ Zfn bs t from_ at_ [] from ?_) out
    · rw [List.append_nil] at h2; exact h2
    clear this h
    generalize ([] : List UInt8) = o
    fun_induction Zfn bs t from_ at_ o
    · rename_i h h2 ih
      intro out1
      rw [Zfn, dif_pos h, if_pos h2, ih]
    · rename_i h h2 ih
      intro out1
      rw [Zfn, dif_pos h, if_neg h2, List.append_assoc, ih]
    · rename_i h
      intro out1
      rw [Zfn, dif_neg h, List.append_assoc]
  fun_induction Zfn bs t from_ at_ out
  · rename_i h h2 ih
    intro out1
    rw [Zfn, dif_pos h, if_pos h2, ih]
  · rename_i h h2 ih
    intro out1
    rw [Zfn, dif_pos h, if_neg h2, List.append_assoc, ih]
  · rename_i h
    intro out1
    rw [Zfn, dif_neg h, List.append_assoc]
theorem Zfx (bs : List UInt8) (old at_ n : Nat) : at_ + n ≤ bs.length → at_ + runF bs old at_ n ≤ bs.length := by
  fun_induction runF bs old at_ n <;> intro hh <;> first | omega | (rename_i ih; exact ih (by omega))
theorem Zfy (bs : List UInt8) (old at_ n : Nat) : (∀ i, i < n → bs.getD (old + i) 0 = bs.getD (at_ + i) 0) → ∀ i, i < runF bs old at_ n → bs.getD (old + i) 0 = bs.getD (at_ + i) 0 := by
  fun_induction runF bs old at_ n
  · rename_i n h h2 ih
    intro h3
    refine ih ?_
    intro i hi
    by_cases e : i = n
    · subst e; exact h2
    · exact h3 i (by omega)
  · intro h3; exact h3
  · intro h3; exact h3
theorem Zfz (bs : List UInt8) (k : Nat) (h : k < bs.length) : bs.take (k + 1) = bs.take k ++ [bs.getD k 0] := by
  rw [List.take_add_one, List.getD_eq_getElem?_getD, List.getElem?_eq_getElem h]; rfl
theorem Zg0 (bs : List UInt8) (old at_ : Nat) (ho : old < at_) : ∀ (n k : Nat), at_ + k + n ≤ bs.length → (∀ i, i < k + n → bs.getD (old + i) 0 = bs.getD (at_ + i) 0) → Zf6 (at_ - old) n (bs.take (at_ + k)) = bs.take (at_ + k + n)
  | 0, k, _, _ => rfl
  | n + 1, k, hle, h => by
    have e1 : (bs.take (at_ + k)).length = at_ + k := by rw [List.length_take]; omega
    have e2 : (bs.take (at_ + k)).getD ((bs.take (at_ + k)).length - (at_ - old)) 0 = bs.getD (at_ + k) 0 := by
      rw [e1, show at_ + k - (at_ - old) = old + k by omega, ← h k (by omega)]
      rw [List.getD_eq_getElem?_getD, List.getD_eq_getElem?_getD, List.getElem?_take_of_lt (by omega)]
    rw [Zf6, e2, ← Zfz bs (at_ + k) (by omega), show at_ + k + 1 = at_ + (k + 1) by omega, Zg0 bs old at_ ho n (k + 1) (by omega) (fun i hi => h i (by omega))]
    congr 1; omega
theorem Zg1 {bs : List UInt8} {a b : Nat} (h : (bs.drop a).take 4 = (bs.drop b).take 4) : ∀ i, i < 4 → bs.getD (a + i) 0 = bs.getD (b + i) 0 := by
  intro i hi
  have := congrArg (fun l => l[i]?) h
  simp only [List.getElem?_take_of_lt hi, List.getElem?_drop] at this
  rw [List.getD_eq_getElem?_getD, List.getD_eq_getElem?_getD, this]
theorem Zg2 {t : List Int} {hs at_ m : Nat} (hm : at_ < m) (h : ∀ (i : Nat) (x : Int), t[i]? = some x → x < at_) : ∀ (i : Nat) (x : Int), (t.set hs (at_ : Int))[i]? = some x → x < m := by
  intro i x hx
  rw [List.getElem?_set] at hx
  split at hx
  · split at hx
    · cases hx; omega
    · cases hx
  · have := h i x hx; omega
theorem Zg3 (bs : List UInt8) : ∀ (k : Nat) (t : List Int) (from_ at_ : Nat), bs.length - at_ = k → t.length = 4096 → from_ ≤ at_ → at_ ≤ bs.length → (∀ (i : Nat) (x : Int), t[i]? = some x → x < at_) →
    ∀ most, unpF most (Zfn bs t from_ at_ []) (bs.take from_) = if bs.length ≤ most then (0, bs) else (4, []) := by
  intro k
  induction k using Nat.strongRecOn with
  | _ k ih =>
  intro t from_ at_ hk htl h3 h4 h5 most
  rw [Zfn]
  by_cases h : at_ + 4 ≤ bs.length
  · rw [dif_pos h]
    have hh := Zfl (bs.drop at_)
    generalize Zfk (bs.drop at_) = hs at *
    obtain ⟨old, hold⟩ : ∃ old, t[hs]? = some old := ⟨t[hs], List.getElem?_eq_getElem (by omega)⟩
    have hgd : t.getD hs 0 = old := by rw [List.getD_eq_getElem?_getD, hold]; rfl
    have hlt := h5 hs old hold
    rw [hgd]
    by_cases h2 : old < 0 ∨ 65535 < (at_ : Int) - old ∨ (bs.drop old.toNat).take 4 ≠ (bs.drop at_).take 4
    · rw [if_pos h2]
      exact ih (bs.length - (at_ + 1)) (by omega) _ _ _ rfl (by rw [List.length_set, htl]) (by omega) (by omega) (Zg2 (by omega) h5) most
    · rw [if_neg h2]
      simp only [not_or, ne_eq, Classical.not_not] at h2
      obtain ⟨h6, h7, h8⟩ := h2
      obtain ⟨o, rfl⟩ : ∃ o : Nat, old = o := ⟨old.toNat, by omega⟩
      rw [Int.toNat_natCast] at h8 ⊢
      have hr4 := Zfm bs o at_ 4
      have hrl := Zfx bs o at_ 4 h
      have hre := Zfy bs o at_ 4 (Zg1 h8)
      generalize runF bs o at_ 4 = n at *
      rw [Zfw, List.nil_append]
      have hll : ((bs.drop from_).take (at_ - from_)).length = at_ - from_ := by rw [List.length_take, List.length_drop]; omega
      have hfl : (bs.take from_).length = from_ := by rw [List.length_take]; omega
      have hsq := Zfu (most := most) (lits := (bs.drop from_).take (at_ - from_)) (out := bs.take from_) (r := Zfn bs (t.set hs at_) (at_ + n) (at_ + n) []) (back := at_ - o) (n := n) hr4 (by omega) (by omega) (by omega)
      rw [hll, hfl] at hsq
      have hcat : bs.take from_ ++ (bs.drop from_).take (at_ - from_) = bs.take at_ := by
        rw [← List.take_add]; congr 1; omega
      have hcp := Zg0 bs o at_ (by omega) n 0 (by omega) (fun i hi => hre i (by omega))
      rw [hcat, show Zf6 (at_ - o) n (bs.take at_) = bs.take (at_ + n) from hcp] at hsq
      by_cases h9 : most < from_ + (at_ - from_) + n
      · rw [if_pos h9] at hsq
        rw [Zfa hsq, if_neg (by omega)]
      · rw [if_neg h9] at hsq
        rw [Zfc hsq]
        exact ih (bs.length - (at_ + n)) (by omega) _ _ _ rfl (by rw [List.length_set, htl]) (by omega) (by omega) (Zg2 (by omega) h5) most
  · rw [dif_neg h]
    have e1 : (bs.take from_).length + (bs.drop from_).length = bs.length := by rw [List.length_take, List.length_drop]; omega
    rw [List.nil_append]
    by_cases h6 : bs.length ≤ most
    · rw [if_pos h6, Zfb (o := bs)]
      rw [Zfv, e1, if_neg (by omega), List.take_append_drop]
    · rw [if_neg h6, Zfa (e := 4)]
      rw [Zfv, e1, if_pos (by omega)]
theorem Zg4 {bs : List UInt8} (hb : bs.length ≤ 1048576) (most : Nat) : unpF most (Zfo bs) [] = if bs.length ≤ most then (0, bs) else (4, []) := by
  have h1 : unpF most (Zfn bs (List.replicate 4096 (-1)) 0 0 []) [] = if bs.length ≤ most then (0, bs) else (4, []) :=
    Zg3 bs _ _ 0 0 rfl List.length_replicate (by omega) (by omega) (fun i x h => by have := List.eq_of_mem_replicate (List.mem_of_getElem? h); omega) most
  have h2 : unpF most (putF bs 0 0) [] = if bs.length ≤ most then (0, bs) else (4, []) := by
    by_cases h6 : bs.length ≤ most
    · rw [if_pos h6, Zfb (o := bs)]
      rw [Zfv, if_neg (by simp; omega)]; rfl
    · rw [if_neg h6, Zfa (e := 4)]
      rw [Zfv, if_pos (by simp; omega)]
  rw [Zfo, if_neg (by omega)]
  split
  · exact h2
  · exact h1
theorem Zg5 {bs : List UInt8} (hb : bs.length ≤ 1048576) {most : Int} (h0 : 0 ≤ most) (h1 : most ≤ 1048576) : Zfd most (Zfo bs) = if (bs.length : Int) ≤ most then (0, bs) else (4, []) := by
  rw [Zfd, if_neg (by omega), Zg4 hb]
  by_cases h : (bs.length : Int) ≤ most
  · rw [if_pos (by omega), if_pos h]
  · rw [if_neg (by omega), if_neg h]
theorem Zg6 {bs : List UInt8} : (Zfo bs).length ≤ bs.length + bs.length / 255 + 16 := by
  have := Zfq bs.length
  have h2 : (putF bs 0 0).length ≤ bs.length + bs.length / 255 + 16 := by
    rw [putF]; simp; omega
  rw [Zfo]
  split
  · simp
  · split
    · exact h2
    · omega
theorem Zg7 : Zfd 10 [17, 97, 1, 0, 0] = (0, [97, 97, 97, 97, 97, 97]) := by
  rw [Zfd, if_neg (by decide)]
  rw [Zfc (r := [0]) (o := [97, 97, 97, 97, 97, 97]) (by decide), Zfb (o := [97, 97, 97, 97, 97, 97]) (by decide)]
theorem Zg8 : Zfd 10 [16] = (3, []) := by
  rw [Zfd, if_neg (by decide), Zfa (e := 3) (by decide)]
end Go.Abs.Lz
namespace Go.Abs
open Go Go.Proofs Go.Abs.Lz
set_option linter.unusedVariables false
set_option linter.unusedSimpArgs false
theorem Zg9 {α : Type} {l : List α} {i : Nat} {x : α} {r : List α} (h : l.drop i = x :: r) : i < l.length ∧ l[i]? = some x ∧ l.drop (i + 1) = r := by
  have h1 : i < l.length := by
    apply Nat.lt_of_not_le; intro h'; rw [List.drop_eq_nil_of_le h'] at h; cases h
  refine ⟨h1, ?_, ?_⟩
  · have := congrArg (fun l => l[0]?) h
    simpa using this
  · have := congrArg (List.drop 1) h
    simpa [List.drop_drop] using this
theorem Zga {α : Type} {l : List α} {i : Nat} (h : l.drop i = []) : l.length ≤ i := by simpa using h
theorem Zgb {α : Type} {l r : List α} {i : Nat} (h : l.drop i = r) (hi : i ≤ l.length) : l.length = i + r.length := by
  have := congrArg List.length h
  simp only [List.length_drop] at this
  omega
def rdr (bs : List UInt8) (f : Bool) (i : Nat) (out : Z0) : Zb := .cells 3 [.agg [.slc 1 (bytes bs) f, .int .i64 i, out]]
def LenR (σ : Zc) (rb : Nat) (bs : List UInt8) (f : Bool) (out : Z0) (x : Option (Nat × List UInt8)) (r : Z0) (σ' : Zc) : Prop :=
  match x with
  | none => r = .tup [.int .i64 0, .bool false] ∧ ∃ i : Nat, σ' = Ze σ rb (rdr bs f i out)
  | some (m, l) => r = .tup [.int .i64 (min m 2097152 : Nat), .bool true] ∧ ∃ i : Nat, i ≤ bs.length ∧ bs.drop i = l ∧ σ' = Ze σ rb (rdr bs f i out)
theorem Zgc {σ : Zc} {rb : Nat} {bs : List UInt8} {f : Bool} {i : Nat} {out : Z0} {l : List UInt8} {n : Nat} (hg : Zd σ rb = some (rdr bs f i out)) (hi : i ≤ bs.length) (hl : bs.drop i = l) (hn : n ≤ 15) (hb : bs.length ≤ 140737488355328) :
    Z1q Try.prog Zda [.ptr rb 0 0, .int .i64 n] σ (LenR σ rb bs f out (lenN l n)) := by
  refine Z8t rfl Zf5 (Nat.le_of_ble_eq_true rfl) ?_
  refine Z9z ?_
  (repeat (refine st_q rfl rfl rfl ?_))
  (refine Z8y ?_; (repeat (first | refine Z9v rfl ?_ | refine Z9w ?_)); refine Z9u ?_)
  refine Za5 ?_
  refine Zad ?_
  (repeat (refine st_q rfl rfl rfl ?_))
  (refine Z8y ?_; (repeat (first | refine Z9v rfl ?_ | refine Z9w ?_)); refine Z9u ?_)
  refine Za3 (p := (n : Int) < 15) rfl (fun h => ?_) (fun h => ?_)
  · refine Z9z ?_
    (repeat (refine st_q rfl rfl rfl ?_))
    (refine Z8y ?_; (repeat (first | refine Z9v rfl ?_ | refine Z9w ?_)); refine Z9u ?_)
    refine Z8d ?_
    refine ares rfl (HSub.refl _) ?_
    have e : lenN l n = some (n, l) := by simp only [lenN]; rw [if_pos (by omega)]
    rw [e]
    refine ⟨?_, i, hi, hl, (Zak hg).symm⟩
    rw [show min n 2097152 = n by omega]
    rfl
  · refine Za4 ?_
    have e : lenN l n = lenL l n := by simp only [lenN]; rw [if_neg (by omega)]
    rw [e]
    refine Z9y (keep := [0, 1]) ?_
    ((repeat (first | refine Z9v rfl ?_ | refine Z9w ?_)); refine Z9u ?_)
    refine Za6 ?_
    refine Zaa (fun k F σ' => ∃ (j m : Nat), F = fset 0 (some (.ptr rb 0 0)) (fset 1 (some (.int .i64 (min m 2097152 : Nat))) Z27) ∧ σ' = Ze σ rb (rdr bs f j out) ∧ j ≤ bs.length ∧ k = bs.length - j ∧ lenL (bs.drop j) m = lenL l n) (n := bs.length - i) ⟨i, n, ?_, (Zak hg).symm, hi, rfl, by rw [hl]⟩ ?_
    · rw [show min n 2097152 = n by omega]
    · rintro k F σ' ⟨j, m, rfl, rfl, hj, rfl, hL⟩
      have hg' : Zd (Ze σ rb (rdr bs f j out)) rb = some (rdr bs f j out) := Z5k hg
      refine Za5 ?_
      refine Zad ?_
      (repeat (first | refine st_q rfl rfl rfl ?_ | refine Z92 rfl hg' rfl rfl ?_))
      (refine Z8y ?_; (repeat (first | refine Z9v rfl ?_ | refine Z9w ?_)); refine Z9u ?_)
      refine Za3 (p := (j : Int) < (bytes bs).length) rfl (fun h1 => ?_) (fun h1 => ?_)
      all_goals rw [Zam] at h1
      · refine Za4 ?_
        have hj' : j < bs.length := by omega
        obtain ⟨c, r, hc⟩ : ∃ c r, bs.drop j = c :: r := by
          cases h2 : bs.drop j with
          | nil => exact absurd (Zga h2) (by omega)
          | cons c r => exact ⟨c, r, rfl⟩
        obtain ⟨_, hx, hr⟩ := Zg9 hc
        have hx' : (bytes bs)[(j : Int).toNat]? = some (Zx c) := by rw [Zao]; simp [hx]
        have hc0 : c.toNat < 256 := c.toNat_lt
        refine Z8h ?_
        refine Z9z ?_
        (repeat (first | refine st_q rfl rfl rfl ?_ | refine Z92 rfl hg' rfl rfl ?_))
        refine Z93 rfl (by omega) hx' ?_
        (repeat (refine st_q rfl rfl rfl ?_))
        (refine Z8y ?_; (repeat (first | refine Z9v rfl ?_ | refine Z9w ?_)); refine Z9u ?_)
        refine Z9z ?_
        (repeat (first | refine st_q rfl rfl rfl ?_ | refine Z92 rfl hg' rfl rfl ?_))
        refine Z9a rfl hg' rfl (by decide) (Z0.fit_iff.1 rfl) (fun e => by cases e) rfl ?_
        refine Z8y ?_
        ((repeat (first | refine Z9v rfl ?_ | refine Z9w ?_)); refine Z9u ?_)
        refine Z9z ?_
        (repeat (refine st_q rfl rfl rfl ?_))
        (refine Z8y ?_; (repeat (first | refine Z9v rfl ?_ | refine Z9w ?_)); refine Z9u ?_)
        refine Z9z ?_
        (repeat (refine st_q rfl rfl rfl ?_))
        (refine Z8y ?_; (repeat (first | refine Z9v rfl ?_ | refine Z9w ?_)); refine Z9u ?_)
        have e1 : IntKind.wrap .i64 (c.toNat : Int) = (c.toNat : Int) := w64 _ (by omega) (by omega)
        have e2 : IntKind.wrap .i64 (((min m 2097152 : Nat) : Int) + (c.toNat : Int)) = (((min m 2097152 : Nat) : Int) + (c.toNat : Int)) := w64 _ (by omega) (by omega)
        have e3 : (if (2097152 : Int) < ((min m 2097152 : Nat) : Int) + (c.toNat : Int) then 2097152 else ((min m 2097152 : Nat) : Int) + (c.toNat : Int)) = ((min (m + c.toNat) 2097152 : Nat) : Int) := by split <;> omega
        have e4 : IntKind.wrap .i64 ((j : Int) + 1) = ((j + 1 : Nat) : Int) := by rw [w64 _ (by omega) (by omega)]; omega
        rw [Zaj, e1, e2, e3, e4]
        refine Za3 (p := (c.toNat : Int) < 255) rfl (fun h2 => ?_) (fun h2 => ?_)
        · refine Z9z ?_
          (repeat (refine st_q rfl rfl rfl ?_))
          (refine Z8y ?_; (repeat (first | refine Z9v rfl ?_ | refine Z9w ?_)); refine Z9u ?_)
          refine Z8d ?_
          refine ares rfl (HSub.refl _) ?_
          have e5 : lenL l n = some (m + c.toNat, r) := by rw [← hL, hc]; simp only [lenL]; rw [if_pos (by omega)]
          rw [e5]
          exact ⟨rfl, j + 1, by omega, hr, rfl⟩
        · refine Z8b ?_
          refine Zac (keep := [0, 1]) ?_
          ((repeat (first | refine Z9v rfl ?_ | refine Z9w ?_)); refine Z9u ?_)
          refine ⟨_, _, HSub.refl _, ⟨j + 1, m + c.toNat, rfl, rfl, by omega, rfl, ?_⟩, by omega⟩
          rw [← hL, hc, hr]
          conv => rhs; unfold lenL
          rw [if_neg (by omega)]
      · refine Z8c ?_
        show AWp _ _ _ _ _ _
        refine Z9z ?_
        (repeat (refine st_q rfl rfl rfl ?_))
        (refine Z8y ?_; (repeat (first | refine Z9v rfl ?_ | refine Z9w ?_)); refine Z9u ?_)
        refine Z8d ?_
        refine ares rfl (HSub.refl _) ?_
        have e5 : bs.drop j = [] := List.drop_eq_nil_of_le (by omega)
        rw [e5] at hL
        have e6 : lenL l n = none := by rw [← hL]; rfl
        rw [e6]
        exact ⟨rfl, j, rfl⟩
theorem Zgd : ∀ {l : List UInt8} {n m : Nat} {r : List UInt8}, lenL l n = some (m, r) → ∃ k, k ≤ l.length ∧ l.drop k = r
  | [], _, _, _, h => by simp [lenL] at h
  | c :: l, n, m, r, h => by
    unfold lenL at h
    split at h
    · simp only [Option.some.injEq, Prod.mk.injEq] at h
      obtain ⟨_, rfl⟩ := h
      exact ⟨1, by simp, rfl⟩
    · obtain ⟨k, h1, h2⟩ := Zgd h
      exact ⟨k + 1, by simpa using h1, by simpa using h2⟩
theorem Zge {l : List UInt8} {n m : Nat} {r : List UInt8} (h : lenN l n = some (m, r)) : ∃ k, k ≤ l.length ∧ l.drop k = r := by
  unfold lenN at h
  split at h
  · simp only [Option.some.injEq, Prod.mk.injEq] at h
    exact ⟨0, by simp, by simpa using h.2⟩
  · exact Zgd h
theorem Zgf {β τ : Zc} {rb : Nat} {x : Zb} (nd : (Zh (β ++ (rb, x) :: τ)).Nodup) : rb ∉ Zh β := by
  rw [Zal] at nd
  intro h
  have := (List.nodup_append.1 nd).2.2 rb h rb (by simp)
  exact this rfl
theorem Zgg (a b : Nat) (ha : a < 9223372036854775808) (hb : b < 9223372036854775808) : intBits .and .i64 (a : Int) (b : Int) = ((a &&& b : Nat) : Int) := by
  have h1 : a &&& b ≤ a := Nat.and_le_left
  show IntKind.wrap .i64 ((BitVec.ofInt 64 (a : Int) &&& BitVec.ofInt 64 (b : Int)).toNat : Int) = _
  rw [BitVec.toNat_and, BitVec.ofInt_natCast, BitVec.ofInt_natCast, BitVec.toNat_ofNat, BitVec.toNat_ofNat, Nat.mod_eq_of_lt (by omega), Nat.mod_eq_of_lt (by omega)]
  exact w64 _ (by omega) (by omega)
theorem ibOr (a b : Nat) (ha : a < 9223372036854775808) (hb : b < 9223372036854775808) : intBits .or .i64 (a : Int) (b : Int) = ((a ||| b : Nat) : Int) := by
  have h1 : a ||| b < 2 ^ 63 := Nat.or_lt_two_pow (by omega) (by omega)
  show IntKind.wrap .i64 ((BitVec.ofInt 64 (a : Int) ||| BitVec.ofInt 64 (b : Int)).toNat : Int) = _
  rw [BitVec.toNat_or, BitVec.ofInt_natCast, BitVec.ofInt_natCast, BitVec.toNat_ofNat, BitVec.toNat_ofNat, Nat.mod_eq_of_lt (by omega), Nat.mod_eq_of_lt (by omega)]
  exact w64 _ (by omega) (by omega)
theorem Zgh (t : Nat) (h : t < 256) : intBits .and .i64 (t : Int) 15 = ((t % 16 : Nat) : Int) := by
  have := Nat.and_two_pow_sub_one_eq_mod t 4
  simp only [Nat.reducePow, Nat.reduceSub] at this
  rw [← this]
  exact Zgg t 15 (by omega) (by omega)
theorem or8 (a b : Nat) (ha : a < 256) (hb : b < 256) : intBits .or .i64 (a : Int) ((b * 256 : Nat) : Int) = ((a + 256 * b : Nat) : Int) := by
  have e : a ||| b * 256 = a + 256 * b := by
    have := Nat.shiftLeft_add_eq_or_of_lt (i := 8) (b := a) (by omega) b
    rw [Nat.shiftLeft_eq] at this
    simp only [Nat.reducePow] at this
    rw [Nat.or_comm, ← this, Nat.add_comm, Nat.mul_comm]
  rw [ibOr _ _ (by omega) (by omega), e]
def SeqP (τ : Zc) (rb : Nat) (bs : List UInt8) (f : Bool) (x : SeqR) (r : Z0) (σ' : Zc) : Prop :=
  match x with
  | .err e => r = .tup [.bool false, .int .i64 e] ∧ σ' = τ
  | .last o => r = .tup [.bool true, .int .i64 0] ∧ ∃ (β : Zc) (v : Z0) (i : Nat), Grow v o β ∧ σ' = β ++ (rb, rdr bs f i v) :: τ
  | .go l o => r = .tup [.bool false, .int .i64 0] ∧ ∃ (β : Zc) (v : Z0) (i : Nat), Grow v o β ∧ i ≤ bs.length ∧ bs.drop i = l ∧ σ' = β ++ (rb, rdr bs f i v) :: τ
end Go.Abs
namespace Go.Abs
open Go Go.Proofs Go.Abs.Lz
set_option linter.unusedVariables false
set_option linter.unusedSimpArgs false
theorem Zgi {τ : Zc} {rb b' : Nat} {bs : List UInt8} {f : Bool} {i3 : Nat} {o1 l4 : List UInt8} {t a b : UInt8} {most : Nat} (hb : bs.length ≤ 140737488355328) (hm : most ≤ 1048576) (hne : b' ≠ rb) (hol : o1.length ≤ most) (hi3 : i3 + 2 ≤ bs.length)
    (hxa : bs[i3]? = some a) (hxb : bs[i3 + 1]? = some b) (hl4 : bs.drop (i3 + 2) = l4)
    {X : SeqR} (hX : (match lenN l4 (t.toNat % 16) with
          | none => SeqR.err 3
          | some (m, l5) =>
            if a.toNat + 256 * b.toNat = 0 ∨ o1.length < a.toNat + 256 * b.toNat then .err 2
            else if most < o1.length + (m + 4) then .err 4
            else .go l5 (Zf6 (a.toNat + 256 * b.toNat) (m + 4) o1)) = X) :
    AWp Try.prog Zem.n (Zem.code.snd 9) (ARet Zem.res (SeqP τ rb bs f X))
      (fset 0 (some (.ptr rb 0 0)) (fset 1 (some (.int .i64 most)) (fset 6 (some (.int .i64 t.toNat)) Z27))) ((b', .cells 1 (bytes o1)) :: (rb, rdr bs f i3 (.arr 1 b' 0 o1.length)) :: τ) := by
  have hg1 : ∀ x, Zd ((b', .cells 1 (bytes o1)) :: (rb, x) :: τ) rb = some x := fun x => Z90 hne Z8z
  have hs1 : ∀ x y, Ze ((b', .cells 1 (bytes o1)) :: (rb, x) :: τ) rb y = (b', .cells 1 (bytes o1)) :: (rb, y) :: τ := fun x y => Z9c hne Z9b
  have hsub1 : ∀ x, HSub τ ((b', .cells 1 (bytes o1)) :: (rb, x) :: τ) := fun x => HSub.of_sublist ((List.sublist_cons_self _ _).trans (List.sublist_cons_self _ _))
  have hxa' : (bytes bs)[(i3 : Int).toNat]? = some (Zx a) := by rw [Zao]; simp [hxa]
  have hxb' : (bytes bs)[((i3 + 1 : Nat) : Int).toNat]? = some (Zx b) := by rw [Zao]; simp [hxb]
  have ht0 : t.toNat < 256 := t.toNat_lt
  have ha0 : a.toNat < 256 := a.toNat_lt
  have hb0 : b.toNat < 256 := b.toNat_lt
  have e11 : IntKind.wrap .i64 ((i3 : Int) + 1) = ((i3 + 1 : Nat) : Int) := by rw [w64 _ (by omega) (by omega)]; omega
  have e12 : IntKind.wrap .i64 (a.toNat : Int) = (a.toNat : Int) := w64 _ (by omega) (by omega)
  have e13 : IntKind.wrap .i64 (b.toNat : Int) = (b.toNat : Int) := w64 _ (by omega) (by omega)
  have e14 : IntKind.wrap .i64 ((b.toNat : Int) * 256) = ((b.toNat * 256 : Nat) : Int) := by rw [w64 _ (by omega) (by omega)]; omega
  have e15 := or8 a.toNat b.toNat ha0 hb0
  have e16 : IntKind.wrap .i64 ((i3 : Int) + 2) = ((i3 + 2 : Nat) : Int) := by rw [w64 _ (by omega) (by omega)]; omega
  refine Z9z ?_
  (repeat (first | refine st_q rfl rfl rfl ?_ | refine Z92 rfl (hg1 _) rfl rfl ?_))
  refine Z93 rfl (by omega) hxa' ?_
  (repeat (first | refine st_q rfl rfl rfl ?_ | refine Z92 rfl (hg1 _) rfl rfl ?_))
  rw [e11, e12]
  refine Z93 rfl (by omega) hxb' ?_
  refine st_q rfl rfl rfl ?_
  refine st_q rfl rfl rfl ?_
  rw [e13]
  refine Z95 rfl (by decide) ?_
  change aops _ _ (fset _ (some (.int .i64 (IntKind.wrap .i64 ((b.toNat : Int) * 256)))) _) _ _
  rw [e14]
  refine st_q rfl (congrArg (fun x => some (Z0.int .i64 x)) e15) rfl ?_
  (repeat (refine st_q rfl rfl rfl ?_))
  generalize hbk : a.toNat + 256 * b.toNat = back at *
  (refine Z8y ?_; (repeat (first | refine Z9v rfl ?_ | refine Z9w ?_)); refine Z9u ?_)
  refine Z9z ?_
  (repeat (first | refine st_q rfl rfl rfl ?_ | refine Z92 rfl (hg1 _) rfl rfl ?_))
  refine Z9a rfl (hg1 _) rfl (by decide) (Z0.fit_iff.1 rfl) (fun e => by cases e) (hs1 _ _) ?_
  refine Z8y ?_
  ((repeat (first | refine Z9v rfl ?_ | refine Z9w ?_)); refine Z9u ?_)
  rw [e16]
  refine Z9z ?_
  (repeat (refine st_q rfl rfl rfl ?_))
  have e17 := Zgh t.toNat ht0
  have hc := Zgc (σ := (b', .cells 1 (bytes o1)) :: (rb, rdr bs f (i3 + 2) (.arr 1 b' 0 o1.length)) :: τ) (hg1 (rdr bs f (i3 + 2) (.arr 1 b' 0 o1.length))) (by omega) hl4 (show t.toNat % 16 ≤ 15 by omega) hb
  cases hL : lenN l4 (t.toNat % 16) with
  | none =>
    rw [hL] at hX hc
    simp only at hX
    subst hX
    refine Z9s (congrArg (fun x => some [Z0.ptr rb 0 0, Z0.int .i64 x]) e17) hc ⟨_, _, rfl, 0, rfl⟩ ?_
    rintro _ _ ⟨rfl, i2, rfl⟩
    (repeat (refine st_q rfl rfl rfl ?_))
    (refine Z8y ?_; (repeat (first | refine Z9v rfl ?_ | refine Z9w ?_)); refine Z9u ?_)
    rw [hs1]
    refine Za6 ?_
    refine Z9z ?_
    (repeat (refine st_q rfl rfl rfl ?_))
    (refine Z8y ?_; (repeat (first | refine Z9v rfl ?_ | refine Z9w ?_)); refine Z9u ?_)
    refine Z8f rfl (fun _ => ?_) (fun e => by cases e)
    refine Z9z ?_
    (repeat (refine st_q rfl rfl rfl ?_))
    (refine Z8y ?_; (repeat (first | refine Z9v rfl ?_ | refine Z9w ?_)); refine Z9u ?_)
    refine Z8d ?_
    exact ares rfl (hsub1 _) ⟨rfl, rfl⟩
  | some p =>
    obtain ⟨m, l5⟩ := p
    rw [hL] at hX hc
    simp only at hX
    obtain ⟨k, hk1, hk2⟩ := Zge hL
    refine Z9s (congrArg (fun x => some [Z0.ptr rb 0 0, Z0.int .i64 x]) e17) hc ⟨_, _, rfl, i3 + 2 + k, ?_, ?_, rfl⟩ ?_
    · have := Zgb hl4 (by omega); omega
    · rw [← hk2, ← hl4, List.drop_drop]
    rintro _ _ ⟨rfl, i4, hi4, hl5, rfl⟩
    (repeat (refine st_q rfl rfl rfl ?_))
    (refine Z8y ?_; (repeat (first | refine Z9v rfl ?_ | refine Z9w ?_)); refine Z9u ?_)
    rw [hs1]
    refine Za6 ?_
    refine Z9z ?_
    (repeat (refine st_q rfl rfl rfl ?_))
    (refine Z8y ?_; (repeat (first | refine Z9v rfl ?_ | refine Z9w ?_)); refine Z9u ?_)
    refine Z8f rfl (fun e => by cases e) (fun _ => ?_)
    by_cases hz : back = 0
    · rw [if_pos (.inl hz)] at hX
      subst hX
      have hd : decide ((back : Int) = 0) = true := decide_eq_true (by omega)
      refine Z9z ?_
      (repeat (refine st_q rfl rfl rfl ?_))
      rw [hd]
      (repeat (refine Z8w rfl ?_))
      (repeat (refine st_q rfl rfl rfl ?_))
      (refine Z8y ?_; (repeat (first | refine Z9v rfl ?_ | refine Z9w ?_)); refine Z9u ?_)
      refine Z8f rfl (fun _ => ?_) (fun e => by cases e)
      refine Z9z ?_
      (repeat (refine st_q rfl rfl rfl ?_))
      (refine Z8y ?_; (repeat (first | refine Z9v rfl ?_ | refine Z9w ?_)); refine Z9u ?_)
      refine Z8d ?_
      exact ares rfl (hsub1 _) ⟨rfl, rfl⟩
    have hd : decide ((back : Int) = 0) = false := decide_eq_false (by omega)
    refine Z9z ?_
    (repeat (refine st_q rfl rfl rfl ?_))
    rw [hd]
    (repeat (first | refine Z8v rfl (st_q rfl rfl rfl ?_) | refine Z8v rfl (Z92 rfl (hg1 _) rfl rfl ?_)))
    (repeat (refine st_q rfl rfl rfl ?_))
    (refine Z8y ?_; (repeat (first | refine Z9v rfl ?_ | refine Z9w ?_)); refine Z9u ?_)
    refine Za3 (p := (o1.length : Int) < back) rfl (fun h2 => ?_) (fun h2 => ?_)
    · rw [if_pos (.inr (by omega))] at hX
      subst hX
      refine Z9z ?_
      (repeat (refine st_q rfl rfl rfl ?_))
      (refine Z8y ?_; (repeat (first | refine Z9v rfl ?_ | refine Z9w ?_)); refine Z9u ?_)
      refine Z8d ?_
      exact ares rfl (hsub1 _) ⟨rfl, rfl⟩
    rw [if_neg (by omega)] at hX
    refine Z9z ?_
    (repeat (first | refine st_q rfl rfl rfl ?_ | refine Z92 rfl (hg1 _) rfl rfl ?_))
    (refine Z8y ?_; (repeat (first | refine Z9v rfl ?_ | refine Z9w ?_)); refine Z9u ?_)
    have e18 : IntKind.wrap .i64 (((min m 2097152 : Nat) : Int) + 4) = ((min m 2097152 + 4 : Nat) : Int) := by rw [w64 _ (by omega) (by omega)]; omega
    have e19 : IntKind.wrap .i64 ((most : Int) - (o1.length : Int)) = (most : Int) - (o1.length : Int) := w64 _ (by omega) (by omega)
    rw [e18, e19]
    refine Za3 (p := (most : Int) - (o1.length : Int) < ((min m 2097152 + 4 : Nat) : Int)) rfl (fun h3 => ?_) (fun h3 => ?_)
    · rw [if_pos (by omega)] at hX
      subst hX
      refine Z9z ?_
      (repeat (refine st_q rfl rfl rfl ?_))
      (refine Z8y ?_; (repeat (first | refine Z9v rfl ?_ | refine Z9w ?_)); refine Z9u ?_)
      refine Z8d ?_
      exact ares rfl (hsub1 _) ⟨rfl, rfl⟩
    rw [if_neg (by omega)] at hX
    subst hX
    refine Z8b ?_
    rw [show min m 2097152 = m by omega] at e18 ⊢
    refine Za5 ?_
    refine Zad ?_
    (repeat (refine st_q rfl rfl rfl ?_))
    rw [e18]
    (refine Z8y ?_; (repeat (first | refine Z9v rfl ?_ | refine Z9w ?_)); refine Z9u ?_)
    refine Z8h ?_
    refine Zaa (fun k F σ' => ∃ (j c : Nat) (o : List UInt8), F = fset 0 (some (.ptr rb 0 0)) (fset 9 (some (.int .i64 back)) (fset 189 (some (.int .i64 (m + 4 : Nat))) (fset 190 (some (.int .i64 j)) Z27))) ∧
      σ' = (c, .cells 1 (bytes o)) :: (rb, rdr bs f i4 (.arr 1 c 0 o.length)) :: τ ∧ c ≠ rb ∧ o.length = o1.length + j ∧ j ≤ m + 4 ∧ k = m + 4 - j ∧ Zf6 back k o = Zf6 back (m + 4) o1) (n := m + 4)
      ⟨0, b', o1, rfl, rfl, hne, by omega, by omega, by omega, rfl⟩ ?_
    rintro k F σ' ⟨j, c, o, rfl, rfl, hcr, hoj, hjm, rfl, hcp⟩
    have hg2 : ∀ x, Zd ((c, .cells 1 (bytes o)) :: (rb, x) :: τ) rb = some x := fun x => Z90 hcr Z8z
    refine Z9z ?_
    (repeat (refine st_q rfl rfl rfl ?_))
    (refine Z8y ?_; (repeat (first | refine Z9v rfl ?_ | refine Z9w ?_)); refine Z9u ?_)
    refine Za2 (p := (j : Int) < (m + 4 : Nat)) rfl (fun h4 => ?_) (fun h4 => ?_)
    · refine Za4 ?_
      refine Za6 ?_
      have e20 : IntKind.wrap .i64 ((o.length : Int) - (back : Int)) = ((o.length - back : Nat) : Int) := by rw [w64 _ (by omega) (by omega)]; omega
      have hoc : o[o.length - back]? = some (o.getD (o.length - back) 0) := by
        rw [List.getD_eq_getElem?_getD, List.getElem?_eq_getElem (by omega)]; rfl
      generalize hcc : o.getD (o.length - back) 0 = cc at *
      have hoc' : (bytes o)[0 + ((o.length - back : Nat) : Int).toNat]? = some (Zx cc) := by rw [Zao, Nat.zero_add]; simp [hoc]
      refine awp_region ?_
      (repeat (first | refine st_q rfl rfl rfl ?_ | refine Z92 rfl (hg2 _) rfl rfl ?_))
      rw [e20]
      refine Z94 rfl ⟨by omega, by omega⟩ ?_
      refine Z92 rfl Z8z hoc' rfl ?_
      (repeat (refine st_q rfl rfl rfl ?_))
      refine Zat (β := [(c, .cells 1 (bytes o))]) (ys := [cc]) (.inr ⟨c, rfl, rfl⟩) rfl rfl (by simp only [List.length_cons, List.length_nil]; omega) fun c' hc' => ?_
      have hne' : c' ≠ rb := fun e => hc' (by rw [e, Zal]; simp)
      (repeat (refine st_q rfl rfl rfl ?_))
      refine Z9a rfl (Z90 hne' Z8z) rfl (by decide) (Z0.fit_iff.1 rfl) (fun e => by cases e) (Z9c hne' Z9b) ?_
      refine Z8y ?_
      refine Z9y (keep := [0, 9, 189, 190]) ?_
      ((repeat (first | refine Z9v rfl ?_ | refine Z9w ?_)); refine Z9u ?_)
      refine awp_region ?_
      (repeat (refine st_q rfl rfl rfl ?_))
      refine Z8y ?_
      refine Zac (keep := [0, 9, 189, 190]) ?_
      ((repeat (first | refine Z9v rfl ?_ | refine Z9w ?_)); refine Z9u ?_)
      have e21 : IntKind.wrap .i64 ((j : Int) + 1) = ((j + 1 : Nat) : Int) := by rw [w64 _ (by omega) (by omega)]; omega
      rw [e21]
      refine ⟨_, m + 4 - (j + 1), HSub.refl _, ⟨j + 1, c', o ++ [cc], rfl, rfl, hne', by simp; omega, by omega, rfl, ?_⟩, by omega⟩
      rw [← hcp, show m + 4 - j = (m + 4 - (j + 1)) + 1 by omega, Zf6, hcc]
    · refine Z8c ?_
      show AWp _ _ _ _ _ _
      refine Z9z ?_
      (repeat (refine st_q rfl rfl rfl ?_))
      (refine Z8y ?_; (repeat (first | refine Z9v rfl ?_ | refine Z9w ?_)); refine Z9u ?_)
      refine Z8d ?_
      have e22 : m + 4 - j = 0 := by omega
      rw [e22, Zf6] at hcp
      subst hcp
      exact ares rfl (HSub.refl _) ⟨rfl, [(c, .cells 1 (bytes _))], _, i4, .inr ⟨c, rfl, rfl⟩, hi4, hl5, rfl⟩
end Go.Abs
namespace Go.Abs
open Go Go.Proofs Go.Abs.Lz
set_option linter.unusedVariables false
set_option linter.unusedSimpArgs false
theorem Zgj {β τ : Zc} {rb : Nat} {bs : List UInt8} {f : Bool} {i : Nat} {out : Z0} {l xs : List UInt8} {most : Nat} (ho : Grow out xs β) (hi : i ≤ bs.length) (hl : bs.drop i = l) (hb : bs.length ≤ 140737488355328) (hm : most ≤ 1048576) (hxs : xs.length ≤ most)
    {X : SeqR} (hX : seqF most l xs = X) :
    Z1q Try.prog Zd4 [.ptr rb 0 0, .int .i64 most] (β ++ (rb, rdr bs f i out) :: τ) (SeqP τ rb bs f X) := by
  refine Z8t rfl Zf3 (Nat.le_of_ble_eq_true rfl) ?_
  refine Z89 fun nd => ?_
  have hrb : rb ∉ Zh β := Zgf nd
  have hg : ∀ x, Zd (β ++ (rb, x) :: τ) rb = some x := fun x => by rw [Zah hrb]; exact Z8z
  have hs : ∀ x y, Ze (β ++ (rb, x) :: τ) rb y = β ++ (rb, y) :: τ := fun x y => by rw [Zai hrb, Z9b]
  have hsub : ∀ x, HSub τ (β ++ (rb, x) :: τ) := fun x => HSub.of_sublist ((List.sublist_cons_self _ _).trans (List.sublist_append_right _ _))
  have hlen := ho.lens
  refine Z9z ?_
  (repeat (refine st_q rfl rfl rfl ?_))
  (refine Z8y ?_; (repeat (first | refine Z9v rfl ?_ | refine Z9w ?_)); refine Z9u ?_)
  refine Za5 ?_
  refine Zad ?_
  (repeat (first | refine st_q rfl rfl rfl ?_ | refine Z92 rfl (hg _) rfl rfl ?_))
  (refine Z8y ?_; (repeat (first | refine Z9v rfl ?_ | refine Z9w ?_)); refine Z9u ?_)
  unfold seqF at hX
  refine Za3 (p := ((bytes bs).length : Int) ≤ i) rfl (fun h => ?_) (fun h => ?_)
  all_goals rw [Zam] at h
  · refine Z9z ?_
    (repeat (refine st_q rfl rfl rfl ?_))
    (refine Z8y ?_; (repeat (first | refine Z9v rfl ?_ | refine Z9w ?_)); refine Z9u ?_)
    refine Z8d ?_
    have e : l = [] := by rw [← hl]; exact List.drop_eq_nil_of_le (by omega)
    subst e
    simp only at hX
    subst hX
    exact ares rfl (hsub _) ⟨rfl, rfl⟩
  · refine Za4 ?_
    obtain ⟨t, l1, rfl⟩ : ∃ t l1, l = t :: l1 := by
      cases l with
      | nil => exact absurd (Zga hl) (by omega)
      | cons t l1 => exact ⟨t, l1, rfl⟩
    obtain ⟨hi1, hx, hl1⟩ := Zg9 hl
    have hx' : (bytes bs)[(i : Int).toNat]? = some (Zx t) := by rw [Zao]; simp [hx]
    have ht0 : t.toNat < 256 := t.toNat_lt
    refine Z9z ?_
    (repeat (first | refine st_q rfl rfl rfl ?_ | refine Z92 rfl (hg _) rfl rfl ?_))
    refine Z93 rfl (by omega) hx' ?_
    (repeat (refine st_q rfl rfl rfl ?_))
    (refine Z8y ?_; (repeat (first | refine Z9v rfl ?_ | refine Z9w ?_)); refine Z9u ?_)
    refine Z9z ?_
    (repeat (first | refine st_q rfl rfl rfl ?_ | refine Z92 rfl (hg _) rfl rfl ?_))
    refine Z9a rfl (hg _) rfl (by decide) (Z0.fit_iff.1 rfl) (fun e => by cases e) (hs _ _) ?_
    refine Z8y ?_
    ((repeat (first | refine Z9v rfl ?_ | refine Z9w ?_)); refine Z9u ?_)
    have e1 : IntKind.wrap .i64 (t.toNat : Int) = (t.toNat : Int) := w64 _ (by omega) (by omega)
    have e4 : IntKind.wrap .i64 ((i : Int) + 1) = ((i + 1 : Nat) : Int) := by rw [w64 _ (by omega) (by omega)]; omega
    rw [e1, e4]
    refine Z9z ?_
    (repeat (refine st_q rfl rfl rfl ?_))
    have e5 : Int.fdiv (t.toNat : Int) 16 = ((t.toNat / 16 : Nat) : Int) := by rw [Int.fdiv_eq_ediv_of_nonneg _ (by omega)]; omega
    simp only at hX
    have hc := Zgc (hg (rdr bs f (i + 1) out)) (by omega) hl1 (show t.toNat / 16 ≤ 15 by omega) hb
    cases hL : lenN l1 (t.toNat / 16) with
    | none =>
      rw [hL] at hX hc
      simp only at hX
      subst hX
      refine Z9s (congrArg (fun x => some [Z0.ptr rb 0 0, Z0.int .i64 x]) e5) hc ⟨_, _, rfl, 0, rfl⟩ ?_
      rintro _ _ ⟨rfl, i2, rfl⟩
      (repeat (refine st_q rfl rfl rfl ?_))
      (refine Z8y ?_; (repeat (first | refine Z9v rfl ?_ | refine Z9w ?_)); refine Z9u ?_)
      rw [hs]
      refine Za6 ?_
      refine Z9z ?_
      (repeat (refine st_q rfl rfl rfl ?_))
      (refine Z8y ?_; (repeat (first | refine Z9v rfl ?_ | refine Z9w ?_)); refine Z9u ?_)
      refine Z8f rfl (fun _ => ?_) (fun e => by cases e)
      refine Z9z ?_
      (repeat (refine st_q rfl rfl rfl ?_))
      (refine Z8y ?_; (repeat (first | refine Z9v rfl ?_ | refine Z9w ?_)); refine Z9u ?_)
      refine Z8d ?_
      exact ares rfl (hsub _) ⟨rfl, rfl⟩
    | some p =>
      obtain ⟨n, l2⟩ := p
      rw [hL] at hX hc
      simp only at hX
      obtain ⟨k, hk1, hk2⟩ := Zge hL
      refine Z9s (congrArg (fun x => some [Z0.ptr rb 0 0, Z0.int .i64 x]) e5) hc ⟨_, _, rfl, i + 1 + k, ?_, ?_, rfl⟩ ?_
      · have := Zgb hl1 (by omega); omega
      · rw [← hk2, ← hl1, List.drop_drop]
      rintro _ _ ⟨rfl, i2, hi2, hl2, rfl⟩
      (repeat (refine st_q rfl rfl rfl ?_))
      (refine Z8y ?_; (repeat (first | refine Z9v rfl ?_ | refine Z9w ?_)); refine Z9u ?_)
      rw [hs]
      refine Za6 ?_
      refine Z9z ?_
      (repeat (refine st_q rfl rfl rfl ?_))
      (refine Z8y ?_; (repeat (first | refine Z9v rfl ?_ | refine Z9w ?_)); refine Z9u ?_)
      refine Z8f rfl (fun e => by cases e) (fun _ => ?_)
      refine Z9z ?_
      (repeat (first | refine st_q rfl rfl rfl ?_ | refine Z92 rfl (hg _) rfl rfl ?_))
      refine Zas rfl hlen ?_
      (repeat (refine st_q rfl rfl rfl ?_))
      (refine Z8y ?_; (repeat (first | refine Z9v rfl ?_ | refine Z9w ?_)); refine Z9u ?_)
      have e6 : IntKind.wrap .i64 ((most : Int) - (xs.length : Int)) = (most : Int) - (xs.length : Int) := w64 _ (by omega) (by omega)
      rw [e6]
      refine Za3 (p := (most : Int) - (xs.length : Int) < (min n 2097152 : Nat)) rfl (fun h2 => ?_) (fun h2 => ?_)
      · refine Z9z ?_
        (repeat (refine st_q rfl rfl rfl ?_))
        (refine Z8y ?_; (repeat (first | refine Z9v rfl ?_ | refine Z9w ?_)); refine Z9u ?_)
        refine Z8d ?_
        rw [if_pos (by omega)] at hX
        subst hX
        exact ares rfl (hsub _) ⟨rfl, rfl⟩
      rw [if_neg (by omega)] at hX
      rw [show min n 2097152 = n by omega]
      refine Z9z ?_
      (repeat (first | refine st_q rfl rfl rfl ?_ | refine Z92 rfl (hg _) rfl rfl ?_))
      (refine Z8y ?_; (repeat (first | refine Z9v rfl ?_ | refine Z9w ?_)); refine Z9u ?_)
      have e7 : IntKind.wrap .i64 (((bytes bs).length : Int) - (i2 : Int)) = (l2.length : Int) := by
        have := Zgb hl2 hi2
        rw [Zam, w64 _ (by omega) (by omega)]; omega
      rw [e7]
      refine Za3 (p := (l2.length : Int) < n) rfl (fun h3 => ?_) (fun h3 => ?_)
      · refine Z9z ?_
        (repeat (refine st_q rfl rfl rfl ?_))
        (refine Z8y ?_; (repeat (first | refine Z9v rfl ?_ | refine Z9w ?_)); refine Z9u ?_)
        refine Z8d ?_
        rw [if_pos (by omega)] at hX
        subst hX
        exact ares rfl (hsub _) ⟨rfl, rfl⟩
      rw [if_neg (by omega)] at hX
      refine Z8b ?_
      have hln := Zgb hl2 hi2
      refine Z9y (keep := [0, 1, 6, 7]) ?_
      ((repeat (first | refine Z9v rfl ?_ | refine Z9w ?_)); refine Z9u ?_)
      refine Z9z ?_
      (repeat (first | refine st_q rfl rfl rfl ?_ | refine Z92 rfl (hg _) rfl rfl ?_))
      have e8 : IntKind.wrap .i64 ((i2 : Int) + (n : Int)) = ((i2 + n : Nat) : Int) := by rw [w64 _ (by omega) (by omega)]; omega
      rw [e8]
      refine Z99 rfl rfl ⟨by omega, by omega, by rw [Zam]; omega, by omega⟩ ?_
      have e9 : ((bytes bs).drop ((i2 : Int).toNat)).take (((i2 + n : Nat) : Int) - (i2 : Int)).toNat = bytes (l2.take n) := by
        rw [Zap, Zaq, show ((i2 : Int).toNat) = i2 from rfl, hl2, show (((i2 + n : Nat) : Int) - (i2 : Int)).toNat = n by omega]
      rw [e9]
      refine Zat (ys := l2.take n) ho rfl (by simp [Z1m]) (by rw [List.length_take]; omega) fun b' hb' => ?_
      have hne : b' ≠ rb := fun e => hb' (by rw [e, Zal]; simp)
      generalize ho1 : xs ++ l2.take n = o1 at *
      have hol : o1.length = xs.length + n := by rw [← ho1, List.length_append, List.length_take]; omega
      (repeat (refine st_q rfl rfl rfl ?_))
      refine Z9a rfl (Z90 hne Z8z) rfl (by decide) (Z0.fit_iff.1 rfl) (fun e => by cases e) (Z9c hne Z9b) ?_
      refine Z8y ?_
      ((repeat (first | refine Z9v rfl ?_ | refine Z9w ?_)); refine Z9u ?_)
      change AWp _ _ _ _ _ ((b', .cells 1 (bytes o1)) :: (rb, rdr bs f i2 (.arr 1 b' 0 o1.length)) :: τ)
      have hg1 : ∀ x, Zd ((b', .cells 1 (bytes o1)) :: (rb, x) :: τ) rb = some x := fun x => Z90 hne Z8z
      have hs1 : ∀ x y, Ze ((b', .cells 1 (bytes o1)) :: (rb, x) :: τ) rb y = (b', .cells 1 (bytes o1)) :: (rb, y) :: τ := fun x y => Z9c hne Z9b
      have hsub1 : ∀ x, HSub τ ((b', .cells 1 (bytes o1)) :: (rb, x) :: τ) := fun x => HSub.of_sublist ((List.sublist_cons_self _ _).trans (List.sublist_cons_self _ _))
      refine Za5 ?_
      refine Zad ?_
      (repeat (first | refine st_q rfl rfl rfl ?_ | refine Z92 rfl (hg1 _) rfl rfl ?_))
      refine Z9a rfl (hg1 _) rfl (by decide) (Z0.fit_iff.1 rfl) (fun e => by cases e) (hs1 _ _) ?_
      refine Z8y ?_
      ((repeat (first | refine Z9v rfl ?_ | refine Z9w ?_)); refine Z9u ?_)
      rw [e8]
      have hl3 : bs.drop (i2 + n) = l2.drop n := by rw [← hl2, List.drop_drop]
      generalize hi3 : i2 + n = i3 at *
      have hi3' : i3 ≤ bs.length := by omega
      refine Zaf ?_
      refine Zad ?_
      (repeat (first | refine st_q rfl rfl rfl ?_ | refine Z92 rfl (hg1 _) rfl rfl ?_))
      (refine Z8y ?_; (repeat (first | refine Z9v rfl ?_ | refine Z9w ?_)); refine Z9u ?_)
      refine Za3 (p := (i3 : Int) = ((bytes bs).length : Int)) rfl (fun h4 => ?_) (fun h4 => ?_)
      all_goals rw [Zam] at h4
      · refine Z9z ?_
        (repeat (refine st_q rfl rfl rfl ?_))
        (refine Z8y ?_; (repeat (first | refine Z9v rfl ?_ | refine Z9w ?_)); refine Z9u ?_)
        refine Z8d ?_
        have e : l2.drop n = [] := by rw [← hl3]; exact List.drop_eq_nil_of_le (by omega)
        rw [e] at hX
        simp only at hX
        subst hX
        exact ares rfl (HSub.refl _) ⟨rfl, [(b', .cells 1 (bytes o1))], _, i3, .inr ⟨b', rfl, rfl⟩, rfl⟩
      refine Za4 ?_
      refine Za5 ?_
      refine Zad ?_
      (repeat (first | refine st_q rfl rfl rfl ?_ | refine Z92 rfl (hg1 _) rfl rfl ?_))
      (refine Z8y ?_; (repeat (first | refine Z9v rfl ?_ | refine Z9w ?_)); refine Z9u ?_)
      have e10 : IntKind.wrap .i64 (((bytes bs).length : Int) - (i3 : Int)) = ((l2.drop n).length : Int) := by
        have := Zgb hl3 hi3'
        rw [Zam, w64 _ (by omega) (by omega)]; omega
      rw [e10]
      refine Za3 (p := ((l2.drop n).length : Int) < 2) rfl (fun h5 => ?_) (fun h5 => ?_)
      · refine Z9z ?_
        (repeat (refine st_q rfl rfl rfl ?_))
        (refine Z8y ?_; (repeat (first | refine Z9v rfl ?_ | refine Z9w ?_)); refine Z9u ?_)
        refine Z8d ?_
        have : ∃ x, l2.drop n = [x] := by
          have := Zgb hl3 hi3'
          cases hd : l2.drop n with
          | nil => rw [hd] at this; simp only [List.length_nil] at this; omega
          | cons x r => cases r with
            | nil => exact ⟨x, rfl⟩
            | cons y r => rw [hd] at h5; simp only [List.length_cons] at h5; omega
        obtain ⟨x, hx⟩ := this
        rw [hx] at hX
        simp only at hX
        subst hX
        exact ares rfl (hsub1 _) ⟨rfl, rfl⟩
      refine Za4 ?_
      obtain ⟨a, b, l4, hab⟩ : ∃ a b l4, l2.drop n = a :: b :: l4 := by
        cases hd : l2.drop n with
        | nil => rw [hd] at h5; simp only [List.length_nil] at h5; omega
        | cons x r => cases r with
          | nil => rw [hd] at h5; simp only [List.length_cons, List.length_nil] at h5; omega
          | cons y r => exact ⟨x, y, r, rfl⟩
      rw [hab] at hX hl3
      simp only at hX
      obtain ⟨hj1, hxa, hl4⟩ := Zg9 hl3
      obtain ⟨hj2, hxb, hl5⟩ := Zg9 hl4
      have hxa' : (bytes bs)[(i3 : Int).toNat]? = some (Zx a) := by rw [Zao]; simp [hxa]
      have hxb' : (bytes bs)[((i3 + 1 : Nat) : Int).toNat]? = some (Zx b) := by rw [Zao]; simp [hxb]
      refine Z9y (keep := [0, 1, 6]) ?_
      ((repeat (first | refine Z9v rfl ?_ | refine Z9w ?_)); refine Z9u ?_)
      exact Zgi hb hm hne (by omega) (by omega) hxa hxb (by simpa [List.drop_drop, Nat.add_assoc] using hl5) hX
end Go.Abs
namespace Go.Abs
open Go Go.Proofs Go.Abs.Lz
set_option linter.unusedVariables false
set_option linter.unusedSimpArgs false
theorem Zgk {most : Nat} {l out r o : List UInt8} (h : seqF most l out = .go r o) : ∃ k, k ≤ l.length ∧ l.drop k = r := by
  unfold seqF at h
  split at h
  · cases h
  · rename_i t l1
    split at h
    · cases h
    · rename_i n l2 e2
      obtain ⟨k2, hk2, rfl⟩ := Zge e2
      split at h
      · cases h
      · split at h
        · cases h
        · split at h
          · cases h
          · cases h
          · rename_i a b l4 e4
            split at h
            · cases h
            · rename_i m l5 e5
              obtain ⟨k5, hk5, rfl⟩ := Zge e5
              split at h
              · cases h
              · split at h
                · cases h
                · cases h
                  rw [List.drop_drop] at e4
                  have h1 := congrArg List.length e4
                  simp only [List.length_drop, List.length_cons] at h1
                  have h2 := congrArg (List.drop (2 + k5)) e4
                  rw [List.drop_drop] at h2
                  have h3 : (a :: b :: l4).drop (2 + k5) = l4.drop k5 := by rw [← List.drop_drop]; rfl
                  rw [h3] at h2
                  refine ⟨k2 + n + (2 + k5) + 1, by simp only [List.length_cons]; omega, ?_⟩
                  rw [List.drop_succ_cons, h2]
theorem Zgl {most e : Nat} {l out : List UInt8} (h : seqF most l out = .err e) : e ≠ 0 := by
  unfold seqF at h
  split at h
  · cases h; decide
  · split at h
    · cases h; decide
    · split at h
      · cases h; decide
      · split at h
        · cases h; decide
        · split at h
          · cases h
          · cases h; decide
          · split at h
            · cases h; decide
            · split at h
              · cases h; decide
              · split at h <;> cases h
                decide
theorem Grow.ex (xs : List UInt8) : ∃ v β, Grow v xs β := ⟨.arr 1 0 0 xs.length, _, .inr ⟨0, rfl, rfl⟩⟩
theorem Grow.clip {v : Z0} {xs : List UInt8} {β τ : Zc} (ho : Grow v xs β) : Z1q Try.prog Zcx [v] (β ++ τ) fun r σ' => r = .slc 1 (bytes xs) true ∧ σ' = τ := by
  refine Z8t rfl Zf4 (Nat.le_of_ble_eq_true rfl) ?_
  refine Z9z ?_
  (repeat (refine st_q rfl rfl rfl ?_))
  (refine Z8y ?_; (repeat (first | refine Z9v rfl ?_ | refine Z9w ?_)); refine Z9u ?_)
  refine Z9z ?_
  refine st_q rfl rfl rfl ?_
  refine st_q rfl rfl rfl ?_
  refine Zas rfl ho.lens ?_
  refine st_q rfl rfl rfl ?_
  refine Zas rfl ho.lens ?_
  rcases ho with ⟨⟨z, rfl⟩, rfl, rfl⟩ | ⟨b, rfl, rfl⟩
  · refine Z8u rfl (?_ : Z25 _ (.clip 1) _ _ _)
    refine ⟨.slc z [] true, by simp [asub, bnds], ?_⟩
    show aops _ _ (fset 8 _ _) _ _
    (repeat (refine st_q rfl rfl rfl ?_))
    (refine Z8y ?_; (repeat (first | refine Z9v rfl ?_ | refine Z9w ?_)); refine Z9u ?_)
    refine Z8d ?_
    exact Zau rfl (VRle.nil_slc z 1 true) (HSub.refl _) ⟨rfl, rfl⟩
  · refine Z9q rfl Z8z (by rw [Zam]; omega) (by omega) (by omega) Z9h ?_
    have e : ((bytes xs).drop 0).take ((xs.length : Int).toNat) = bytes xs := by
      rw [List.drop_zero]; exact List.take_of_length_le (by rw [Zam]; exact Nat.le_refl _)
    rw [e]
    (repeat (refine st_q rfl rfl rfl ?_))
    (refine Z8y ?_; (repeat (first | refine Z9v rfl ?_ | refine Z9w ?_)); refine Z9u ?_)
    refine Z8d ?_
    exact ares rfl (HSub.refl _) ⟨rfl, rfl⟩
theorem Zgm (σ : Zc) {bs : List UInt8} {f : Bool} {most : Int} (hb : bs.length ≤ 140737488355328) :
    Z1q Try.prog Zd0 [.slc 1 (bytes bs) f, .int .i64 most] σ fun r σ' => r = .tup [.slc 1 (bytes (Zfd most bs).2) true, .int .i64 (Zfd most bs).1] ∧ σ' = σ := by
  refine Z8t rfl Zf2 (Nat.le_of_ble_eq_true rfl) ?_
  refine Z9z ?_
  (repeat (refine st_q rfl rfl rfl ?_))
  (refine Z8y ?_; (repeat (first | refine Z9v rfl ?_ | refine Z9w ?_)); refine Z9u ?_)
  refine Za5 ?_
  refine Zad ?_
  (repeat (refine st_q rfl rfl rfl ?_))
  have hnil : ∀ e : Nat, VRle [.tup [.slc 0 [] true, .int .i64 e]] [.tup [.slc 1 (bytes []) true, .int .i64 e]] := fun e => VRle.tup (VRle.cons (VRle.nil_slc 0 1 true) (VRle.refl _))
  by_cases h1 : most < 0 ∨ 1048576 < most
  · have hu : Zfd most bs = (1, []) := by rw [Zfd, if_pos h1]
    have hcode : ∀ F, AWp Try.prog Zdo.n (.seq (.region Zdg [4, 5]) .ret) (Z8e Try.prog Zdo.n (Zdo.code.snd 2) (ARet Zdo.res fun r σ' => r = .tup [.slc 1 (bytes (Zfd most bs).2) true, .int .i64 (Zfd most bs).1] ∧ σ' = σ)) F σ := fun F => by
      refine Z9z ?_
      (repeat (refine st_q rfl rfl rfl ?_))
      (refine Z8y ?_; (repeat (first | refine Z9v rfl ?_ | refine Z9w ?_)); refine Z9u ?_)
      refine Z8d ?_
      rw [hu]
      exact Zau rfl (hnil 1) (HSub.refl _) ⟨rfl, rfl⟩
    by_cases h2 : most < 0
    · have hd : decide (most < 0) = true := decide_eq_true h2
      rw [hd]
      (repeat (refine Z8w rfl ?_))
      (repeat (refine st_q rfl rfl rfl ?_))
      (refine Z8y ?_; (repeat (first | refine Z9v rfl ?_ | refine Z9w ?_)); refine Z9u ?_)
      exact Z8f rfl (fun _ => hcode _) (fun e => by cases e)
    · have hd : decide (most < 0) = false := decide_eq_false h2
      rw [hd]
      (repeat (refine Z8v rfl (st_q rfl rfl rfl ?_)))
      (repeat (refine st_q rfl rfl rfl ?_))
      (refine Z8y ?_; (repeat (first | refine Z9v rfl ?_ | refine Z9w ?_)); refine Z9u ?_)
      exact Za3 (p := 1048576 < most) rfl (fun _ => hcode _) (fun e => absurd h1 (by omega))
  have hd : decide (most < 0) = false := decide_eq_false (by omega)
  rw [hd]
  (repeat (refine Z8v rfl (st_q rfl rfl rfl ?_)))
  (repeat (refine st_q rfl rfl rfl ?_))
  (refine Z8y ?_; (repeat (first | refine Z9v rfl ?_ | refine Z9w ?_)); refine Z9u ?_)
  refine Za3 (p := 1048576 < most) rfl (fun _ => by omega) (fun _ => ?_)
  refine Za4 ?_
  obtain ⟨m, rfl⟩ : ∃ m : Nat, most = m := ⟨most.toNat, by omega⟩
  have hu : Zfd m bs = unpF m bs [] := by rw [Zfd, if_neg h1]; rfl
  rw [hu]
  refine Z9z ?_
  (repeat (refine st_q rfl rfl rfl ?_))
  refine Z9j rfl (Z0.fit_iff.1 rfl) fun b hbk => ?_
  (repeat (refine st_q rfl rfl rfl ?_))
  (refine Z8y ?_; (repeat (first | refine Z9v rfl ?_ | refine Z9w ?_)); refine Z9u ?_)
  refine Z8h ?_
  refine Zaa (fun k F σ' => ∃ (i : Nat) (β : Zc) (v : Z0) (o : List UInt8), F = fset 1 (some (.int .i64 m)) (fset 6 (some (.ptr b 0 0)) Z27) ∧ σ' = β ++ (b, rdr bs f i v) :: σ ∧ Grow v o β ∧ i ≤ bs.length ∧ o.length ≤ m ∧ k = (bs.drop i).length ∧ unpF m (bs.drop i) o = unpF m bs []) (n := bs.length)
    ⟨0, [], .slc 0 [] true, [], rfl, rfl, Grow.nil 0, by omega, by simp, by simp, by simp⟩ ?_
  rintro k F σ' ⟨i, β, v, o, rfl, rfl, ho, hi, hom, rfl, hU⟩
  refine Z8h ?_
  refine Z9z ?_
  (repeat (refine st_q rfl rfl rfl ?_))
  have hc := Zgj (τ := σ) (rb := b) ho hi rfl hb (by omega) hom (X := seqF m (bs.drop i) o) rfl (f := f)
  cases hX : seqF m (bs.drop i) o with
  | err e =>
    rw [hX] at hc
    rw [Zfa hX] at hU
    refine Z9s rfl hc ⟨_, _, rfl, rfl⟩ ?_
    rintro _ _ ⟨rfl, rfl⟩
    (repeat (refine st_q rfl rfl rfl ?_))
    (refine Z8y ?_; (repeat (first | refine Z9v rfl ?_ | refine Z9w ?_)); refine Z9u ?_)
    have he : decide ((e : Int) ≠ 0) = true := decide_eq_true (by have := Zgl hX; omega)
    refine Z8h ?_
    refine Z9z ?_
    (repeat (refine st_q rfl rfl rfl ?_))
    (refine Z8y ?_; (repeat (first | refine Z9v rfl ?_ | refine Z9w ?_)); refine Z9u ?_)
    refine Z8f (congrArg (fun x => some (Z0.bool x)) he) (fun _ => ?_) (fun e => by cases e)
    refine Z9z ?_
    (repeat (refine st_q rfl rfl rfl ?_))
    (refine Z8y ?_; (repeat (first | refine Z9v rfl ?_ | refine Z9w ?_)); refine Z9u ?_)
    refine Z8d ?_
    rw [← hU]
    exact Zau rfl (hnil e) (HSub.refl _) ⟨rfl, rfl⟩
  | last o' =>
    rw [hX] at hc
    rw [Zfb hX] at hU
    obtain ⟨gv, gβ, hgr⟩ := Grow.ex o'
    refine Z9s rfl hc ⟨_, _, rfl, gβ, gv, 0, hgr, rfl⟩ ?_
    rintro _ _ ⟨rfl, β', v', i', ho', rfl⟩
    (repeat (refine st_q rfl rfl rfl ?_))
    (refine Z8y ?_; (repeat (first | refine Z9v rfl ?_ | refine Z9w ?_)); refine Z9u ?_)
    refine Z8h ?_
    refine Z9z ?_
    (repeat (refine st_q rfl rfl rfl ?_))
    (refine Z8y ?_; (repeat (first | refine Z9v rfl ?_ | refine Z9w ?_)); refine Z9u ?_)
    refine Z8f rfl (fun e => by cases e) (fun _ => ?_)
    refine Z9z ?_
    (repeat (refine st_q rfl rfl rfl ?_))
    (refine Z8y ?_; (repeat (first | refine Z9v rfl ?_ | refine Z9w ?_)); refine Z9u ?_)
    refine Z8f rfl (fun _ => ?_) (fun e => by cases e)
    refine Z89 fun nd => ?_
    have hrb : b ∉ Zh β' := Zgf nd
    have hg : ∀ x, Zd (β' ++ (b, x) :: σ) b = some x := fun x => by rw [Zah hrb]; exact Z8z
    refine Z9z ?_
    (repeat (first | refine st_q rfl rfl rfl ?_ | refine Z92 rfl (hg _) rfl rfl ?_))
    refine Z9s rfl (ho'.clip) ⟨_, _, rfl, rfl⟩ ?_
    rintro _ _ ⟨rfl, rfl⟩
    (repeat (refine st_q rfl rfl rfl ?_))
    (refine Z8y ?_; (repeat (first | refine Z9v rfl ?_ | refine Z9w ?_)); refine Z9u ?_)
    refine Z8d ?_
    rw [← hU]
    exact ares rfl (HSub.tail _ _) ⟨rfl, rfl⟩
  | go l' o' =>
    rw [hX] at hc
    rw [Zfc hX] at hU
    obtain ⟨gv, gβ, hgr⟩ := Grow.ex o'
    obtain ⟨k, hk1, hk2⟩ := Zgk hX
    refine Z9s rfl hc ⟨_, _, rfl, gβ, gv, i + k, hgr, ?_, ?_, rfl⟩ ?_
    · simp only [List.length_drop] at hk1; omega
    · rw [← hk2, List.drop_drop]
    rintro _ _ ⟨rfl, β', v', i', ho', hi', hl', rfl⟩
    (repeat (refine st_q rfl rfl rfl ?_))
    (refine Z8y ?_; (repeat (first | refine Z9v rfl ?_ | refine Z9w ?_)); refine Z9u ?_)
    refine Z8h ?_
    refine Z9z ?_
    (repeat (refine st_q rfl rfl rfl ?_))
    (refine Z8y ?_; (repeat (first | refine Z9v rfl ?_ | refine Z9w ?_)); refine Z9u ?_)
    refine Z8f rfl (fun e => by cases e) (fun _ => ?_)
    refine Z9z ?_
    (repeat (refine st_q rfl rfl rfl ?_))
    (refine Z8y ?_; (repeat (first | refine Z9v rfl ?_ | refine Z9w ?_)); refine Z9u ?_)
    refine Z8f rfl (fun e => by cases e) (fun _ => ?_)
    refine Z8b ?_
    refine Zac (keep := [1, 6]) ?_
    ((repeat (first | refine Z9v rfl ?_ | refine Z9w ?_)); refine Z9u ?_)
    have hsh := Zf9 hX
    exact ⟨_, l'.length, HSub.refl _, ⟨i', β', v', o', rfl, rfl, ho', hi', Zfg hX, by rw [hl'], by rw [hl']; exact hU⟩, hsh⟩
end Go.Abs

