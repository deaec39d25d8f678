/- Part H of a proof: merged by program. -/
import Derived.Test.YtgdpmebdoipiaaaPkG
import Derived.Test.YtgdpmebdoipiaaaProg
import Derived.KernelRfl
namespace Go.Abs
open Go
def Zt0 : List Z2a := [
  ⟨some 10, .mov, [.c (.bool false)], none⟩]
def Zt1 : List Z2a := [
  ⟨some 25, (.call Zck), [], none⟩,
  ⟨some 26, .unot, [.t 25], none⟩]
def Zt2 : List Z2a := [
  ⟨some 10, .mov, [.c (.bool false)], none⟩]
def Zt3 : List Z2a := [
  ⟨some 27, .mov, [.t 0], none⟩,
  ⟨some 28, .lens, [.t 27], none⟩,
  ⟨some 29, (.bin .gtr), [.t 28, .c (.int .i64 3000)], none⟩,
  ⟨some 30, .mov, [.t 29], none⟩,
  ⟨some 31, .mov, [.t 2], some (30, false)⟩,
  ⟨some 32, (.bin .gtr), [.t 31, .c (.int .i64 4000)], some (30, false)⟩,
  ⟨some 33, .mov, [.t 32], some (30, false)⟩,
  ⟨some 34, .mov, [.t 2], some (33, true)⟩,
  ⟨some 35, (.bin .leq), [.t 34, .c (.int .i64 65536)], some (33, true)⟩,
  ⟨some 36, .pick, [.t 33, .t 35, .c (.bool false)], some (30, false)⟩,
  ⟨some 37, .pick, [.t 30, .c (.bool true), .t 36], none⟩,
  ⟨some 38, .mov, [.t 37], none⟩,
  ⟨some 39, .mov, [.t 3], some (38, false)⟩,
  ⟨some 40, (.bin .gtr), [.t 39, .c (.int .i64 20000)], some (38, false)⟩,
  ⟨some 41, .mov, [.t 40], some (38, false)⟩,
  ⟨some 42, .mov, [.t 3], some (41, true)⟩,
  ⟨some 43, (.bin .leq), [.t 42, .c (.int .i64 262144)], some (41, true)⟩,
  ⟨some 44, .pick, [.t 41, .t 43, .c (.bool false)], some (38, false)⟩,
  ⟨some 45, .pick, [.t 38, .c (.bool true), .t 44], none⟩]
def Zt4 : List Z2a := [
  ⟨some 10, .mov, [.c (.bool true)], none⟩]
def Zt5 : List Z2a := [
  ⟨some 47, .mov, [.t 0], none⟩,
  ⟨some 48, .mov, [.t 1], none⟩,
  ⟨some 49, .mov, [.t 2], none⟩,
  ⟨some 50, .mov, [.t 3], none⟩,
  ⟨some 51, (.call Zcl), [.t 47, .t 48, .t 49, .t 50], none⟩,
  ⟨some 46, .mov, [.t 51], none⟩,
  ⟨some 52, (.ext 0), [.t 46], none⟩,
  ⟨some 53, (.ext 1), [.t 46], none⟩,
  ⟨some 11, .mov, [.t 52], none⟩,
  ⟨some 12, .mov, [.t 53], none⟩]
def Zt6 : List Z2a := [
  ⟨some 55, .mov, [.t 0], none⟩,
  ⟨some 56, .mov, [.t 1], none⟩,
  ⟨some 57, .mov, [.t 2], none⟩,
  ⟨some 58, .mov, [.t 3], none⟩,
  ⟨some 59, (.call Zcm), [.t 55, .t 56, .t 57, .t 58], none⟩,
  ⟨some 54, .mov, [.t 59], none⟩,
  ⟨some 60, (.ext 0), [.t 54], none⟩,
  ⟨some 61, (.ext 1), [.t 54], none⟩,
  ⟨some 13, .mov, [.t 60], none⟩,
  ⟨some 14, .mov, [.t 61], none⟩]
def Zt7 : List Z2a := [
  ⟨some 63, .mov, [.t 0], none⟩,
  ⟨some 64, .mov, [.t 1], none⟩,
  ⟨some 65, (.call Zcn), [.t 63, .t 64], none⟩,
  ⟨some 62, .mov, [.t 65], none⟩,
  ⟨some 66, (.ext 0), [.t 62], none⟩,
  ⟨some 67, (.ext 1), [.t 62], none⟩,
  ⟨some 15, .mov, [.t 66], none⟩,
  ⟨some 16, .mov, [.t 67], none⟩]
def Zt8 : List Z2a := [
  ⟨some 69, .mov, [.t 0], none⟩,
  ⟨some 70, .mov, [.t 1], none⟩,
  ⟨some 71, (.call Zco), [.t 69, .t 70], none⟩,
  ⟨some 68, .mov, [.t 71], none⟩,
  ⟨some 72, (.ext 0), [.t 68], none⟩,
  ⟨some 73, (.ext 1), [.t 68], none⟩,
  ⟨some 17, .mov, [.t 72], none⟩,
  ⟨some 18, .mov, [.t 73], none⟩]
def Zt9 : List Z2a := [
  ⟨some 75, .mov, [.t 0], none⟩,
  ⟨some 76, .mov, [.t 4], none⟩,
  ⟨some 77, (.call Zcp), [.t 75, .t 76], none⟩,
  ⟨some 74, .mov, [.t 77], none⟩,
  ⟨some 78, (.ext 0), [.t 74], none⟩,
  ⟨some 79, (.ext 1), [.t 74], none⟩,
  ⟨some 80, (.ext 2), [.t 74], none⟩,
  ⟨some 19, .mov, [.t 78], none⟩,
  ⟨some 20, .mov, [.t 79], none⟩,
  ⟨some 21, .mov, [.t 80], none⟩]
def Zta : List Z2a := [
  ⟨some 82, .mov, [.t 0], none⟩,
  ⟨some 83, .mov, [.t 4], none⟩,
  ⟨some 84, (.call Zcq), [.t 82, .t 83], none⟩,
  ⟨some 81, .mov, [.t 84], none⟩,
  ⟨some 85, (.ext 0), [.t 81], none⟩,
  ⟨some 86, (.ext 1), [.t 81], none⟩,
  ⟨some 87, (.ext 2), [.t 81], none⟩,
  ⟨some 22, .mov, [.t 85], none⟩,
  ⟨some 23, .mov, [.t 86], none⟩,
  ⟨some 24, .mov, [.t 87], none⟩]
def Ztb : List Z2a := [
  ⟨some 88, .mov, [.t 11], none⟩,
  ⟨some 89, .b2s, [.t 88], none⟩,
  ⟨some 90, .mov, [.t 13], none⟩,
  ⟨some 91, .b2s, [.t 90], none⟩,
  ⟨some 92, (.bin .eql), [.t 89, .t 91], none⟩,
  ⟨some 93, .mov, [.t 92], none⟩,
  ⟨some 94, .mov, [.t 12], some (93, true)⟩,
  ⟨some 95, .mov, [.t 14], some (93, true)⟩,
  ⟨some 96, (.bin .eql), [.t 94, .t 95], some (93, true)⟩,
  ⟨some 97, .pick, [.t 93, .t 96, .c (.bool false)], none⟩,
  ⟨some 98, .mov, [.t 97], none⟩,
  ⟨some 99, .mov, [.t 15], some (98, true)⟩,
  ⟨some 100, .mov, [.t 17], some (98, true)⟩,
  ⟨some 101, (.bin .eql), [.t 99, .t 100], some (98, true)⟩,
  ⟨some 102, .pick, [.t 98, .t 101, .c (.bool false)], none⟩,
  ⟨some 103, .mov, [.t 102], none⟩,
  ⟨some 104, .mov, [.t 16], some (103, true)⟩,
  ⟨some 105, .mov, [.t 18], some (103, true)⟩,
  ⟨some 106, (.bin .eql), [.t 104, .t 105], some (103, true)⟩,
  ⟨some 107, .pick, [.t 103, .t 106, .c (.bool false)], none⟩,
  ⟨some 108, .mov, [.t 107], none⟩,
  ⟨some 109, .mov, [.t 19], some (108, true)⟩,
  ⟨some 110, .mov, [.t 22], some (108, true)⟩,
  ⟨some 111, (.bin .eql), [.t 109, .t 110], some (108, true)⟩,
  ⟨some 112, .pick, [.t 108, .t 111, .c (.bool false)], none⟩,
  ⟨some 113, .mov, [.t 112], none⟩,
  ⟨some 114, .mov, [.t 20], some (113, true)⟩,
  ⟨some 115, .mov, [.t 23], some (113, true)⟩,
  ⟨some 116, (.binb .eql), [.t 114, .t 115], some (113, true)⟩,
  ⟨some 117, .pick, [.t 113, .t 116, .c (.bool false)], none⟩,
  ⟨some 118, .mov, [.t 117], none⟩,
  ⟨some 119, .mov, [.t 21], some (118, true)⟩,
  ⟨some 120, .mov, [.t 24], some (118, true)⟩,
  ⟨some 121, (.bin .eql), [.t 119, .t 120], some (118, true)⟩,
  ⟨some 122, .pick, [.t 118, .t 121, .c (.bool false)], none⟩,
  ⟨some 10, .mov, [.t 122], none⟩]
def Ztc : Z2y := ⟨123, (.seq (.region Zt0 [0, 1, 2, 3, 4]) (.seq (.seq (.region Zt1 [0, 1, 2, 3, 4, 26]) (.cond (.t 26) (.seq (.region Zt2 [10]) .ret) .skip)) (.seq (.seq (.region Zt3 [0, 1, 2, 3, 4, 45]) (.cond (.t 45) (.seq (.region Zt4 [10]) .ret) .skip)) (.seq (.region Zt5 [0, 1, 2, 3, 4, 11, 12]) (.seq (.region Zt6 [0, 1, 4, 11, 12, 13, 14]) (.seq (.region Zt7 [0, 1, 4, 11, 12, 13, 14, 15, 16]) (.seq (.region Zt8 [0, 4, 11, 12, 13, 14, 15, 16, 17, 18]) (.seq (.region Zt9 [0, 4, 11, 12, 13, 14, 15, 16, 17, 18, 19, 20, 21]) (.seq (.region Zta [11, 12, 13, 14, 15, 16, 17, 18, 19, 20, 21, 22, 23, 24]) (.seq (.region Ztb [10]) .ret)))))))))), [.t 10]⟩
def Ztd : List Z2a := [
  ⟨some 8, .mov, [.c (.bool false)], none⟩]
def Zte : List Z2a := [
  ⟨some 14, (.call Zck), [], none⟩,
  ⟨some 15, .unot, [.t 14], none⟩]
def Ztf : List Z2a := [
  ⟨some 8, .mov, [.c (.bool false)], none⟩]
def Ztg : List Z2a := [
  ⟨some 16, .mov, [.t 2], none⟩,
  ⟨some 17, .lens, [.t 16], none⟩,
  ⟨some 18, (.bin .gtr), [.t 17, .c (.int .i64 3000)], none⟩,
  ⟨some 19, .mov, [.t 18], none⟩,
  ⟨some 20, .mov, [.t 3], some (19, false)⟩,
  ⟨some 21, .lens, [.t 20], some (19, false)⟩,
  ⟨some 22, (.bin .gtr), [.t 21, .c (.int .i64 3000)], some (19, false)⟩,
  ⟨some 23, .pick, [.t 19, .c (.bool true), .t 22], none⟩]
def Zth : List Z2a := [
  ⟨some 8, .mov, [.c (.bool true)], none⟩]
def Zti : List Z2a := [
  ⟨some 24, .mov, [.t 0], none⟩,
  ⟨some 25, .mov, [.t 1], none⟩,
  ⟨some 26, (.call Zct), [.t 24, .t 25], none⟩,
  ⟨some 9, .mov, [.t 26], none⟩]
def Ztj : List Z2a := [
  ⟨some 27, (.bsl 1), [], none⟩,
  ⟨some 28, .mov, [.t 2], none⟩,
  ⟨some 29, (.app 1 1), [.t 27, .t 28], none⟩,
  ⟨some 30, .mov, [.t 9], none⟩,
  ⟨some 31, (.app 1 1), [.t 29, .t 30], none⟩,
  ⟨some 32, .mov, [.t 3], none⟩,
  ⟨some 33, (.app 1 1), [.t 31, .t 32], none⟩,
  ⟨some 10, .mov, [.t 33], none⟩]
def Ztk : List Z2a := [
  ⟨some 35, .mov, [.t 10], none⟩,
  ⟨some 36, .mov, [.t 2], none⟩,
  ⟨some 37, .lens, [.t 36], none⟩,
  ⟨some 38, (.call Zcp), [.t 35, .t 37], none⟩,
  ⟨some 34, .mov, [.t 38], none⟩,
  ⟨some 39, (.ext 0), [.t 34], none⟩,
  ⟨some 40, (.ext 1), [.t 34], none⟩,
  ⟨some 41, (.ext 2), [.t 34], none⟩,
  ⟨some 11, .mov, [.t 39], none⟩,
  ⟨some 12, .mov, [.t 40], none⟩,
  ⟨some 13, .mov, [.t 41], none⟩]
def Ztl : List Z2a := [
  ⟨some 42, .mov, [.t 9], none⟩,
  ⟨some 43, .b2s, [.t 42], none⟩,
  ⟨some 44, .mov, [.t 0], none⟩,
  ⟨some 45, .mov, [.t 1], none⟩,
  ⟨some 46, (.callp Zcu), [.t 44, .t 45], none⟩,
  ⟨some 47, .b2s, [.t 46], none⟩,
  ⟨some 48, (.bin .eql), [.t 43, .t 47], none⟩,
  ⟨some 49, .mov, [.t 48], none⟩,
  ⟨some 50, .mov, [.t 13], some (49, true)⟩,
  ⟨some 51, (.bin .eql), [.t 50, .c (.int .i64 0)], some (49, true)⟩,
  ⟨some 52, .pick, [.t 49, .t 51, .c (.bool false)], none⟩,
  ⟨some 53, .mov, [.t 52], none⟩,
  ⟨some 54, .mov, [.t 11], some (53, true)⟩,
  ⟨some 55, .mov, [.t 0], some (53, true)⟩,
  ⟨some 56, (.bin .and), [.t 55, .c (.int .i64 8388607)], some (53, true)⟩,
  ⟨some 57, (.bin .eql), [.t 54, .t 56], some (53, true)⟩,
  ⟨some 58, .pick, [.t 53, .t 57, .c (.bool false)], none⟩,
  ⟨some 59, .mov, [.t 58], none⟩,
  ⟨some 60, .mov, [.t 12], some (59, true)⟩,
  ⟨some 61, .mov, [.t 1], some (59, true)⟩,
  ⟨some 62, (.binb .eql), [.t 60, .t 61], some (59, true)⟩,
  ⟨some 63, .pick, [.t 59, .t 62, .c (.bool false)], none⟩,
  ⟨some 8, .mov, [.t 63], none⟩]
def Ztm : Z2y := ⟨64, (.seq (.region Ztd [0, 1, 2, 3]) (.seq (.seq (.region Zte [0, 1, 2, 3, 15]) (.cond (.t 15) (.seq (.region Ztf [8]) .ret) .skip)) (.seq (.seq (.region Ztg [0, 1, 2, 3, 23]) (.cond (.t 23) (.seq (.region Zth [8]) .ret) .skip)) (.seq (.region Zti [0, 1, 2, 3, 9]) (.seq (.region Ztj [0, 1, 2, 9, 10]) (.seq (.region Ztk [0, 1, 9, 11, 12, 13]) (.seq (.region Ztl [8]) .ret))))))), [.t 8]⟩
def Ztn : List Z2a := [
  ⟨some 6, .mov, [.c (.bool false)], none⟩]
def Zto : List Z2a := [
  ⟨some 17, (.call Zck), [], none⟩,
  ⟨some 18, .unot, [.t 17], none⟩]
def Ztp : List Z2a := [
  ⟨some 6, .mov, [.c (.bool false)], none⟩]
def Ztq : List Z2a := [
  ⟨some 19, .mov, [.t 0], none⟩,
  ⟨some 20, .lens, [.t 19], none⟩,
  ⟨some 21, (.bin .gtr), [.t 20, .c (.int .i64 3000)], none⟩,
  ⟨some 22, .mov, [.t 21], none⟩,
  ⟨some 23, .mov, [.t 2], some (22, false)⟩,
  ⟨some 24, (.bin .lss), [.t 23, .c (.int .i64 1)], some (22, false)⟩,
  ⟨some 25, .pick, [.t 22, .c (.bool true), .t 24], none⟩,
  ⟨some 26, .mov, [.t 25], none⟩,
  ⟨some 27, .mov, [.t 2], some (26, false)⟩,
  ⟨some 28, (.bin .gtr), [.t 27, .c (.int .i64 65536)], some (26, false)⟩,
  ⟨some 29, .pick, [.t 26, .c (.bool true), .t 28], none⟩]
def Ztr : List Z2a := [
  ⟨some 6, .mov, [.c (.bool true)], none⟩]
def Zts : List Z2a := [
  ⟨some 31, .mov, [.t 0], none⟩,
  ⟨some 32, .mov, [.t 2], none⟩,
  ⟨some 33, (.call Zcr), [.t 31, .c (.int .i64 0), .t 32], none⟩,
  ⟨some 30, .mov, [.t 33], none⟩,
  ⟨some 34, (.ext 0), [.t 30], none⟩,
  ⟨some 35, (.ext 1), [.t 30], none⟩,
  ⟨some 7, .mov, [.t 34], none⟩,
  ⟨some 8, .mov, [.t 35], none⟩]
def Ztt : List Z2a := [
  ⟨some 37, .mov, [.t 0], none⟩,
  ⟨some 38, .mov, [.t 2], none⟩,
  ⟨some 39, .mov, [.t 0], none⟩,
  ⟨some 40, .lens, [.t 39], none⟩,
  ⟨some 41, (.call Zcl), [.t 37, .c (.int .i64 0), .t 38, .t 40], none⟩,
  ⟨some 36, .mov, [.t 41], none⟩,
  ⟨some 42, (.ext 0), [.t 36], none⟩,
  ⟨some 43, (.ext 1), [.t 36], none⟩,
  ⟨some 9, .mov, [.t 42], none⟩,
  ⟨some 10, .mov, [.t 43], none⟩]
def Ztu : List Z2a := [
  ⟨some 45, .mov, [.t 0], none⟩,
  ⟨some 46, .mov, [.t 1], none⟩,
  ⟨some 47, .mov, [.t 2], none⟩,
  ⟨some 48, (.call Zcr), [.t 45, .t 46, .t 47], none⟩,
  ⟨some 44, .mov, [.t 48], none⟩,
  ⟨some 49, (.ext 0), [.t 44], none⟩,
  ⟨some 50, (.ext 1), [.t 44], none⟩,
  ⟨some 11, .mov, [.t 49], none⟩,
  ⟨some 12, .mov, [.t 50], none⟩]
def Ztv : List Z2a := [
  ⟨some 52, .mov, [.t 0], none⟩,
  ⟨some 53, .mov, [.t 1], none⟩,
  ⟨some 54, .mov, [.t 2], none⟩,
  ⟨some 55, .mov, [.t 0], none⟩,
  ⟨some 56, .lens, [.t 55], none⟩,
  ⟨some 57, (.call Zcl), [.t 52, .t 53, .t 54, .t 56], none⟩,
  ⟨some 51, .mov, [.t 57], none⟩,
  ⟨some 58, (.ext 0), [.t 51], none⟩,
  ⟨some 59, (.ext 1), [.t 51], none⟩,
  ⟨some 13, .mov, [.t 58], none⟩,
  ⟨some 14, .mov, [.t 59], none⟩]
def Ztw : List Z2a := [
  ⟨some 61, .mov, [.t 0], none⟩,
  ⟨some 62, .mov, [.t 1], none⟩,
  ⟨some 63, (.call Zcn), [.t 61, .t 62], none⟩,
  ⟨some 60, .mov, [.t 63], none⟩,
  ⟨some 64, (.ext 0), [.t 60], none⟩,
  ⟨some 65, (.ext 1), [.t 60], none⟩,
  ⟨some 15, .mov, [.t 64], none⟩,
  ⟨some 16, .mov, [.t 65], none⟩]
def Ztx : List Z2a := [
  ⟨some 66, .mov, [.t 8], none⟩,
  ⟨some 67, .mov, [.t 10], none⟩,
  ⟨some 68, (.bin .add), [.t 66, .t 67], none⟩,
  ⟨some 69, (.bin .neq), [.t 68, .c (.int .i64 0)], none⟩,
  ⟨some 70, .mov, [.t 69], none⟩,
  ⟨some 71, .mov, [.t 7], some (70, false)⟩,
  ⟨some 72, .b2s, [.t 71], some (70, false)⟩,
  ⟨some 73, .mov, [.t 0], some (70, false)⟩,
  ⟨some 74, .b2s, [.t 73], some (70, false)⟩,
  ⟨some 75, (.bin .neq), [.t 72, .t 74], some (70, false)⟩,
  ⟨some 76, .pick, [.t 70, .c (.bool true), .t 75], none⟩,
  ⟨some 77, .mov, [.t 76], none⟩,
  ⟨some 78, .mov, [.t 9], some (77, false)⟩,
  ⟨some 79, .b2s, [.t 78], some (77, false)⟩,
  ⟨some 80, .mov, [.t 0], some (77, false)⟩,
  ⟨some 81, .b2s, [.t 80], some (77, false)⟩,
  ⟨some 82, (.bin .neq), [.t 79, .t 81], some (77, false)⟩,
  ⟨some 83, .pick, [.t 77, .c (.bool true), .t 82], none⟩]
def Zty : List Z2a := [
  ⟨some 6, .mov, [.c (.bool false)], none⟩]
def Ztz : List Z2a := [
  ⟨some 84, .mov, [.t 1], none⟩,
  ⟨some 85, (.bin .eql), [.t 84, .c (.int .i64 0)], none⟩]
def Zu0 : List Z2a := [
  ⟨some 86, .mov, [.t 12], none⟩,
  ⟨some 87, .mov, [.t 14], none⟩,
  ⟨some 88, (.bin .add), [.t 86, .t 87], none⟩,
  ⟨some 89, .mov, [.t 16], none⟩,
  ⟨some 90, (.bin .add), [.t 88, .t 89], none⟩,
  ⟨some 91, .mov, [.t 15], none⟩,
  ⟨some 92, (.bin .add), [.t 90, .t 91], none⟩,
  ⟨some 93, (.bin .eql), [.t 92, .c (.int .i64 0)], none⟩,
  ⟨some 6, .mov, [.t 93], none⟩]
def Zu1 : List Z2a := [
  ⟨some 94, .mov, [.t 1], none⟩,
  ⟨some 95, (.bin .eql), [.t 94, .c (.int .i64 4)], none⟩,
  ⟨some 96, .mov, [.t 95], none⟩,
  ⟨some 97, .mov, [.t 12], some (96, false)⟩,
  ⟨some 98, (.bin .eql), [.t 97, .c (.int .i64 7)], some (96, false)⟩,
  ⟨some 99, .mov, [.t 98], some (96, false)⟩,
  ⟨some 100, .mov, [.t 14], some (99, true)⟩,
  ⟨some 101, (.bin .eql), [.t 100, .c (.int .i64 7)], some (99, true)⟩,
  ⟨some 102, .pick, [.t 99, .t 101, .c (.bool false)], some (96, false)⟩,
  ⟨some 103, .mov, [.t 102], some (96, false)⟩,
  ⟨some 104, .mov, [.t 16], some (103, true)⟩,
  ⟨some 105, (.bin .eql), [.t 104, .c (.int .i64 7)], some (103, true)⟩,
  ⟨some 106, .pick, [.t 103, .t 105, .c (.bool false)], some (96, false)⟩,
  ⟨some 107, .mov, [.t 106], some (96, false)⟩,
  ⟨some 108, .mov, [.t 15], some (107, true)⟩,
  ⟨some 109, (.bin .eql), [.t 108, .c (.int .i64 0)], some (107, true)⟩,
  ⟨some 110, .pick, [.t 107, .t 109, .c (.bool false)], some (96, false)⟩,
  ⟨some 111, .pick, [.t 96, .c (.bool true), .t 110], none⟩,
  ⟨some 6, .mov, [.t 111], none⟩]
def Zu2 : Z2y := ⟨112, (.seq (.region Ztn [0, 1, 2]) (.seq (.seq (.region Zto [0, 1, 2, 18]) (.cond (.t 18) (.seq (.region Ztp [6]) .ret) .skip)) (.seq (.seq (.region Ztq [0, 1, 2, 29]) (.cond (.t 29) (.seq (.region Ztr [6]) .ret) .skip)) (.seq (.region Zts [0, 1, 2, 7, 8]) (.seq (.region Ztt [0, 1, 2, 7, 8, 9, 10]) (.seq (.region Ztu [0, 1, 2, 7, 8, 9, 10, 12]) (.seq (.region Ztv [0, 1, 7, 8, 9, 10, 12, 14]) (.seq (.region Ztw [0, 1, 7, 8, 9, 10, 12, 14, 15, 16]) (.seq (.seq (.region Ztx [1, 12, 14, 15, 16, 83]) (.cond (.t 83) (.seq (.region Zty [6]) .ret) .skip)) (.seq (.seq (.region Ztz [1, 12, 14, 15, 16, 85]) (.cond (.t 85) (.seq (.region Zu0 [6]) .ret) .skip)) (.seq (.region Zu1 [6]) .ret))))))))))), [.t 6]⟩
def Zu3 : List Z2a := [
  ⟨some 0, .mov, [.c (.bool false)], none⟩]
def Zu4 : List Z2a := [
  ⟨some 13, (.bslo 1), [.c (.int .u8 97), .c (.int .u8 32), .c (.int .u8 115), .c (.int .u8 116), .c (.int .u8 114), .c (.int .u8 101), .c (.int .u8 97), .c (.int .u8 109), .c (.int .u8 32), .c (.int .u8 111), .c (.int .u8 102), .c (.int .u8 32), .c (.int .u8 98), .c (.int .u8 121), .c (.int .u8 116), .c (.int .u8 101), .c (.int .u8 115), .c (.int .u8 44), .c (.int .u8 32), .c (.int .u8 97), .c (.int .u8 32), .c (.int .u8 115), .c (.int .u8 116), .c (.int .u8 114), .c (.int .u8 101), .c (.int .u8 97), .c (.int .u8 109), .c (.int .u8 32), .c (.int .u8 111), .c (.int .u8 102), .c (.int .u8 32), .c (.int .u8 98), .c (.int .u8 121), .c (.int .u8 116), .c (.int .u8 101), .c (.int .u8 115)], none⟩,
  ⟨some 14, (.strish 1), [.t 13], none⟩,
  ⟨some 1, .mov, [.t 14], none⟩]
def Zu5 : List Z2a := [
  ⟨some 16, .mov, [.t 1], none⟩,
  ⟨some 17, (.call Zcr), [.t 16, .c (.int .i64 4), .c (.int .i64 10)], none⟩,
  ⟨some 15, .mov, [.t 17], none⟩,
  ⟨some 18, (.ext 0), [.t 15], none⟩,
  ⟨some 19, (.ext 1), [.t 15], none⟩,
  ⟨some 2, .mov, [.t 18], none⟩,
  ⟨some 3, .mov, [.t 19], none⟩]
def Zu6 : List Z2a := [
  ⟨some 21, .mov, [.t 2], none⟩,
  ⟨some 22, (.call Zcl), [.t 21, .c (.int .i64 4), .c (.int .i64 10), .c (.int .i64 100)], none⟩,
  ⟨some 20, .mov, [.t 22], none⟩,
  ⟨some 23, (.ext 0), [.t 20], none⟩,
  ⟨some 24, (.ext 1), [.t 20], none⟩,
  ⟨some 4, .mov, [.t 23], none⟩,
  ⟨some 5, .mov, [.t 24], none⟩]
def Zu7 : List Z2a := [
  ⟨some 26, .mov, [.t 2], none⟩,
  ⟨some 27, (.call Zcn), [.t 26, .c (.int .i64 4)], none⟩,
  ⟨some 25, .mov, [.t 27], none⟩,
  ⟨some 28, (.ext 0), [.t 25], none⟩,
  ⟨some 29, (.ext 1), [.t 25], none⟩,
  ⟨some 6, .mov, [.t 28], none⟩,
  ⟨some 7, .mov, [.t 29], none⟩]
def Zu8 : List Z2a := [
  ⟨some 31, (.call Zct), [.c (.int .i64 5), .c (.bool true)], none⟩,
  ⟨some 32, (.call Zcp), [.t 31, .c (.int .i64 0)], none⟩,
  ⟨some 30, .mov, [.t 32], none⟩,
  ⟨some 33, (.ext 0), [.t 30], none⟩,
  ⟨some 34, (.ext 1), [.t 30], none⟩,
  ⟨some 35, (.ext 2), [.t 30], none⟩,
  ⟨some 8, .mov, [.t 33], none⟩,
  ⟨some 9, .mov, [.t 34], none⟩,
  ⟨some 10, .mov, [.t 35], none⟩]
def Zu9 : List Z2a := [
  ⟨some 37, .mov, [.t 1], none⟩,
  ⟨some 38, (.call Zcr), [.t 37, .c (.int .i64 1), .c (.int .i64 10)], none⟩,
  ⟨some 36, .mov, [.t 38], none⟩,
  ⟨some 39, (.ext 0), [.t 36], none⟩,
  ⟨some 40, (.ext 1), [.t 36], none⟩,
  ⟨some 11, .mov, [.t 39], none⟩,
  ⟨some 12, .mov, [.t 40], none⟩]
def Zua : List Z2a := [
  ⟨some 41, .mov, [.t 3], none⟩,
  ⟨some 42, .mov, [.t 5], none⟩,
  ⟨some 43, (.bin .add), [.t 41, .t 42], none⟩,
  ⟨some 44, .mov, [.t 7], none⟩,
  ⟨some 45, (.bin .add), [.t 43, .t 44], none⟩,
  ⟨some 46, .mov, [.t 10], none⟩,
  ⟨some 47, (.bin .add), [.t 45, .t 46], none⟩,
  ⟨some 48, (.bin .eql), [.t 47, .c (.int .i64 0)], none⟩,
  ⟨some 49, .mov, [.t 48], none⟩,
  ⟨some 50, .mov, [.t 4], some (49, true)⟩,
  ⟨some 51, .b2s, [.t 50], some (49, true)⟩,
  ⟨some 52, .mov, [.t 1], some (49, true)⟩,
  ⟨some 53, .b2s, [.t 52], some (49, true)⟩,
  ⟨some 54, (.bin .eql), [.t 51, .t 53], some (49, true)⟩,
  ⟨some 55, .pick, [.t 49, .t 54, .c (.bool false)], none⟩,
  ⟨some 56, .mov, [.t 55], none⟩,
  ⟨some 57, .mov, [.t 6], some (56, true)⟩,
  ⟨some 58, (.bin .eql), [.t 57, .c (.int .i64 4)], some (56, true)⟩,
  ⟨some 59, .pick, [.t 56, .t 58, .c (.bool false)], none⟩,
  ⟨some 60, .mov, [.t 59], none⟩,
  ⟨some 61, .mov, [.t 8], some (60, true)⟩,
  ⟨some 62, (.bin .eql), [.t 61, .c (.int .i64 5)], some (60, true)⟩,
  ⟨some 63, .pick, [.t 60, .t 62, .c (.bool false)], none⟩,
  ⟨some 64, .mov, [.t 63], none⟩,
  ⟨some 65, .mov, [.t 9], some (64, true)⟩,
  ⟨some 66, .pick, [.t 64, .t 65, .c (.bool false)], none⟩,
  ⟨some 67, .mov, [.t 66], none⟩,
  ⟨some 68, .mov, [.t 12], some (67, true)⟩,
  ⟨some 69, (.bin .eql), [.t 68, .c (.int .i64 7)], some (67, true)⟩,
  ⟨some 70, .pick, [.t 67, .t 69, .c (.bool false)], none⟩,
  ⟨some 0, .mov, [.t 70], none⟩]
def Zub : Z2y := ⟨71, (.seq (.region Zu3 []) (.seq (.region Zu4 [1]) (.seq (.region Zu5 [1, 2, 3]) (.seq (.region Zu6 [1, 2, 3, 4, 5]) (.seq (.region Zu7 [1, 3, 4, 5, 6, 7]) (.seq (.region Zu8 [1, 3, 4, 5, 6, 7, 8, 9, 10]) (.seq (.region Zu9 [1, 3, 4, 5, 6, 7, 8, 9, 10, 12]) (.seq (.region Zua [0]) .ret)))))))), [.t 0]⟩
end Go.Abs
namespace Go.Abs
open Go Go.Proofs
theorem Zuc : Z2z Try.prog [] Zce = some Ztc.erase := by kernel_rfl
theorem Zud : Z2z Try.prog [(8, 4)] Zcg = some Ztm.erase := by kernel_rfl
theorem Zue : Z2z Try.prog [] Zcj = some Zu2.erase := by kernel_rfl
theorem Zuf : Z2z Try.prog [(1, 0)] Zck = some Zub.erase := by kernel_rfl
end Go.Abs
namespace Go.Abs
open Go Go.Proofs Go.Abs.Lz
set_option linter.unusedVariables false
set_option linter.unusedSimpArgs false
theorem Zug {σ : Zc} {bs : List UInt8} {f : Bool} {codec size : Int} (hb : bs.length ≤ 10000000) {e : Nat} {xs : List UInt8} (h1 : encE codec size = e) (h2 : encO bs codec size = xs) :
    Z1q Try.prog Zcr [.slc 1 (bytes bs) f, .int .i64 codec, .int .i64 size] σ fun r σ' => r = .tup [.slc 1 (bytes xs) true, .int .i64 e] ∧ σ' = σ := by
  subst h1 h2; exact Zsx hb
theorem Zuh {σ : Zc} {bs : List UInt8} {f : Bool} {codec size most : Int} (hb : bs.length ≤ 140737488000000) {e : Nat} {xs : List UInt8} (h : decF bs codec size most = (e, xs)) :
    Z1q Try.prog Zcl [.slc 1 (bytes bs) f, .int .i64 codec, .int .i64 size, .int .i64 most] σ fun r σ' => r = .tup [.slc 1 (bytes xs) true, .int .i64 e] ∧ σ' = σ := by
  have := Zr8 (σ := σ) (f := f) (codec := codec) (size := size) (most := most) hb
  rw [h] at this; exact this
theorem Zui {σ : Zc} {bs : List UInt8} {f : Bool} {codec size most : Int} (hb : bs.length ≤ 140737488000000) {e : Nat} {xs : List UInt8} (h : decF bs codec size most = (e, xs)) :
    Z1q Try.prog Zcm [.slc 1 (bytes bs) f, .int .i64 codec, .int .i64 size, .int .i64 most] σ fun r σ' => r = .tup [.slc 1 (bytes xs) false, .int .i64 e] ∧ σ' = σ := by
  have := Zrc (σ := σ) (f := f) (codec := codec) (size := size) (most := most) hb
  rw [h] at this; exact this
theorem Zuj {σ : Zc} {bs : List UInt8} {f : Bool} {codec : Int} (hb : bs.length ≤ 140737488000000) {n e : Nat} (h : cntF bs codec = (n, e)) :
    Z1q Try.prog Zcn [.slc 1 (bytes bs) f, .int .i64 codec] σ fun r σ' => r = .tup [.int .i64 n, .int .i64 e] ∧ σ' = σ := by
  have := Zr9 (σ := σ) (f := f) (codec := codec) hb
  rw [h] at this; exact this
theorem Zuk {σ : Zc} {bs : List UInt8} {f : Bool} {codec : Int} (hb : bs.length ≤ 140737488000000) {n e : Nat} (h : cntF bs codec = (n, e)) :
    Z1q Try.prog Zco [.slc 1 (bytes bs) f, .int .i64 codec] σ fun r σ' => r = .tup [.int .i64 n, .int .i64 e] ∧ σ' = σ := by
  have := Zre (σ := σ) (f := f) (codec := codec) hb
  rw [h] at this; exact this
theorem Zul {σ : Zc} {bs : List UInt8} {f : Bool} {at_ : Int} (hb : bs.length ≤ 140737488355328) {n : Nat} {o : Bool} {e : Nat} (h : prsF bs at_ = (n, o, e)) : Z1q Try.prog Zcp [.slc 1 (bytes bs) f, .int .i64 at_] σ fun r σ' => r = .tup [.int .i64 n, .bool o, .int .i64 e] ∧ σ' = σ := by
  have := Zo1 (σ := σ) (f := f) at_ hb
  rw [h] at this; exact this
theorem Zum {σ : Zc} {bs : List UInt8} {f : Bool} {at_ : Int} (hb : bs.length ≤ 140737488355328) {n : Nat} {o : Bool} {e : Nat} (h : prsF bs at_ = (n, o, e)) : Z1q Try.prog Zcq [.slc 1 (bytes bs) f, .int .i64 at_] σ fun r σ' => r = .tup [.int .i64 n, .bool o, .int .i64 e] ∧ σ' = σ := by
  have := Zo2 (σ := σ) (f := f) at_ hb
  rw [h] at this; exact this
theorem enc4 {bs : List UInt8} {size : Nat} (h1 : 1 ≤ size) (h2 : size ≤ 65536) : encE 4 size = 0 ∧ encO bs 4 size = encF size bs := by
  have e : encE 4 (size : Int) = 0 := by rw [encE, if_neg (by simp), if_neg (by omega)]
  refine ⟨e, ?_⟩
  rw [encO, e, if_neg (by decide), if_neg (by decide), Int.toNat_natCast]
theorem dec4 {l : List UInt8} {size most : Nat} (h1 : 1 ≤ size) (h2 : size ≤ 65536) (h3 : most ≤ 262144) : decF l 4 size most = dec size most l [] := by
  rw [decF, if_neg (by simp), if_neg (by omega), if_neg (by decide), Int.toNat_natCast, Int.toNat_natCast]
theorem cnt4 {l : List UInt8} : cntF l 4 = cntC l 0 := by rw [cntF, if_neg (by simp), if_neg (by decide)]
theorem Zun {size : Nat} (h1 : 1 ≤ size) (l : List UInt8) : (encF size l).length ≤ 4 * l.length + 3 := by
  have e3 := Znp h1 l
  have e4 : l.length / size ≤ l.length := Nat.div_le_self _ _
  have e5 : (if 0 < l.length % size then 1 else 0) ≤ 1 := by split <;> omega
  have e6 : 3 * (l.length / size + (if 0 < l.length % size then 1 else 0)) = 3 * (l.length / size) + 3 * (if 0 < l.length % size then 1 else 0) := Nat.mul_add ..
  omega
theorem Zuo {σ : Zc} {xs : List UInt8} {f : Bool} : ab2s σ [.slc 1 (bytes xs) f] = some (.str xs) := Zl0
theorem Zup (σ : Zc) : Z1q Try.prog Zck [] σ fun r σ' => r = .bool true ∧ σ' = σ := by
  refine Z8t rfl Zuf (Nat.le_of_ble_eq_true rfl) ?_
  refine Z9z ?_
  (repeat (refine st_q rfl rfl rfl ?_))
  refine Z8y ?_
  (repeat (refine Z9w ?_))
  refine Z9u ?_
  obtain ⟨hello, hh, hl⟩ : ∃ hello : List UInt8, hello = [97, 32, 115, 116, 114, 101, 97, 109, 32, 111, 102, 32, 98, 121, 116, 101, 115, 44, 32, 97, 32, 115, 116, 114, 101, 97, 109, 32, 111, 102, 32, 98, 121, 116, 101, 115] ∧ hello.length = 36 := ⟨_, rfl, rfl⟩
  have hv : bytes hello = [.int .u8 97, .int .u8 32, .int .u8 115, .int .u8 116, .int .u8 114, .int .u8 101, .int .u8 97, .int .u8 109, .int .u8 32, .int .u8 111, .int .u8 102, .int .u8 32, .int .u8 98, .int .u8 121, .int .u8 116, .int .u8 101, .int .u8 115, .int .u8 44, .int .u8 32, .int .u8 97, .int .u8 32, .int .u8 115, .int .u8 116, .int .u8 114, .int .u8 101, .int .u8 97, .int .u8 109, .int .u8 32, .int .u8 111, .int .u8 102, .int .u8 32, .int .u8 98, .int .u8 121, .int .u8 116, .int .u8 101, .int .u8 115] := by rw [hh]; rfl
  refine Z9z ?_
  refine Z9m (vs := bytes hello) (by rw [hv]; rfl) (by rw [hv]; exact fun v hv => Z0.fit_iff.1 (List.all_eq_true.1 (rfl : List.all _ (Z0.fit 1) = true) v hv)) fun b hb => ?_
  clear hh hv
  refine Z9n rfl Z8z rfl (by rw [Zam]; omega) Z9h ?_
  (repeat (refine st_q rfl rfl rfl ?_))
  (refine Z8y ?_; (repeat (first | refine Z9v rfl ?_ | refine Z9w ?_)); refine Z9u ?_)
  have hE := enc4 (bs := hello) (size := 10) (by decide) (by decide)
  have hel := Zun (size := 10) (by decide) hello
  have hD : decF (encF 10 hello) 4 (10 : Nat) (100 : Nat) = (0, hello) := by rw [dec4 (by decide) (by decide) (by decide), Znm (by decide) (by decide), if_neg (by omega)]
  have hC : cntF (encF 10 hello) 4 = (4, 0) := by rw [cnt4, Znn (by decide) (by decide), hl]; rfl
  refine Z9z ?_
  (repeat (refine st_q rfl rfl rfl ?_))
  refine Z9t rfl (Zug (size := ((10 : Nat) : Int)) (by omega) hE.1 hE.2) ?_
  (repeat (refine st_q rfl rfl rfl ?_))
  (refine Z8y ?_; (repeat (first | refine Z9v rfl ?_ | refine Z9w ?_)); refine Z9u ?_)
  refine Z9z ?_
  (repeat (refine st_q rfl rfl rfl ?_))
  refine Z9t rfl (Zuh (size := ((10 : Nat) : Int)) (most := ((100 : Nat) : Int)) (by omega) hD) ?_
  (repeat (refine st_q rfl rfl rfl ?_))
  (refine Z8y ?_; (repeat (first | refine Z9v rfl ?_ | refine Z9w ?_)); refine Z9u ?_)
  refine Z9z ?_
  (repeat (refine st_q rfl rfl rfl ?_))
  refine Z9t rfl (Zuj (by omega) hC) ?_
  (repeat (refine st_q rfl rfl rfl ?_))
  (refine Z8y ?_; (repeat (first | refine Z9v rfl ?_ | refine Z9w ?_)); refine Z9u ?_)
  refine Z9z ?_
  refine Z9t rfl (Znx 5 true) ?_
  refine Z9t rfl (Zul (at_ := 0) (by decide) (n := 5) (o := true) (e := 0) rfl) ?_
  (repeat (refine st_q rfl rfl rfl ?_))
  (refine Z8y ?_; (repeat (first | refine Z9v rfl ?_ | refine Z9w ?_)); refine Z9u ?_)
  refine Z9z ?_
  (repeat (refine st_q rfl rfl rfl ?_))
  refine Z9t rfl (Zug (codec := 1) (size := ((10 : Nat) : Int)) (e := 7) (xs := []) (by omega) rfl rfl) ?_
  (repeat (refine st_q rfl rfl rfl ?_))
  (refine Z8y ?_; (repeat (first | refine Z9v rfl ?_ | refine Z9w ?_)); refine Z9u ?_)
  refine Z9z ?_
  (repeat (first | refine st_q rfl rfl rfl ?_ | refine Z8v rfl (st_q rfl rfl rfl ?_) | refine Z8w rfl ?_ | refine Z8x rfl ?_))
  refine Z8v rfl (st_q rfl Zl0 rfl ?_)
  (repeat (first | refine st_q rfl rfl rfl ?_ | refine Z8v rfl (st_q rfl rfl rfl ?_) | refine Z8w rfl ?_ | refine Z8x rfl ?_))
  refine Z8v rfl (st_q rfl Zl0 rfl ?_)
  refine Z8v rfl (st_q rfl rfl rfl ?_)
  rw [show decide (hello = hello) = true from decide_eq_true rfl]
  (repeat (first | refine st_q rfl rfl rfl ?_ | refine Z8v rfl (st_q rfl rfl rfl ?_) | refine Z8w rfl ?_ | refine Z8x rfl ?_))
  (refine Z8y ?_; (repeat (first | refine Z9v rfl ?_ | refine Z9w ?_)); refine Z9u ?_)
  refine Z8d ?_
  exact ares rfl (HSub.refl _) ⟨rfl, rfl⟩
end Go.Abs
namespace Go.Abs
open Go Go.Proofs Go.Abs.Lz
set_option linter.unusedVariables false
set_option linter.unusedSimpArgs false
theorem Zuq {bs : List UInt8} {size : Int} (h1 : 1 ≤ size) (h2 : size ≤ 65536) (hb : bs.length ≤ 3000) : encE 0 size = 0 ∧ encO bs 0 size = bs ∧ decF bs 0 size (bs.length : Nat) = (0, bs) ∧ cntF bs 0 = (0, 0) := by
  have e : encE 0 size = 0 := by rw [encE, if_neg (by simp), if_neg (by omega)]
  refine ⟨e, by rw [encO, e, if_neg (by decide), if_pos rfl], ?_, rfl⟩
  rw [decF, if_neg (by simp), if_neg (by omega), if_pos rfl, if_neg (by omega)]
theorem Zur {bs : List UInt8} {codec size most : Int} (h : ¬ (codec = 0 ∨ codec = 4)) : encE codec size = 7 ∧ decF bs codec size most = (7, []) ∧ cntF bs codec = (0, 7) :=
  ⟨if_pos h, if_pos h, if_pos h⟩
theorem Zus (bs : List UInt8) (f : Bool) (codec size : Int) (σ : Zc) : Z1q Try.prog Zcj [.slc 1 (bytes bs) f, .int .i64 codec, .int .i64 size] σ fun r σ' => r = .bool true ∧ σ' = σ := by
  refine Z8t rfl Zue (Nat.le_of_ble_eq_true rfl) ?_
  refine Z9z ?_
  (repeat (refine st_q rfl rfl rfl ?_))
  (refine Z8y ?_; (repeat (first | refine Z9v rfl ?_ | refine Z9w ?_)); refine Z9u ?_)
  refine Za5 ?_
  refine Zad ?_
  refine Z9t rfl (Zup _) ?_
  (repeat (refine st_q rfl rfl rfl ?_))
  (refine Z8y ?_; (repeat (first | refine Z9v rfl ?_ | refine Z9w ?_)); refine Z9u ?_)
  refine Z8f (t := false) rfl (fun e => by cases e) (fun _ => ?_)
  refine Za4 ?_
  refine Za5 ?_
  refine Zad ?_
  have hret : ∀ (X : Z2b) (F : Z26), AWp Try.prog Zu2.n (.seq (.region Ztr [6]) .ret) (Z8e Try.prog Zu2.n X (ARet Zu2.res fun r σ' => r = .bool true ∧ σ' = σ)) F σ := fun X F => by
    refine Z9z ?_
    (repeat (refine st_q rfl rfl rfl ?_))
    (refine Z8y ?_; (repeat (first | refine Z9v rfl ?_ | refine Z9w ?_)); refine Z9u ?_)
    refine Z8d ?_
    exact ares rfl (HSub.refl _) ⟨rfl, rfl⟩
  (repeat (first | refine st_q rfl rfl rfl ?_ | refine Z8v rfl (st_q rfl rfl rfl ?_) | refine Z8w rfl ?_ | refine Z8x rfl ?_))
  rw [Zam]
  by_cases c1 : (bs.length : Int) > 3000
  · (rw [show decide ((bs.length : Int) > 3000) = true from decide_eq_true (by omega)])
    (repeat (first | refine st_q rfl rfl rfl ?_ | refine Z8v rfl (st_q rfl rfl rfl ?_) | refine Z8w rfl ?_ | refine Z8x rfl ?_))
    (refine Z8y ?_; (repeat (first | refine Z9v rfl ?_ | refine Z9w ?_)); refine Z9u ?_)
    exact Z8f rfl (fun _ => hret _ _) (fun e => by cases e)
  (rw [show decide ((bs.length : Int) > 3000) = false from decide_eq_false (by omega)])
  (repeat (first | refine st_q rfl rfl rfl ?_ | refine Z8v rfl (st_q rfl rfl rfl ?_) | refine Z8w rfl ?_ | refine Z8x rfl ?_))
  by_cases c2 : size < 1
  · (rw [show decide (size < 1) = true from decide_eq_true (by omega)])
    (repeat (first | refine st_q rfl rfl rfl ?_ | refine Z8v rfl (st_q rfl rfl rfl ?_) | refine Z8w rfl ?_ | refine Z8x rfl ?_))
    (refine Z8y ?_; (repeat (first | refine Z9v rfl ?_ | refine Z9w ?_)); refine Z9u ?_)
    exact Z8f rfl (fun _ => hret _ _) (fun e => by cases e)
  (rw [show decide (size < 1) = false from decide_eq_false (by omega)])
  (repeat (first | refine st_q rfl rfl rfl ?_ | refine Z8v rfl (st_q rfl rfl rfl ?_) | refine Z8w rfl ?_ | refine Z8x rfl ?_))
  (refine Z8y ?_; (repeat (first | refine Z9v rfl ?_ | refine Z9w ?_)); refine Z9u ?_)
  refine Za3 (p := size > 65536) rfl (fun _ => hret _ _) (fun c3 => ?_)
  refine Za4 ?_
  obtain ⟨p1, p2, p3, p4⟩ := Zuq (bs := bs) (size := size) (by omega) (by omega) (by omega)
  refine Z9z ?_
  (repeat (refine st_q rfl rfl rfl ?_))
  refine Z9t rfl (Zug (by omega) p1 p2) ?_
  (repeat (refine st_q rfl rfl rfl ?_))
  (refine Z8y ?_; (repeat (first | refine Z9v rfl ?_ | refine Z9w ?_)); refine Z9u ?_)
  refine Z9z ?_
  (repeat (refine st_q rfl rfl rfl ?_))
  rw [Zam]
  refine Z9t rfl (Zuh (by omega) p3) ?_
  (repeat (refine st_q rfl rfl rfl ?_))
  (refine Z8y ?_; (repeat (first | refine Z9v rfl ?_ | refine Z9w ?_)); refine Z9u ?_)
  obtain ⟨eg, hE⟩ : ∃ eg, encE codec size = eg := ⟨_, rfl⟩
  obtain ⟨eh, xd, hD⟩ : ∃ eh xd, decF bs codec size (bs.length : Nat) = (eh, xd) := ⟨_, _, rfl⟩
  obtain ⟨n, ei, hC⟩ : ∃ n ei, cntF bs codec = (n, ei) := ⟨_, _, rfl⟩
  refine Z9z ?_
  (repeat (refine st_q rfl rfl rfl ?_))
  refine Z9t rfl (Zug (by omega) hE rfl) ?_
  (repeat (refine st_q rfl rfl rfl ?_))
  (refine Z8y ?_; (repeat (first | refine Z9v rfl ?_ | refine Z9w ?_)); refine Z9u ?_)
  refine Z9z ?_
  (repeat (refine st_q rfl rfl rfl ?_))
  rw [Zam]
  refine Z9t rfl (Zuh (by omega) hD) ?_
  (repeat (refine st_q rfl rfl rfl ?_))
  (refine Z8y ?_; (repeat (first | refine Z9v rfl ?_ | refine Z9w ?_)); refine Z9u ?_)
  refine Z9z ?_
  (repeat (refine st_q rfl rfl rfl ?_))
  refine Z9t rfl (Zuj (by omega) hC) ?_
  (repeat (refine st_q rfl rfl rfl ?_))
  (refine Z8y ?_; (repeat (first | refine Z9v rfl ?_ | refine Z9w ?_)); refine Z9u ?_)
  refine Za5 ?_
  refine Zad ?_
  (repeat (first | refine st_q rfl rfl rfl ?_ | refine Z8v rfl (st_q rfl rfl rfl ?_) | refine Z8w rfl ?_ | refine Z8x rfl ?_))
  refine Z8v rfl (st_q rfl Zl0 rfl ?_)
  (repeat (first | refine st_q rfl rfl rfl ?_ | refine Z8v rfl (st_q rfl rfl rfl ?_) | refine Z8w rfl ?_ | refine Z8x rfl ?_))
  refine Z8v rfl (st_q rfl Zl0 rfl ?_)
  refine Z8v rfl (st_q rfl rfl rfl ?_)
  rw [show decide (bs ≠ bs) = false from decide_eq_false (fun h => h rfl)]
  (repeat (first | refine st_q rfl rfl rfl ?_ | refine Z8v rfl (st_q rfl rfl rfl ?_) | refine Z8w rfl ?_ | refine Z8x rfl ?_))
  refine Z8v rfl (st_q rfl Zl0 rfl ?_)
  (repeat (first | refine st_q rfl rfl rfl ?_ | refine Z8v rfl (st_q rfl rfl rfl ?_) | refine Z8w rfl ?_ | refine Z8x rfl ?_))
  refine Z8v rfl (st_q rfl Zl0 rfl ?_)
  refine Z8v rfl (st_q rfl rfl rfl ?_)
  rw [show decide (bs ≠ bs) = false from decide_eq_false (fun h => h rfl)]
  (repeat (first | refine st_q rfl rfl rfl ?_ | refine Z8v rfl (st_q rfl rfl rfl ?_) | refine Z8w rfl ?_ | refine Z8x rfl ?_))
  (refine Z8y ?_; (repeat (first | refine Z9v rfl ?_ | refine Z9w ?_)); refine Z9u ?_)
  refine Z8f (t := false) rfl (fun e => by cases e) (fun _ => ?_)
  refine Za4 ?_
  refine Za5 ?_
  refine Zad ?_
  (repeat (first | refine st_q rfl rfl rfl ?_ | refine Z8v rfl (st_q rfl rfl rfl ?_) | refine Z8w rfl ?_ | refine Z8x rfl ?_))
  (refine Z8y ?_; (repeat (first | refine Z9v rfl ?_ | refine Z9w ?_)); refine Z9u ?_)
  refine Za3 (p := codec = 0) rfl (fun h0 => ?_) (fun h0 => ?_)
  · subst h0
    rw [p1] at hE
    rw [p3] at hD
    rw [p4] at hC
    cases hE
    cases hD
    cases hC
    refine Z9z ?_
    (repeat (first | refine st_q rfl rfl rfl ?_ | refine Z8v rfl (st_q rfl rfl rfl ?_) | refine Z8w rfl ?_ | refine Z8x rfl ?_))
    (refine Z8y ?_; (repeat (first | refine Z9v rfl ?_ | refine Z9w ?_)); refine Z9u ?_)
    refine Z8d ?_
    exact ares rfl (HSub.refl _) ⟨rfl, rfl⟩
  · refine Za4 ?_
    refine Z9z ?_
    (repeat (first | refine st_q rfl rfl rfl ?_ | refine Z8v rfl (st_q rfl rfl rfl ?_) | refine Z8w rfl ?_ | refine Z8x rfl ?_))
    by_cases h4 : codec = 4
    · (rw [show decide (codec = 4) = true from decide_eq_true (by omega)])
      (repeat (first | refine st_q rfl rfl rfl ?_ | refine Z8v rfl (st_q rfl rfl rfl ?_) | refine Z8w rfl ?_ | refine Z8x rfl ?_))
      (refine Z8y ?_; (repeat (first | refine Z9v rfl ?_ | refine Z9w ?_)); refine Z9u ?_)
      refine Z8d ?_
      exact ares rfl (HSub.refl _) ⟨rfl, rfl⟩
    · obtain ⟨q1, q2, q3⟩ := Zur (bs := bs) (codec := codec) (size := size) (most := (bs.length : Nat)) (by omega)
      rw [q1] at hE
      rw [q2] at hD
      rw [q3] at hC
      cases hE
      cases hD
      cases hC
      (rw [show decide (codec = 4) = false from decide_eq_false (by omega)])
      (repeat (first | refine st_q rfl rfl rfl ?_ | refine Z8v rfl (st_q rfl rfl rfl ?_) | refine Z8w rfl ?_ | refine Z8x rfl ?_))
      (refine Z8y ?_; (repeat (first | refine Z9v rfl ?_ | refine Z9w ?_)); refine Z9u ?_)
      refine Z8d ?_
      exact ares rfl (HSub.refl _) ⟨rfl, rfl⟩
theorem Zut (bs : List UInt8) (f : Bool) (codec size most at_ : Int) (σ : Zc) : Z1q Try.prog Zce [.slc 1 (bytes bs) f, .int .i64 codec, .int .i64 size, .int .i64 most, .int .i64 at_] σ fun r σ' => r = .bool true ∧ σ' = σ := by
  refine Z8t rfl Zuc (Nat.le_of_ble_eq_true rfl) ?_
  refine Z9z ?_
  (repeat (refine st_q rfl rfl rfl ?_))
  (refine Z8y ?_; (repeat (first | refine Z9v rfl ?_ | refine Z9w ?_)); refine Z9u ?_)
  refine Za5 ?_
  refine Zad ?_
  refine Z9t rfl (Zup _) ?_
  (repeat (refine st_q rfl rfl rfl ?_))
  (refine Z8y ?_; (repeat (first | refine Z9v rfl ?_ | refine Z9w ?_)); refine Z9u ?_)
  refine Z8f (t := false) rfl (fun e => by cases e) (fun _ => ?_)
  refine Za4 ?_
  refine Za5 ?_
  refine Zad ?_
  have hret : ∀ (X : Z2b) (F : Z26), AWp Try.prog Ztc.n (.seq (.region Zt4 [10]) .ret) (Z8e Try.prog Ztc.n X (ARet Ztc.res fun r σ' => r = .bool true ∧ σ' = σ)) F σ := fun X F => by
    refine Z9z ?_
    (repeat (refine st_q rfl rfl rfl ?_))
    (refine Z8y ?_; (repeat (first | refine Z9v rfl ?_ | refine Z9w ?_)); refine Z9u ?_)
    refine Z8d ?_
    exact ares rfl (HSub.refl _) ⟨rfl, rfl⟩
  by_cases c1 : bs.length ≤ 3000
  case neg =>
    (repeat (first | refine st_q rfl rfl rfl ?_ | refine Z8v rfl (st_q rfl rfl rfl ?_) | refine Z8w rfl ?_ | refine Z8x rfl ?_))
    rw [Zam]
    (rw [show decide ((bs.length : Int) > 3000) = true from decide_eq_true (by omega)])
    (repeat (first | refine st_q rfl rfl rfl ?_ | refine Z8v rfl (st_q rfl rfl rfl ?_) | refine Z8w rfl ?_ | refine Z8x rfl ?_))
    (refine Z8y ?_; (repeat (first | refine Z9v rfl ?_ | refine Z9w ?_)); refine Z9u ?_)
    exact Z8f rfl (fun _ => hret _ _) (fun e => by cases e)
  have hgo : ∀ F : Z26, FSub (fset 0 (some (.slc 1 (bytes bs) f)) (fset 1 (some (.int .i64 codec)) (fset 2 (some (.int .i64 size)) (fset 3 (some (.int .i64 most)) (fset 4 (some (.int .i64 at_)) Z27))))) F →
      AWp Try.prog Ztc.n (Ztc.code.snd 3) (ARet Ztc.res fun r σ' => r = .bool true ∧ σ' = σ) F σ := fun F hF => by
    refine Z8a hF (HSub.refl _) ?_
    obtain ⟨e, x, hD⟩ : ∃ e x, decF bs codec size most = (e, x) := ⟨_, _, rfl⟩
    obtain ⟨n, g, hC⟩ : ∃ n g, cntF bs codec = (n, g) := ⟨_, _, rfl⟩
    obtain ⟨k, o, i, hP⟩ : ∃ k o i, prsF bs at_ = (k, o, i) := ⟨_, _, _, rfl⟩
    refine Z9z ?_
    (repeat (refine st_q rfl rfl rfl ?_))
    refine Z9t rfl (Zuh (by omega) hD) ?_
    (repeat (refine st_q rfl rfl rfl ?_))
    (refine Z8y ?_; (repeat (first | refine Z9v rfl ?_ | refine Z9w ?_)); refine Z9u ?_)
    refine Z9z ?_
    (repeat (refine st_q rfl rfl rfl ?_))
    refine Z9t rfl (Zui (by omega) hD) ?_
    (repeat (refine st_q rfl rfl rfl ?_))
    (refine Z8y ?_; (repeat (first | refine Z9v rfl ?_ | refine Z9w ?_)); refine Z9u ?_)
    refine Z9z ?_
    (repeat (refine st_q rfl rfl rfl ?_))
    refine Z9t rfl (Zuj (by omega) hC) ?_
    (repeat (refine st_q rfl rfl rfl ?_))
    (refine Z8y ?_; (repeat (first | refine Z9v rfl ?_ | refine Z9w ?_)); refine Z9u ?_)
    refine Z9z ?_
    (repeat (refine st_q rfl rfl rfl ?_))
    refine Z9t rfl (Zuk (by omega) hC) ?_
    (repeat (refine st_q rfl rfl rfl ?_))
    (refine Z8y ?_; (repeat (first | refine Z9v rfl ?_ | refine Z9w ?_)); refine Z9u ?_)
    refine Z9z ?_
    (repeat (refine st_q rfl rfl rfl ?_))
    refine Z9t rfl (Zul (by omega) hP) ?_
    (repeat (refine st_q rfl rfl rfl ?_))
    (refine Z8y ?_; (repeat (first | refine Z9v rfl ?_ | refine Z9w ?_)); refine Z9u ?_)
    refine Z9z ?_
    (repeat (refine st_q rfl rfl rfl ?_))
    refine Z9t rfl (Zum (by omega) hP) ?_
    (repeat (refine st_q rfl rfl rfl ?_))
    (refine Z8y ?_; (repeat (first | refine Z9v rfl ?_ | refine Z9w ?_)); refine Z9u ?_)
    refine Z9z ?_
    refine st_q rfl rfl rfl ?_
    refine st_q rfl Zl0 rfl ?_
    refine st_q rfl rfl rfl ?_
    refine st_q rfl Zl0 rfl ?_
    refine st_q rfl rfl rfl ?_
    rw [show decide (x = x) = true from decide_eq_true rfl]
    (repeat (first | refine st_q rfl rfl rfl ?_ | refine Z8v rfl (st_q rfl rfl rfl ?_) | refine Z8w rfl ?_ | refine Z8x rfl ?_))
    rw [show decide ((e : Int) = (e : Int)) = true from decide_eq_true rfl]
    (repeat (first | refine st_q rfl rfl rfl ?_ | refine Z8v rfl (st_q rfl rfl rfl ?_) | refine Z8w rfl ?_ | refine Z8x rfl ?_))
    rw [show decide ((n : Int) = (n : Int)) = true from decide_eq_true rfl]
    (repeat (first | refine st_q rfl rfl rfl ?_ | refine Z8v rfl (st_q rfl rfl rfl ?_) | refine Z8w rfl ?_ | refine Z8x rfl ?_))
    rw [show decide ((g : Int) = (g : Int)) = true from decide_eq_true rfl]
    (repeat (first | refine st_q rfl rfl rfl ?_ | refine Z8v rfl (st_q rfl rfl rfl ?_) | refine Z8w rfl ?_ | refine Z8x rfl ?_))
    rw [show decide ((k : Int) = (k : Int)) = true from decide_eq_true rfl]
    (repeat (first | refine st_q rfl rfl rfl ?_ | refine Z8v rfl (st_q rfl rfl rfl ?_) | refine Z8w rfl ?_ | refine Z8x rfl ?_))
    have hi : decide ((i : Int) = (i : Int)) = true := decide_eq_true rfl
    cases o with
    | true =>
      (repeat (first | refine st_q rfl rfl rfl ?_ | refine Z8v rfl (st_q rfl rfl rfl ?_) | refine Z8w rfl ?_ | refine Z8x rfl ?_))
      rw [hi]
      (repeat (first | refine st_q rfl rfl rfl ?_ | refine Z8v rfl (st_q rfl rfl rfl ?_) | refine Z8w rfl ?_ | refine Z8x rfl ?_))
      (refine Z8y ?_; (repeat (first | refine Z9v rfl ?_ | refine Z9w ?_)); refine Z9u ?_)
      refine Z8d ?_
      exact ares rfl (HSub.refl _) ⟨rfl, rfl⟩
    | false =>
      (repeat (first | refine st_q rfl rfl rfl ?_ | refine Z8v rfl (st_q rfl rfl rfl ?_) | refine Z8w rfl ?_ | refine Z8x rfl ?_))
      rw [hi]
      (repeat (first | refine st_q rfl rfl rfl ?_ | refine Z8v rfl (st_q rfl rfl rfl ?_) | refine Z8w rfl ?_ | refine Z8x rfl ?_))
      (refine Z8y ?_; (repeat (first | refine Z9v rfl ?_ | refine Z9w ?_)); refine Z9u ?_)
      refine Z8d ?_
      exact ares rfl (HSub.refl _) ⟨rfl, rfl⟩
  have hb : ¬ (((bytes bs).length : Int) > 3000) := by rw [Zam]; omega
  by_cases hs1 : size > 4000 <;> by_cases hs2 : size ≤ 65536 <;> by_cases hm1 : most > 20000 <;> by_cases hm2 : most ≤ 262144 <;>
    ((repeat (first | refine st_q rfl rfl rfl ?_ | refine Z8v rfl (st_q rfl rfl rfl ?_) | refine Z8w rfl ?_ | refine Z8x rfl ?_ | rw [decide_eq_false hb] | rw [decide_eq_true hs1] | rw [decide_eq_false hs1] | rw [decide_eq_true hs2] | rw [decide_eq_false hs2] | rw [decide_eq_true hm1] | rw [decide_eq_false hm1] | rw [decide_eq_true hm2] | rw [decide_eq_false hm2]));
     (refine Z8y ?_; (repeat (first | refine Z9v rfl ?_ | refine Z9w ?_)); refine Z9u ?_);
     first
       | exact Z8f (t := true) rfl (fun _ => hret _ _) (fun e => by cases e)
       | (refine Z8f (t := false) rfl (fun e => by cases e) (fun _ => ?_); refine Za4 ?_; (refine Z9y (keep := [0, 1, 2, 3, 4]) ?_; ((repeat (first | refine Z9v rfl ?_ | refine Z9w ?_)); refine Z9u ?_)); exact hgo _ (FSub.refl _)))
theorem Zuu (a z : List UInt8) (n : Int) (o : Bool) : prsF (a ++ hdF n o ++ z) (a.length : Nat) = ((n % 8388608).toNat, o, 0) := by
  rw [prsF, if_neg (by simp only [List.length_append]; omega), Int.toNat_natCast, List.append_assoc, List.drop_left]
  have e : hdF n o = hdF ((n % 8388608).toNat : Nat) o := by
    rw [hdF, hdF]; congr 2
    omega
  rw [e, Zmv _ (by omega)]
theorem Zuv (n : Int) (o : Bool) (a z : List UInt8) (f g : Bool) (σ : Zc) : Z1q Try.prog Zcg [.int .i64 n, .bool o, .slc 1 (bytes a) f, .slc 1 (bytes z) g] σ fun r σ' => r = .bool true ∧ σ' = σ := by
  refine Z8t rfl Zud (Nat.le_of_ble_eq_true rfl) ?_
  refine Z9z ?_
  (repeat (refine st_q rfl rfl rfl ?_))
  (refine Z8y ?_; (repeat (first | refine Z9v rfl ?_ | refine Z9w ?_)); refine Z9u ?_)
  refine Za5 ?_
  refine Zad ?_
  refine Z9t rfl (Zup _) ?_
  (repeat (refine st_q rfl rfl rfl ?_))
  (refine Z8y ?_; (repeat (first | refine Z9v rfl ?_ | refine Z9w ?_)); refine Z9u ?_)
  refine Z8f (t := false) rfl (fun e => by cases e) (fun _ => ?_)
  refine Za4 ?_
  refine Za5 ?_
  refine Zad ?_
  have hret : ∀ (X : Z2b) (F : Z26), AWp Try.prog Ztm.n (.seq (.region Zth [8]) .ret) (Z8e Try.prog Ztm.n X (ARet Ztm.res fun r σ' => r = .bool true ∧ σ' = σ)) F σ := fun X F => by
    refine Z9z ?_
    (repeat (refine st_q rfl rfl rfl ?_))
    (refine Z8y ?_; (repeat (first | refine Z9v rfl ?_ | refine Z9w ?_)); refine Z9u ?_)
    refine Z8d ?_
    exact ares rfl (HSub.refl _) ⟨rfl, rfl⟩
  (repeat (first | refine st_q rfl rfl rfl ?_ | refine Z8v rfl (st_q rfl rfl rfl ?_) | refine Z8w rfl ?_ | refine Z8x rfl ?_))
  rw [Zam]
  by_cases c1 : (a.length : Int) > 3000
  · (rw [show decide ((a.length : Int) > 3000) = true from decide_eq_true (by omega)])
    (repeat (first | refine st_q rfl rfl rfl ?_ | refine Z8v rfl (st_q rfl rfl rfl ?_) | refine Z8w rfl ?_ | refine Z8x rfl ?_))
    (refine Z8y ?_; (repeat (first | refine Z9v rfl ?_ | refine Z9w ?_)); refine Z9u ?_)
    exact Z8f rfl (fun _ => hret _ _) (fun e => by cases e)
  (rw [show decide ((a.length : Int) > 3000) = false from decide_eq_false (by omega)])
  (repeat (first | refine st_q rfl rfl rfl ?_ | refine Z8v rfl (st_q rfl rfl rfl ?_) | refine Z8w rfl ?_ | refine Z8x rfl ?_))
  rw [Zam]
  (repeat (first | refine st_q rfl rfl rfl ?_ | refine Z8v rfl (st_q rfl rfl rfl ?_) | refine Z8w rfl ?_ | refine Z8x rfl ?_))
  (refine Z8y ?_; (repeat (first | refine Z9v rfl ?_ | refine Z9w ?_)); refine Z9u ?_)
  refine Za3 (p := (z.length : Int) > 3000) rfl (fun _ => hret _ _) (fun c2 => ?_)
  refine Za4 ?_
  refine Z9z ?_
  (repeat (refine st_q rfl rfl rfl ?_))
  refine Z9t rfl (Znx n o) ?_
  (repeat (refine st_q rfl rfl rfl ?_))
  (refine Z8y ?_; (repeat (first | refine Z9v rfl ?_ | refine Z9w ?_)); refine Z9u ?_)
  have hhl := Znh n o
  refine Z9z ?_
  refine st_q rfl rfl rfl ?_
  refine st_q rfl rfl rfl ?_
  refine Zat (β := []) (xs := []) (ys := a) (Grow.nil 1) rfl rfl (by simp; omega) fun b1 hb1 => ?_
  refine st_q rfl rfl rfl ?_
  refine Zat (β := [(b1, .cells 1 (bytes ([] ++ a)))]) (xs := [] ++ a) (ys := hdF n o) (.inr ⟨b1, rfl, rfl⟩) rfl rfl (by simp; omega) fun b2 hb2 => ?_
  refine st_q rfl rfl rfl ?_
  refine Zat (β := [(b2, .cells 1 (bytes ([] ++ a ++ hdF n o)))]) (xs := [] ++ a ++ hdF n o) (ys := z) (.inr ⟨b2, rfl, rfl⟩) rfl rfl (by simp; omega) fun b3 hb3 => ?_
  rw [List.nil_append]
  have hlz : (a ++ hdF n o ++ z).length ≤ 10000 := by simp only [List.length_append]; omega
  rw [← Zam (a ++ hdF n o ++ z)]
  (repeat (refine st_q rfl rfl rfl ?_))
  (refine Z8y ?_; (repeat (first | refine Z9v rfl ?_ | refine Z9w ?_)); refine Z9u ?_)
  refine Zb1 (d := 10) rfl ?_
  have hP := Zuu a z n o
  generalize a ++ hdF n o ++ z = xs at *
  refine Z9y (keep := [0, 1, 2, 9, 10]) ?_
  ((repeat (first | refine Z9v rfl ?_ | refine Z9w ?_)); refine Z9u ?_)
  refine Z9z ?_
  (repeat (refine st_q rfl rfl rfl ?_))
  rw [Zam]
  refine Z9t rfl (Zul (by omega) hP) ?_
  (repeat (refine st_q rfl rfl rfl ?_))
  (refine Z8y ?_; (repeat (first | refine Z9v rfl ?_ | refine Z9w ?_)); refine Z9u ?_)
  have hR := fun σ : Zc => Zny (σ := σ) n o
  generalize hdF n o = hs at hR ⊢
  refine Z9z ?_
  refine st_q rfl rfl rfl ?_
  refine st_q rfl Zl0 rfl ?_
  (repeat (refine st_q rfl rfl rfl ?_))
  refine Zbw rfl hR ?_
  refine st_q rfl Zl0 rfl ?_
  refine st_q rfl rfl rfl ?_
  rw [show decide (hs = hs) = true from decide_eq_true rfl]
  (repeat (first | refine st_q rfl rfl rfl ?_ | refine Z8v rfl (st_q rfl rfl rfl ?_) | refine Z8w rfl ?_ | refine Z8x rfl ?_))
  rw [show decide ((((n % 8388608).toNat : Nat) : Int) = intBits .and .i64 n 8388607) = true from decide_eq_true (by rw [Zns]; omega)]
  (repeat (first | refine st_q rfl rfl rfl ?_ | refine Z8v rfl (st_q rfl rfl rfl ?_) | refine Z8w rfl ?_ | refine Z8x rfl ?_))
  cases o with
  | true =>
    (repeat (first | refine st_q rfl rfl rfl ?_ | refine Z8v rfl (st_q rfl rfl rfl ?_) | refine Z8w rfl ?_ | refine Z8x rfl ?_))
    (refine Z8y ?_; (repeat (first | refine Z9v rfl ?_ | refine Z9w ?_)); refine Z9u ?_)
    refine Z8d ?_
    exact ares rfl (HSub.refl _) ⟨rfl, rfl⟩
  | false =>
    (repeat (first | refine st_q rfl rfl rfl ?_ | refine Z8v rfl (st_q rfl rfl rfl ?_) | refine Z8w rfl ?_ | refine Z8x rfl ?_))
    (refine Z8y ?_; (repeat (first | refine Z9v rfl ?_ | refine Z9w ?_)); refine Z9u ?_)
    refine Z8d ?_
    exact ares rfl (HSub.refl _) ⟨rfl, rfl⟩
end Go.Abs

