/- Part D of a proof: merged by program. -/
import Derived.Test.YtgmefkhincnajaaProg
import Derived.WalkKit
import Derived.Laws.Externs
import Derived.Lib.Bytealg
import Derived.Deep.Slices
import Derived.Test.YtgmefkhincnajaaPkC
import Derived.KernelRfl
namespace Go.Abs
open Go
def Znp : List Z2a := [
  ⟨some 2, .mov, [.c (.bool false)], none⟩]
def Znq : List Z2a := [
  ⟨some 3, .mov, [.t 0], none⟩,
  ⟨some 4, (.bin .neq), [.t 3, .c (.int .i64 10)], none⟩,
  ⟨some 5, .mov, [.t 4], none⟩,
  ⟨some 6, .mov, [.t 0], some (5, true)⟩,
  ⟨some 7, (.bin .neq), [.t 6, .c (.int .i64 11)], some (5, true)⟩,
  ⟨some 8, .pick, [.t 5, .t 7, .c (.bool false)], none⟩,
  ⟨some 9, .mov, [.t 8], none⟩,
  ⟨some 10, .mov, [.t 0], some (9, true)⟩,
  ⟨some 11, (.bin .neq), [.t 10, .c (.int .i64 12)], some (9, true)⟩,
  ⟨some 12, .pick, [.t 9, .t 11, .c (.bool false)], none⟩,
  ⟨some 13, .mov, [.t 12], none⟩,
  ⟨some 14, .mov, [.t 0], some (13, true)⟩,
  ⟨some 15, (.bin .neq), [.t 14, .c (.int .i64 13)], some (13, true)⟩,
  ⟨some 16, .pick, [.t 13, .t 15, .c (.bool false)], none⟩,
  ⟨some 2, .mov, [.t 16], none⟩]
def Znr : Z2y := ⟨17, (.seq (.region Znp [0, 6, 7, 10, 11, 14, 15]) (.seq (.region Znq [2]) .ret)), [.t 2]⟩
def Zns : List Z2a := [
  ⟨some 2, (.box 6), [.t 0], none⟩,
  ⟨some 3, (.box 5), [.t 1], none⟩,
  ⟨some 4, .mov, [.c (.int .i64 0)], none⟩]
def Znt : List Z2a := [
  ⟨some 8, (.fad 0), [.t 3], none⟩,
  ⟨some 9, (.load false 1), [.t 8], none⟩]
def Znu : List Z2a := [
  ⟨some 10, (.fad 1), [.t 3], none⟩,
  ⟨some 11, (.load false 1), [.t 10], none⟩,
  ⟨some 12, (.bin .neq), [.t 11, .c (.int .i64 0)], none⟩,
  ⟨some 13, .mov, [.t 12], none⟩,
  ⟨some 14, (.fad 2), [.t 3], some (13, false)⟩,
  ⟨some 15, (.load false 1), [.t 14], some (13, false)⟩,
  ⟨some 16, (.bin .neq), [.t 15, .c (.int .i64 0)], some (13, false)⟩,
  ⟨some 17, .pick, [.t 13, .c (.bool true), .t 16], none⟩,
  ⟨some 18, .mov, [.t 17], none⟩,
  ⟨some 19, (.fad 3), [.t 3], some (18, false)⟩,
  ⟨some 20, (.load false 1), [.t 19], some (18, false)⟩,
  ⟨some 21, .lens, [.t 20], some (18, false)⟩,
  ⟨some 22, (.bin .gtr), [.t 21, .c (.int .i64 0)], some (18, false)⟩,
  ⟨some 23, .pick, [.t 18, .c (.bool true), .t 22], none⟩,
  ⟨some 24, .mov, [.t 23], none⟩,
  ⟨some 25, (.fad 4), [.t 3], some (24, false)⟩,
  ⟨some 26, (.load false 1), [.t 25], some (24, false)⟩,
  ⟨some 27, .lens, [.t 26], some (24, false)⟩,
  ⟨some 28, (.bin .gtr), [.t 27, .c (.int .i64 0)], some (24, false)⟩,
  ⟨some 29, .pick, [.t 24, .c (.bool true), .t 28], none⟩]
def Znv : List Z2a := [
  ⟨some 4, .mov, [.c (.int .i64 1)], none⟩]
def Znw : List Z2a := [
  ⟨some 4, .mov, [.c (.int .i64 0)], none⟩]
def Znx : List Z2a := [
  ⟨some 30, (.load true 6), [.t 2], none⟩,
  ⟨some 31, (.fad 1), [.t 3], none⟩,
  ⟨some 32, (.load false 1), [.t 31], none⟩,
  ⟨some 33, (.fad 2), [.t 3], none⟩,
  ⟨some 34, (.load false 1), [.t 33], none⟩,
  ⟨some 35, (.call Zeo), [.t 30, .t 32, .t 34], none⟩,
  ⟨some 36, .unot, [.t 35], none⟩,
  ⟨some 37, .mov, [.t 36], none⟩,
  ⟨some 38, (.fad 3), [.t 3], some (37, false)⟩,
  ⟨some 39, (.load false 1), [.t 38], some (37, false)⟩,
  ⟨some 40, .lens, [.t 39], some (37, false)⟩,
  ⟨some 41, (.bin .gtr), [.t 40, .c (.int .i64 0)], some (37, false)⟩,
  ⟨some 42, .mov, [.t 41], some (37, false)⟩,
  ⟨some 43, (.fad 0), [.t 2], some (42, true)⟩,
  ⟨some 44, (.load false 1), [.t 43], some (42, true)⟩,
  ⟨some 45, (.call Zea), [.t 44], some (42, true)⟩,
  ⟨some 46, .unot, [.t 45], some (42, true)⟩,
  ⟨some 47, .pick, [.t 42, .t 46, .c (.bool false)], some (37, false)⟩,
  ⟨some 48, .pick, [.t 37, .c (.bool true), .t 47], none⟩,
  ⟨some 49, .mov, [.t 48], none⟩,
  ⟨some 50, (.fad 4), [.t 3], some (49, false)⟩,
  ⟨some 51, (.load false 1), [.t 50], some (49, false)⟩,
  ⟨some 52, .lens, [.t 51], some (49, false)⟩,
  ⟨some 53, (.bin .gtr), [.t 52, .c (.int .i64 0)], some (49, false)⟩,
  ⟨some 54, .mov, [.t 53], some (49, false)⟩,
  ⟨some 55, (.fad 0), [.t 2], some (54, true)⟩,
  ⟨some 56, (.load false 1), [.t 55], some (54, true)⟩,
  ⟨some 57, (.call Zeb), [.t 56], some (54, true)⟩,
  ⟨some 58, .pick, [.t 54, .t 57, .c (.bool false)], some (49, false)⟩,
  ⟨some 59, .pick, [.t 49, .c (.bool true), .t 58], none⟩]
def Zny : List Z2a := [
  ⟨some 4, .mov, [.c (.int .i64 1)], none⟩]
def Znz : List Z2a := [
  ⟨some 60, (.fad 3), [.t 3], none⟩,
  ⟨some 61, (.load false 1), [.t 60], none⟩,
  ⟨some 62, .lens, [.t 61], none⟩,
  ⟨some 63, (.bin .gtr), [.t 62, .c (.int .i64 4096)], none⟩,
  ⟨some 64, .mov, [.t 63], none⟩,
  ⟨some 65, (.fad 0), [.t 2], some (64, false)⟩,
  ⟨some 66, (.load false 1), [.t 65], some (64, false)⟩,
  ⟨some 67, (.bin .eql), [.t 66, .c (.int .i64 16)], some (64, false)⟩,
  ⟨some 68, .mov, [.t 67], some (64, false)⟩,
  ⟨some 69, (.fad 0), [.t 2], some (68, false)⟩,
  ⟨some 70, (.load false 1), [.t 69], some (68, false)⟩,
  ⟨some 71, (.bin .eql), [.t 70, .c (.int .i64 17)], some (68, false)⟩,
  ⟨some 72, .pick, [.t 68, .c (.bool true), .t 71], some (64, false)⟩,
  ⟨some 73, .mov, [.t 72], some (64, false)⟩,
  ⟨some 74, (.fad 3), [.t 3], some (73, true)⟩,
  ⟨some 75, (.load false 1), [.t 74], some (73, true)⟩,
  ⟨some 76, (.callp Zep), [.t 75], some (73, true)⟩,
  ⟨some 77, (.fad 3), [.t 2], some (73, true)⟩,
  ⟨some 78, (.load false 1), [.t 77], some (73, true)⟩,
  ⟨some 79, (.bin .gtr), [.t 76, .t 78], some (73, true)⟩,
  ⟨some 80, .pick, [.t 73, .t 79, .c (.bool false)], some (64, false)⟩,
  ⟨some 81, .pick, [.t 64, .c (.bool true), .t 80], none⟩]
def Zo0 : List Z2a := [
  ⟨some 4, .mov, [.c (.int .i64 4)], none⟩]
def Zo1 : List Z2a := [
  ⟨some 82, (.fad 4), [.t 3], none⟩,
  ⟨some 83, (.load false 1), [.t 82], none⟩,
  ⟨some 84, .lens, [.t 83], none⟩,
  ⟨some 5, .mov, [.t 84], none⟩]
def Zo2 : List Z2a := [
  ⟨some 85, (.fad 0), [.t 2], none⟩,
  ⟨some 86, (.load false 1), [.t 85], none⟩]
def Zo3 : List Z2a := [
  ⟨some 88, (.bin .eql), [.t 86, .c (.int .i64 10)], none⟩,
  ⟨some 87, .mov, [.t 88], none⟩]
def Zo4 : List Z2a := [
  ⟨some 89, .mov, [.t 5], none⟩,
  ⟨some 90, (.bin .gtr), [.t 89, .c (.int .i64 16384)], none⟩]
def Zo5 : List Z2a := [
  ⟨some 4, .mov, [.c (.int .i64 4)], none⟩]
def Zo6 : List Z2a := [
  ⟨some 92, (.bin .eql), [.t 86, .c (.int .i64 11)], none⟩,
  ⟨some 91, .mov, [.t 92], none⟩]
def Zo7 : List Z2a := [
  ⟨some 93, .mov, [.t 5], none⟩,
  ⟨some 94, (.bin .rem), [.t 93, .c (.int .i64 2)], none⟩,
  ⟨some 95, (.bin .neq), [.t 94, .c (.int .i64 0)], none⟩]
def Zo8 : List Z2a := [
  ⟨some 4, .mov, [.c (.int .i64 1)], none⟩]
def Zo9 : List Z2a := [
  ⟨some 96, .mov, [.t 5], none⟩,
  ⟨some 97, (.bin .gtr), [.t 96, .c (.int .i64 32768)], none⟩]
def Zoa : List Z2a := [
  ⟨some 4, .mov, [.c (.int .i64 4)], none⟩]
def Zob : List Z2a := [
  ⟨some 99, (.bin .eql), [.t 86, .c (.int .i64 12)], none⟩,
  ⟨some 98, .mov, [.t 99], none⟩]
def Zoc : List Z2a := [
  ⟨some 100, .mov, [.t 5], none⟩,
  ⟨some 101, (.fad 2), [.t 2], none⟩,
  ⟨some 102, (.load false 1), [.t 101], none⟩,
  ⟨some 103, .lens, [.t 102], none⟩,
  ⟨some 104, (.bin .neq), [.t 100, .t 103], none⟩]
def Zod : List Z2a := [
  ⟨some 4, .mov, [.c (.int .i64 1)], none⟩]
def Zoe : List Z2a := [
  ⟨some 106, (.bin .eql), [.t 86, .c (.int .i64 13)], none⟩,
  ⟨some 105, .mov, [.t 106], none⟩]
def Zof : List Z2a := [
  ⟨some 107, .mov, [.t 5], none⟩,
  ⟨some 108, (.bin .neq), [.t 107, .c (.int .i64 1)], none⟩]
def Zog : List Z2a := [
  ⟨some 4, .mov, [.c (.int .i64 1)], none⟩]
def Zoh : List Z2a := [
  ⟨some 6, .mov, [.c (.int .i64 0)], none⟩]
def Zoi : List Z2a := [
  ⟨some 109, .mov, [.t 6], none⟩,
  ⟨some 110, .mov, [.t 5], none⟩,
  ⟨some 111, (.bin .lss), [.t 109, .t 110], none⟩]
def Zoj : List Z2a := [
  ⟨some 114, (.fad 0), [.t 2], none⟩,
  ⟨some 115, (.load false 1), [.t 114], none⟩,
  ⟨some 116, (.bin .eql), [.t 115, .c (.int .i64 11)], none⟩,
  ⟨some 117, .mov, [.t 116], none⟩,
  ⟨some 118, .mov, [.t 6], some (117, true)⟩,
  ⟨some 119, (.bin .rem), [.t 118, .c (.int .i64 2)], some (117, true)⟩,
  ⟨some 120, (.bin .eql), [.t 119, .c (.int .i64 0)], some (117, true)⟩,
  ⟨some 121, .pick, [.t 117, .t 120, .c (.bool false)], none⟩,
  ⟨some 122, .mov, [.t 121], none⟩,
  ⟨some 123, (.fad 4), [.t 3], some (122, true)⟩,
  ⟨some 124, (.load false 1), [.t 123], some (122, true)⟩,
  ⟨some 125, .mov, [.t 6], some (122, true)⟩,
  ⟨some 126, (.iad 5), [.t 124, .t 125], some (122, true)⟩,
  ⟨some 127, (.fad 0), [.t 126], some (122, true)⟩,
  ⟨some 128, (.load false 1), [.t 127], some (122, true)⟩,
  ⟨some 129, .pick, [.t 122, .t 128, .c (.bool false)], none⟩]
def Zok : List Z2a := [
  ⟨some 4, .mov, [.c (.int .i64 1)], none⟩]
def Zol : List Z2a := [
  ⟨some 130, (.load true 6), [.t 2], none⟩,
  ⟨some 131, (.load true 5), [.t 3], none⟩,
  ⟨some 132, .mov, [.t 6], none⟩,
  ⟨some 133, (.callp Zeq), [.t 130, .t 131, .t 132], none⟩,
  ⟨some 134, (.fad 4), [.t 3], none⟩,
  ⟨some 135, (.load false 1), [.t 134], none⟩,
  ⟨some 136, .mov, [.t 6], none⟩,
  ⟨some 137, (.iad 5), [.t 135, .t 136], none⟩,
  ⟨some 138, (.load true 5), [.t 137], none⟩,
  ⟨some 139, (.call Zde), [.t 133, .t 138], none⟩,
  ⟨some 7, .mov, [.t 139], none⟩]
def Zom : List Z2a := [
  ⟨some 140, .mov, [.t 7], none⟩,
  ⟨some 141, (.bin .neq), [.t 140, .c (.int .i64 0)], none⟩]
def Zon : List Z2a := [
  ⟨some 142, .mov, [.t 7], none⟩,
  ⟨some 4, .mov, [.t 142], none⟩]
def Zoo : List Z2a := [
  ⟨some 112, .mov, [.t 6], none⟩,
  ⟨some 113, (.bin .add), [.t 112, .c (.int .i64 1)], none⟩,
  ⟨some 6, .mov, [.t 113], none⟩]
def Zop : Z2b := (.seq (.seq (.region Zoi [2, 3, 5, 6, 111, 118, 119, 120, 123, 124, 125, 126, 127, 128]) (.cond (.t 111) .skip (.exit 1))) (.seq (.block 2 (.seq (.seq (.region Zoj [2, 3, 5, 6, 118, 119, 120, 123, 124, 125, 126, 127, 128, 129]) (.cond (.t 129) (.seq (.region Zok [4]) .ret) .skip)) (.seq (.region Zol [2, 3, 5, 6, 7, 118, 119, 120, 123, 124, 125, 126, 127, 128]) (.seq (.region Zom [2, 3, 5, 6, 7, 118, 119, 120, 123, 124, 125, 126, 127, 128, 141]) (.cond (.t 141) (.seq (.region Zon [4]) .ret) .skip))))) (.region Zoo [2, 3, 5, 6, 118, 119, 120, 123, 124, 125, 126, 127, 128])))
def Zoq : List Z2a := [
  ⟨some 4, .mov, [.c (.int .i64 0)], none⟩]
def Zor : Z2y := ⟨143, (.seq (.region Zns [2, 3, 14, 15, 16, 19, 20, 21, 22, 25, 26, 27, 28, 38, 39, 40, 41, 42, 43, 44, 45, 46, 47, 50, 51, 52, 53, 54, 55, 56, 57, 58, 65, 66, 67, 68, 69, 70, 71, 72, 73, 74, 75, 76, 77, 78, 79, 80, 118, 119, 120, 123, 124, 125, 126, 127, 128]) (.seq (.seq (.region Znt [2, 3, 9, 14, 15, 16, 19, 20, 21, 22, 25, 26, 27, 28, 38, 39, 40, 41, 42, 43, 44, 45, 46, 47, 50, 51, 52, 53, 54, 55, 56, 57, 58, 65, 66, 67, 68, 69, 70, 71, 72, 73, 74, 75, 76, 77, 78, 79, 80, 118, 119, 120, 123, 124, 125, 126, 127, 128]) (.cond (.t 9) (.seq (.seq (.region Znu [29]) (.cond (.t 29) (.seq (.region Znv [4]) .ret) .skip)) (.seq (.region Znw [4]) .ret)) .skip)) (.seq (.seq (.region Znx [2, 3, 59, 65, 66, 67, 68, 69, 70, 71, 72, 73, 74, 75, 76, 77, 78, 79, 80, 118, 119, 120, 123, 124, 125, 126, 127, 128]) (.cond (.t 59) (.seq (.region Zny [4]) .ret) .skip)) (.seq (.seq (.region Znz [2, 3, 81, 118, 119, 120, 123, 124, 125, 126, 127, 128]) (.cond (.t 81) (.seq (.region Zo0 [4]) .ret) .skip)) (.seq (.region Zo1 [2, 3, 5, 118, 119, 120, 123, 124, 125, 126, 127, 128]) (.seq (.seq (.region Zo2 [2, 3, 5, 86, 118, 119, 120, 123, 124, 125, 126, 127, 128]) (.block 0 (.seq (.region Zo3 [2, 3, 5, 86, 87, 118, 119, 120, 123, 124, 125, 126, 127, 128]) (.cond (.t 87) (.seq (.region Zo4 [2, 3, 5, 90, 118, 119, 120, 123, 124, 125, 126, 127, 128]) (.cond (.t 90) (.seq (.region Zo5 [4]) .ret) .skip)) (.seq (.region Zo6 [2, 3, 5, 86, 91, 118, 119, 120, 123, 124, 125, 126, 127, 128]) (.cond (.t 91) (.seq (.seq (.region Zo7 [2, 3, 5, 95, 118, 119, 120, 123, 124, 125, 126, 127, 128]) (.cond (.t 95) (.seq (.region Zo8 [4]) .ret) .skip)) (.seq (.region Zo9 [2, 3, 5, 97, 118, 119, 120, 123, 124, 125, 126, 127, 128]) (.cond (.t 97) (.seq (.region Zoa [4]) .ret) .skip))) (.seq (.region Zob [2, 3, 5, 86, 98, 118, 119, 120, 123, 124, 125, 126, 127, 128]) (.cond (.t 98) (.seq (.region Zoc [2, 3, 5, 104, 118, 119, 120, 123, 124, 125, 126, 127, 128]) (.cond (.t 104) (.seq (.region Zod [4]) .ret) .skip)) (.seq (.region Zoe [2, 3, 5, 105, 118, 119, 120, 123, 124, 125, 126, 127, 128]) (.cond (.t 105) (.seq (.region Zof [2, 3, 5, 108, 118, 119, 120, 123, 124, 125, 126, 127, 128]) (.cond (.t 108) (.seq (.region Zog [4]) .ret) .skip)) .skip)))))))))) (.seq (.seq (.region Zoh [2, 3, 5, 6, 118, 119, 120, 123, 124, 125, 126, 127, 128]) (.block 1 (.loop Zop))) (.seq (.region Zoq [4]) .ret)))))))), [.t 4]⟩
def Zos : List Z2a := [
  ⟨some 2, .mov, [.c (.bool false)], none⟩]
def Zot : List Z2a := [
  ⟨some 3, .mov, [.t 0], none⟩,
  ⟨some 4, (.bin .eql), [.t 3, .c (.int .i64 7)], none⟩,
  ⟨some 5, .mov, [.t 4], none⟩,
  ⟨some 6, .mov, [.t 0], some (5, false)⟩,
  ⟨some 7, (.bin .eql), [.t 6, .c (.int .i64 16)], some (5, false)⟩,
  ⟨some 8, .pick, [.t 5, .c (.bool true), .t 7], none⟩,
  ⟨some 9, .mov, [.t 8], none⟩,
  ⟨some 10, .mov, [.t 0], some (9, false)⟩,
  ⟨some 11, (.bin .eql), [.t 10, .c (.int .i64 17)], some (9, false)⟩,
  ⟨some 12, .pick, [.t 9, .c (.bool true), .t 11], none⟩,
  ⟨some 13, .mov, [.t 12], none⟩,
  ⟨some 14, .mov, [.t 0], some (13, false)⟩,
  ⟨some 15, (.bin .eql), [.t 14, .c (.int .i64 8)], some (13, false)⟩,
  ⟨some 16, .pick, [.t 13, .c (.bool true), .t 15], none⟩,
  ⟨some 2, .mov, [.t 16], none⟩]
def Zou : Z2y := ⟨17, (.seq (.region Zos [0, 6, 7, 10, 11, 14, 15]) (.seq (.region Zot [2]) .ret)), [.t 2]⟩
def Zov : List Z2a := [
  ⟨some 3, (.box 6), [.t 0], none⟩,
  ⟨some 4, (.box 5), [.t 1], none⟩,
  ⟨some 5, (.box 5), [.t 2], none⟩,
  ⟨some 6, .mov, [.c (.int .i64 0)], none⟩,
  ⟨some 7, .mov, [.c (.bool false)], none⟩]
def Zow : List Z2a := [
  ⟨some 9, (.fad 0), [.t 3], none⟩,
  ⟨some 10, (.load false 1), [.t 9], none⟩,
  ⟨some 11, (.call Zfd), [.t 10], none⟩,
  ⟨some 12, .unot, [.t 11], none⟩,
  ⟨some 13, .mov, [.t 12], none⟩,
  ⟨some 14, (.fad 0), [.t 4], some (13, false)⟩,
  ⟨some 15, (.load false 1), [.t 14], some (13, false)⟩,
  ⟨some 16, .pick, [.t 13, .c (.bool true), .t 15], none⟩,
  ⟨some 17, .mov, [.t 16], none⟩,
  ⟨some 18, (.fad 0), [.t 5], some (17, false)⟩,
  ⟨some 19, (.load false 1), [.t 18], some (17, false)⟩,
  ⟨some 20, .pick, [.t 17, .c (.bool true), .t 19], none⟩,
  ⟨some 8, .mov, [.t 20], none⟩]
def Zox : List Z2a := [
  ⟨some 6, .mov, [.c (.int .i64 0)], none⟩,
  ⟨some 7, .mov, [.c (.bool false)], none⟩]
def Zoy : List Z2a := [
  ⟨some 22, (.fad 0), [.t 3], none⟩,
  ⟨some 23, (.load false 1), [.t 22], none⟩,
  ⟨some 24, (.call Zfi), [.t 23], none⟩,
  ⟨some 21, .mov, [.t 24], none⟩]
def Zoz : List Z2a := [
  ⟨some 25, (.fad 3), [.t 4], none⟩,
  ⟨some 26, (.load false 1), [.t 25], none⟩,
  ⟨some 27, (.fad 3), [.t 5], none⟩,
  ⟨some 28, (.load false 1), [.t 27], none⟩,
  ⟨some 29, (.call Zfj), [.t 26, .t 28], none⟩,
  ⟨some 6, .mov, [.t 29], none⟩,
  ⟨some 7, .mov, [.c (.bool true)], none⟩]
def Zp0 : List Z2a := [
  ⟨some 30, (.fad 1), [.t 4], none⟩,
  ⟨some 31, (.load false 1), [.t 30], none⟩,
  ⟨some 32, (.fad 1), [.t 5], none⟩,
  ⟨some 33, (.load false 1), [.t 32], none⟩,
  ⟨some 34, (.callp Zfl), [.t 31, .t 33], none⟩,
  ⟨some 35, (.fad 2), [.t 4], none⟩,
  ⟨some 36, (.load false 1), [.t 35], none⟩,
  ⟨some 37, (.fad 2), [.t 5], none⟩,
  ⟨some 38, (.load false 1), [.t 37], none⟩,
  ⟨some 39, (.call Zfm), [.t 36, .t 38], none⟩,
  ⟨some 40, (.bsl 1), [.t 34, .t 39], none⟩,
  ⟨some 41, (.call Zfk), [.t 40], none⟩,
  ⟨some 6, .mov, [.t 41], none⟩,
  ⟨some 7, .mov, [.c (.bool true)], none⟩]
def Zp1 : Z2y := ⟨42, (.seq (.region Zov [3, 4, 5, 14, 15, 18, 19]) (.seq (.block 0 (.seq (.region Zow [3, 4, 5, 8]) (.cond (.t 8) (.seq (.region Zox [6, 7]) .ret) (.seq (.region Zoy [4, 5, 21]) (.cond (.t 21) (.seq (.region Zoz [6, 7]) .ret) .skip))))) (.seq (.region Zp0 [6, 7]) .ret))), [.t 6, .t 7]⟩
def Zp2 : List Z2a := [
  ⟨some 3, (.box 6), [.t 0], none⟩,
  ⟨some 6, .mov, [.c (.bool false)], none⟩]
def Zp3 : List Z2a := [
  ⟨some 7, .mov, [.t 2], none⟩,
  ⟨some 8, (.bin .neq), [.t 7, .c (.int .i64 0)], none⟩,
  ⟨some 9, .mov, [.t 8], none⟩,
  ⟨some 10, (.fad 0), [.t 3], some (9, true)⟩,
  ⟨some 11, (.load false 1), [.t 10], some (9, true)⟩,
  ⟨some 12, (.bin .neq), [.t 11, .c (.int .i64 9)], some (9, true)⟩,
  ⟨some 13, .pick, [.t 9, .t 12, .c (.bool false)], none⟩]
def Zp4 : List Z2a := [
  ⟨some 6, .mov, [.c (.bool false)], none⟩]
def Zp5 : List Z2a := [
  ⟨some 14, (.fad 0), [.t 3], none⟩,
  ⟨some 15, (.load false 1), [.t 14], none⟩]
def Zp6 : List Z2a := [
  ⟨some 17, (.bin .eql), [.t 15, .c (.int .i64 0)], none⟩,
  ⟨some 16, .mov, [.t 17], none⟩]
def Zp7 : List Z2a := [
  ⟨some 18, .mov, [.t 1], none⟩,
  ⟨some 19, (.bin .eql), [.t 18, .c (.int .i64 0)], none⟩,
  ⟨some 20, .mov, [.t 19], none⟩,
  ⟨some 21, .mov, [.t 1], some (20, false)⟩,
  ⟨some 22, (.bin .eql), [.t 21, .c (.int .i64 1)], some (20, false)⟩,
  ⟨some 23, .pick, [.t 20, .c (.bool true), .t 22], none⟩,
  ⟨some 6, .mov, [.t 23], none⟩]
def Zp8 : List Z2a := [
  ⟨some 25, (.bin .eql), [.t 15, .c (.int .i64 1)], none⟩,
  ⟨some 24, .mov, [.t 25], none⟩]
def Zp9 : List Z2a := [
  ⟨some 26, .mov, [.t 1], none⟩,
  ⟨some 27, (.bin .geq), [.t 26, .c (.int .i64 (-128))], none⟩,
  ⟨some 28, .mov, [.t 27], none⟩,
  ⟨some 29, .mov, [.t 1], some (28, true)⟩,
  ⟨some 30, (.bin .leq), [.t 29, .c (.int .i64 127)], some (28, true)⟩,
  ⟨some 31, .pick, [.t 28, .t 30, .c (.bool false)], none⟩,
  ⟨some 6, .mov, [.t 31], none⟩]
def Zpa : List Z2a := [
  ⟨some 33, (.bin .eql), [.t 15, .c (.int .i64 2)], none⟩,
  ⟨some 32, .mov, [.t 33], none⟩]
def Zpb : List Z2a := [
  ⟨some 34, .mov, [.t 1], none⟩,
  ⟨some 35, (.bin .geq), [.t 34, .c (.int .i64 (-32768))], none⟩,
  ⟨some 36, .mov, [.t 35], none⟩,
  ⟨some 37, .mov, [.t 1], some (36, true)⟩,
  ⟨some 38, (.bin .leq), [.t 37, .c (.int .i64 32767)], some (36, true)⟩,
  ⟨some 39, .pick, [.t 36, .t 38, .c (.bool false)], none⟩,
  ⟨some 6, .mov, [.t 39], none⟩]
def Zpc : List Z2a := [
  ⟨some 41, (.bin .eql), [.t 15, .c (.int .i64 3)], none⟩,
  ⟨some 40, .mov, [.t 41], none⟩]
def Zpd : List Z2a := [
  ⟨some 42, (.bin .eql), [.t 15, .c (.int .i64 15)], none⟩,
  ⟨some 40, .mov, [.t 42], none⟩]
def Zpe : List Z2a := [
  ⟨some 43, .mov, [.t 1], none⟩,
  ⟨some 44, (.bin .geq), [.t 43, .c (.int .i64 (-2147483648))], none⟩,
  ⟨some 45, .mov, [.t 44], none⟩,
  ⟨some 46, .mov, [.t 1], some (45, true)⟩,
  ⟨some 47, (.bin .leq), [.t 46, .c (.int .i64 2147483647)], some (45, true)⟩,
  ⟨some 48, .pick, [.t 45, .t 47, .c (.bool false)], none⟩,
  ⟨some 6, .mov, [.t 48], none⟩]
def Zpf : List Z2a := [
  ⟨some 50, (.bin .eql), [.t 15, .c (.int .i64 4)], none⟩,
  ⟨some 49, .mov, [.t 50], none⟩]
def Zpg : List Z2a := [
  ⟨some 6, .mov, [.c (.bool true)], none⟩]
def Zph : List Z2a := [
  ⟨some 52, (.bin .eql), [.t 15, .c (.int .i64 14)], none⟩,
  ⟨some 51, .mov, [.t 52], none⟩]
def Zpi : List Z2a := [
  ⟨some 53, .mov, [.t 1], none⟩,
  ⟨some 54, (.callp Zfn), [.t 53], none⟩,
  ⟨some 55, (.fad 4), [.t 3], none⟩,
  ⟨some 56, (.load false 1), [.t 55], none⟩,
  ⟨some 57, (.bin .leq), [.t 54, .t 56], none⟩,
  ⟨some 6, .mov, [.t 57], none⟩]
def Zpj : List Z2a := [
  ⟨some 59, (.bin .eql), [.t 15, .c (.int .i64 9)], none⟩,
  ⟨some 58, .mov, [.t 59], none⟩]
def Zpk : List Z2a := [
  ⟨some 60, .mov, [.t 1], none⟩,
  ⟨some 61, .mov, [.t 2], none⟩,
  ⟨some 62, (.call Zfo), [.t 60, .t 61], none⟩,
  ⟨some 6, .mov, [.t 62], none⟩]
def Zpl : List Z2a := [
  ⟨some 64, (.bin .eql), [.t 15, .c (.int .i64 13)], none⟩,
  ⟨some 63, .mov, [.t 64], none⟩]
def Zpm : List Z2a := [
  ⟨some 65, .mov, [.t 1], none⟩,
  ⟨some 66, (.bin .geq), [.t 65, .c (.int .i64 0)], none⟩,
  ⟨some 67, .mov, [.t 66], none⟩,
  ⟨some 68, .mov, [.t 1], some (67, true)⟩,
  ⟨some 69, (.fad 2), [.t 3], some (67, true)⟩,
  ⟨some 70, (.load false 1), [.t 69], some (67, true)⟩,
  ⟨some 71, .lens, [.t 70], some (67, true)⟩,
  ⟨some 72, (.bin .lss), [.t 68, .t 71], some (67, true)⟩,
  ⟨some 73, .pick, [.t 67, .t 72, .c (.bool false)], none⟩,
  ⟨some 6, .mov, [.t 73], none⟩]
def Zpn : List Z2a := [
  ⟨some 74, .mov, [.t 1], none⟩,
  ⟨some 75, (.bin .eql), [.t 74, .c (.int .i64 0)], none⟩,
  ⟨some 6, .mov, [.t 75], none⟩]
def Zpo : Z2y := ⟨76, (.seq (.region Zp2 [1, 2, 3, 10, 11, 12, 21, 22, 29, 30, 37, 38, 46, 47, 68, 69, 70, 71, 72]) (.seq (.seq (.region Zp3 [1, 2, 3, 13, 21, 22, 29, 30, 37, 38, 46, 47, 68, 69, 70, 71, 72]) (.cond (.t 13) (.seq (.region Zp4 [6]) .ret) .skip)) (.seq (.seq (.region Zp5 [1, 2, 3, 15, 21, 22, 29, 30, 37, 38, 46, 47, 68, 69, 70, 71, 72]) (.block 0 (.seq (.region Zp6 [1, 2, 3, 15, 16, 21, 22, 29, 30, 37, 38, 46, 47, 68, 69, 70, 71, 72]) (.cond (.t 16) (.seq (.region Zp7 [6]) .ret) (.seq (.region Zp8 [1, 2, 3, 15, 24, 29, 30, 37, 38, 46, 47, 68, 69, 70, 71, 72]) (.cond (.t 24) (.seq (.region Zp9 [6]) .ret) (.seq (.region Zpa [1, 2, 3, 15, 32, 37, 38, 46, 47, 68, 69, 70, 71, 72]) (.cond (.t 32) (.seq (.region Zpb [6]) .ret) (.seq (.seq (.region Zpc [1, 2, 3, 15, 40, 46, 47, 68, 69, 70, 71, 72]) (.cond (.t 40) .skip (.region Zpd [1, 2, 3, 15, 40, 46, 47, 68, 69, 70, 71, 72]))) (.cond (.t 40) (.seq (.region Zpe [6]) .ret) (.seq (.region Zpf [1, 2, 3, 15, 49, 68, 69, 70, 71, 72]) (.cond (.t 49) (.seq (.region Zpg [6]) .ret) (.seq (.region Zph [1, 2, 3, 15, 51, 68, 69, 70, 71, 72]) (.cond (.t 51) (.seq (.region Zpi [6]) .ret) (.seq (.region Zpj [1, 2, 3, 15, 58, 68, 69, 70, 71, 72]) (.cond (.t 58) (.seq (.region Zpk [6]) .ret) (.seq (.region Zpl [1, 3, 63, 68, 69, 70, 71, 72]) (.cond (.t 63) (.seq (.region Zpm [6]) .ret) .skip)))))))))))))))))) (.seq (.region Zpn [6]) .ret)))), [.t 6]⟩
def Zpp : List Z2a := [
  ⟨some 2, .mov, [.c (.int .i64 0)], none⟩]
def Zpq : List Z2a := [
  ⟨some 3, .mov, [.c (.int .i64 0)], none⟩]
def Zpr : List Z2a := [
  ⟨some 4, .mov, [.c (.int .i64 0)], none⟩]
def Zps : List Z2a := [
  ⟨some 5, .mov, [.t 4], none⟩,
  ⟨some 6, .mov, [.t 0], none⟩,
  ⟨some 7, .lens, [.t 6], none⟩,
  ⟨some 8, (.bin .lss), [.t 5, .t 7], none⟩]
def Zpt : List Z2a := [
  ⟨some 11, .mov, [.t 0], none⟩,
  ⟨some 12, .mov, [.t 4], none⟩,
  ⟨some 13, (.iad 1), [.t 11, .t 12], none⟩,
  ⟨some 14, (.load false 1), [.t 13], none⟩,
  ⟨some 15, (.bin .shr), [.t 14, .c (.int .u64 6)], none⟩,
  ⟨some 16, (.bin .neq), [.t 15, .c (.int .u8 2)], none⟩]
def Zpu : List Z2a := [
  ⟨some 17, .mov, [.t 3], none⟩,
  ⟨some 18, (.bin .add), [.t 17, .c (.int .i64 1)], none⟩,
  ⟨some 3, .mov, [.t 18], none⟩]
def Zpv : List Z2a := [
  ⟨some 9, .mov, [.t 4], none⟩,
  ⟨some 10, (.bin .add), [.t 9, .c (.int .i64 1)], none⟩,
  ⟨some 4, .mov, [.t 10], none⟩]
def Zpw : Z2b := (.seq (.seq (.region Zps [0, 3, 4, 8]) (.cond (.t 8) .skip (.exit 0))) (.seq (.block 1 (.seq (.region Zpt [0, 3, 4, 16]) (.cond (.t 16) (.region Zpu [0, 3, 4]) .skip))) (.region Zpv [0, 3, 4])))
def Zpx : List Z2a := [
  ⟨some 19, .mov, [.t 3], none⟩,
  ⟨some 2, .mov, [.t 19], none⟩]
def Zpy : Z2y := ⟨20, (.seq (.region Zpp [0]) (.seq (.region Zpq [0, 3]) (.seq (.seq (.region Zpr [0, 3, 4]) (.block 0 (.loop Zpw))) (.seq (.region Zpx [2]) .ret)))), [.t 2]⟩
def Zpz : List Z2a := [
  ⟨some 3, (.box 6), [.t 0], none⟩,
  ⟨some 4, (.box 5), [.t 1], none⟩,
  ⟨some 6, (.alloc (.agg [(.int .i64 0), (.slc 0 [] true), (.slc 0 [] true), (.int .i64 0), (.int .i64 0), (.int .i64 0)])), [], none⟩]
def Zq0 : List Z2a := [
  ⟨some 7, (.fad 0), [.t 3], none⟩,
  ⟨some 8, (.load false 1), [.t 7], none⟩]
def Zq1 : List Z2a := [
  ⟨some 10, (.bin .eql), [.t 8, .c (.int .i64 10)], none⟩,
  ⟨some 9, .mov, [.t 10], none⟩]
def Zq2 : List Z2a := [
  ⟨some 11, (.fad 2), [.t 3], none⟩,
  ⟨some 12, (.load false 1), [.t 11], none⟩,
  ⟨some 13, (.iad 6), [.t 12, .c (.int .i64 0)], none⟩,
  ⟨some 14, (.load true 6), [.t 13], none⟩,
  ⟨none, (.store 6), [.t 6, .t 14], none⟩]
def Zq3 : List Z2a := [
  ⟨some 16, (.bin .eql), [.t 8, .c (.int .i64 11)], none⟩,
  ⟨some 15, .mov, [.t 16], none⟩]
def Zq4 : List Z2a := [
  ⟨some 17, (.fad 2), [.t 3], none⟩,
  ⟨some 18, (.load false 1), [.t 17], none⟩,
  ⟨some 19, .mov, [.t 2], none⟩,
  ⟨some 20, (.bin .rem), [.t 19, .c (.int .i64 2)], none⟩,
  ⟨some 21, (.iad 6), [.t 18, .t 20], none⟩,
  ⟨some 22, (.load true 6), [.t 21], none⟩,
  ⟨none, (.store 6), [.t 6, .t 22], none⟩]
def Zq5 : List Z2a := [
  ⟨some 24, (.bin .eql), [.t 8, .c (.int .i64 13)], none⟩,
  ⟨some 23, .mov, [.t 24], none⟩]
def Zq6 : List Z2a := [
  ⟨some 25, (.fad 2), [.t 3], none⟩,
  ⟨some 26, (.load false 1), [.t 25], none⟩,
  ⟨some 27, (.fad 1), [.t 4], none⟩,
  ⟨some 28, (.load false 1), [.t 27], none⟩,
  ⟨some 29, (.iad 6), [.t 26, .t 28], none⟩,
  ⟨some 30, (.load true 6), [.t 29], none⟩,
  ⟨none, (.store 6), [.t 6, .t 30], none⟩]
def Zq7 : List Z2a := [
  ⟨some 31, (.fad 2), [.t 3], none⟩,
  ⟨some 32, (.load false 1), [.t 31], none⟩,
  ⟨some 33, .mov, [.t 2], none⟩,
  ⟨some 34, (.iad 6), [.t 32, .t 33], none⟩,
  ⟨some 35, (.load true 6), [.t 34], none⟩,
  ⟨none, (.store 6), [.t 6, .t 35], none⟩]
def Zq8 : Z2y := ⟨36, (.seq (.region Zpz [2, 3, 4, 6]) (.seq (.seq (.region Zq0 [2, 3, 4, 6, 8]) (.block 0 (.seq (.region Zq1 [2, 3, 4, 6, 8, 9]) (.cond (.t 9) (.seq (.region Zq2 [6]) .ret) (.seq (.region Zq3 [2, 3, 4, 6, 8, 15]) (.cond (.t 15) (.seq (.region Zq4 [6]) .ret) (.seq (.region Zq5 [2, 3, 4, 6, 23]) (.cond (.t 23) (.seq (.region Zq6 [6]) .ret) .skip)))))))) (.seq (.region Zq7 [6]) .ret))), [.cell 6 true 6]⟩
def Zq9 : List Z2a := [
  ⟨some 1, (.box 5), [.t 0], none⟩,
  ⟨some 2, (.alloc (.agg [(.bool false), (.int .i64 0), (.int .i64 0), (.slc 0 [] true), (.slc 0 [] true)])), [], none⟩]
def Zqa : List Z2a := [
  ⟨some 6, (.fad 3), [.t 1], none⟩,
  ⟨some 7, (.load false 1), [.t 6], none⟩,
  ⟨some 8, (.call Zfq), [.t 7], none⟩,
  ⟨some 9, (.call Zfp), [.t 8], none⟩,
  ⟨some 10, (.fad 3), [.t 1], none⟩,
  ⟨none, (.store 1), [.t 10, .t 9], none⟩]
def Zqb : List Z2a := [
  ⟨some 3, .mov, [.c (.slc 0 [] true)], none⟩]
def Zqc : List Z2a := [
  ⟨some 11, (.fad 4), [.t 1], none⟩,
  ⟨some 12, (.load false 1), [.t 11], none⟩,
  ⟨some 13, .lens, [.t 12], none⟩,
  ⟨some 14, .mov, [.c (.int .i64 0)], none⟩]
def Zqd : List Z2a := [
  ⟨some 15, (.bin .lss), [.t 14, .t 13], none⟩]
def Zqe : List Z2a := [
  ⟨some 16, (.iad 5), [.t 12, .t 14], none⟩,
  ⟨some 17, (.load true 5), [.t 16], none⟩,
  ⟨some 5, (.alloc (.agg [(.bool false), (.int .i64 0), (.int .i64 0), (.slc 0 [] true), (.slc 0 [] true)])), [], none⟩,
  ⟨none, (.store 5), [.t 5, .t 17], none⟩]
def Zqf : List Z2a := [
  ⟨some 18, .mov, [.t 3], none⟩,
  ⟨some 19, (.load true 5), [.t 5], none⟩,
  ⟨some 20, (.call Zer), [.t 19], none⟩,
  ⟨some 21, (.bsl 5), [.t 20], none⟩,
  ⟨some 22, (.app 5 72), [.t 18, .t 21], none⟩,
  ⟨some 3, .mov, [.t 22], none⟩]
def Zqg : List Z2a := [
  ⟨some 23, (.bin .add), [.t 14, .c (.int .i64 1)], none⟩,
  ⟨some 14, .mov, [.t 23], none⟩]
def Zqh : Z2b := (.seq (.region Zqd [1, 2, 3, 12, 13, 14, 15]) (.seq (.cond (.t 15) .skip (.exit 0)) (.seq (.block 1 (.seq (.region Zqe [1, 2, 3, 5, 12, 13, 14]) (.region Zqf [1, 2, 3, 12, 13, 14]))) (.region Zqg [1, 2, 3, 12, 13, 14]))))
def Zqi : List Z2a := [
  ⟨some 24, .mov, [.t 3], none⟩,
  ⟨some 25, (.call Zfr), [.t 24], none⟩,
  ⟨some 26, (.fad 4), [.t 1], none⟩,
  ⟨none, (.store 1), [.t 26, .t 25], none⟩]
def Zqj : List Z2a := [
  ⟨some 27, (.load true 5), [.t 1], none⟩,
  ⟨none, (.store 5), [.t 2, .t 27], none⟩]
def Zqk : Z2y := ⟨28, (.seq (.region Zq9 [1, 2]) (.seq (.region Zqa [1, 2]) (.seq (.region Zqb [1, 2, 3]) (.seq (.seq (.region Zqc [1, 2, 3, 12, 13, 14]) (.block 0 (.loop Zqh))) (.seq (.region Zqi [1, 2]) (.seq (.region Zqj [2]) .ret)))))), [.cell 2 true 5]⟩
def Zql : List Z2a := [
  ⟨some 2, .mov, [.c (.bool false)], none⟩]
def Zqm : List Z2a := [
  ⟨some 3, .mov, [.t 0], none⟩]
def Zqn : List Z2a := [
  ⟨some 5, (.bin .eql), [.t 3, .c (.int .i64 7)], none⟩,
  ⟨some 4, .mov, [.t 5], none⟩]
def Zqo : List Z2a := [
  ⟨some 6, (.bin .eql), [.t 3, .c (.int .i64 8)], none⟩,
  ⟨some 4, .mov, [.t 6], none⟩]
def Zqp : List Z2a := [
  ⟨some 8, (.bin .eql), [.t 3, .c (.int .i64 16)], none⟩,
  ⟨some 7, .mov, [.t 8], none⟩]
def Zqq : List Z2a := [
  ⟨some 9, (.bin .eql), [.t 3, .c (.int .i64 17)], none⟩,
  ⟨some 7, .mov, [.t 9], none⟩]
def Zqr : List Z2a := [
  ⟨some 2, .mov, [.c (.bool true)], none⟩]
def Zqs : List Z2a := [
  ⟨some 2, .mov, [.c (.bool false)], none⟩]
def Zqt : Z2y := ⟨10, (.seq (.region Zql [0]) (.seq (.seq (.region Zqm [3]) (.block 0 (.seq (.block 2 (.block 1 (.seq (.seq (.seq (.seq (.region Zqn [3, 4]) (.cond (.t 4) .skip (.region Zqo [3, 4]))) (.cond (.t 4) (.exit 1) .skip)) (.seq (.seq (.region Zqp [3, 7]) (.cond (.t 7) .skip (.region Zqq [7]))) (.cond (.t 7) (.exit 2) .skip))) (.exit 0)))) (.seq (.seq (.region Zqr [2]) .ret) (.exit 0))))) (.seq (.region Zqs [2]) .ret))), [.t 2]⟩
def Zqu : List Z2a := [
  ⟨some 2, .mov, [.c (.int .i64 0)], none⟩]
def Zqv : List Z2a := [
  ⟨some 3, .mov, [.c (.int .i64 0)], none⟩]
def Zqw : List Z2a := [
  ⟨some 6, .mov, [.t 0], none⟩,
  ⟨some 7, .lens, [.t 6], none⟩,
  ⟨some 8, .mov, [.c (.int .i64 0)], none⟩]
def Zqx : List Z2a := [
  ⟨some 9, (.bin .lss), [.t 8, .t 7], none⟩]
def Zqy : List Z2a := [
  ⟨some 10, (.iad 1), [.t 6, .t 8], none⟩,
  ⟨some 11, (.load false 1), [.t 10], none⟩,
  ⟨some 5, .mov, [.t 11], none⟩]
def Zqz : List Z2a := [
  ⟨some 12, .mov, [.t 5], none⟩,
  ⟨some 13, .mov, [.t 3], none⟩,
  ⟨some 14, (.bin .neq), [.t 12, .t 13], none⟩]
def Zr0 : List Z2a := [
  ⟨some 15, .mov, [.t 5], none⟩,
  ⟨some 2, .mov, [.t 15], none⟩]
def Zr1 : List Z2a := [
  ⟨some 16, (.bin .add), [.t 8, .c (.int .i64 1)], none⟩,
  ⟨some 8, .mov, [.t 16], none⟩]
def Zr2 : Z2b := (.seq (.region Zqx [3, 6, 7, 8, 9]) (.seq (.cond (.t 9) .skip (.exit 0)) (.seq (.block 1 (.seq (.region Zqy [3, 5, 6, 7, 8]) (.seq (.region Zqz [3, 5, 6, 7, 8, 14]) (.cond (.t 14) (.seq (.region Zr0 [2]) .ret) .skip)))) (.region Zr1 [3, 6, 7, 8]))))
def Zr3 : List Z2a := [
  ⟨some 17, .mov, [.t 3], none⟩,
  ⟨some 2, .mov, [.t 17], none⟩]
def Zr4 : Z2y := ⟨18, (.seq (.region Zqu [0]) (.seq (.region Zqv [0, 3]) (.seq (.seq (.region Zqw [3, 6, 7, 8]) (.block 0 (.loop Zr2))) (.seq (.region Zr3 [2]) .ret)))), [.t 2]⟩
def Zr5 : List Z2a := [
  ⟨some 4, .mov, [.c (.int .i64 0)], none⟩]
def Zr6 : List Z2a := [
  ⟨some 7, .mov, [.t 0], none⟩,
  ⟨some 8, (.call Zg7), [.t 7], none⟩,
  ⟨some 5, .mov, [.t 8], none⟩]
def Zr7 : List Z2a := [
  ⟨some 9, .mov, [.t 1], none⟩,
  ⟨some 10, (.call Zg7), [.t 9], none⟩,
  ⟨some 6, .mov, [.t 10], none⟩]
def Zr8 : List Z2a := [
  ⟨some 11, .mov, [.t 5], none⟩]
def Zr9 : List Z2a := [
  ⟨some 12, .mov, [.t 6], none⟩]
def Zra : List Z2a := [
  ⟨some 4, .mov, [.c (.int .i64 0)], none⟩]
def Zrb : List Z2a := [
  ⟨some 4, .mov, [.c (.int .i64 (-1))], none⟩]
def Zrc : List Z2a := [
  ⟨some 13, .mov, [.t 6], none⟩]
def Zrd : List Z2a := [
  ⟨some 4, .mov, [.c (.int .i64 1)], none⟩]
def Zre : List Z2a := [
  ⟨some 14, .mov, [.t 0], none⟩,
  ⟨some 15, .mov, [.t 1], none⟩,
  ⟨some 16, (.bin .lss), [.t 14, .t 15], none⟩]
def Zrf : List Z2a := [
  ⟨some 4, .mov, [.c (.int .i64 (-1))], none⟩]
def Zrg : List Z2a := [
  ⟨some 17, .mov, [.t 0], none⟩,
  ⟨some 18, .mov, [.t 1], none⟩,
  ⟨some 19, (.bin .gtr), [.t 17, .t 18], none⟩]
def Zrh : List Z2a := [
  ⟨some 4, .mov, [.c (.int .i64 1)], none⟩]
def Zri : List Z2a := [
  ⟨some 4, .mov, [.c (.int .i64 0)], none⟩]
def Zrj : Z2y := ⟨20, (.seq (.region Zr5 [0, 1]) (.seq (.region Zr6 [0, 1, 5]) (.seq (.region Zr7 [0, 1, 5, 6]) (.seq (.seq (.region Zr8 [0, 1, 6, 11]) (.cond (.t 11) (.seq (.seq (.region Zr9 [12]) (.cond (.t 12) (.seq (.region Zra [4]) .ret) .skip)) (.seq (.region Zrb [4]) .ret)) .skip)) (.seq (.seq (.region Zrc [0, 1, 13]) (.cond (.t 13) (.seq (.region Zrd [4]) .ret) .skip)) (.seq (.seq (.region Zre [0, 1, 16]) (.cond (.t 16) (.seq (.region Zrf [4]) .ret) .skip)) (.seq (.seq (.region Zrg [19]) (.cond (.t 19) (.seq (.region Zrh [4]) .ret) .skip)) (.seq (.region Zri [4]) .ret)))))))), [.t 4]⟩
def Zrk : List Z2a := [
  ⟨some 4, .mov, [.c (.int .i64 0)], none⟩]
def Zrl : List Z2a := [
  ⟨some 7, .mov, [.t 0], none⟩,
  ⟨some 8, (.call Zg8), [.t 7], none⟩,
  ⟨some 5, .mov, [.t 8], none⟩]
def Zrm : List Z2a := [
  ⟨some 9, .mov, [.t 1], none⟩,
  ⟨some 10, (.call Zg8), [.t 9], none⟩,
  ⟨some 6, .mov, [.t 10], none⟩]
def Zrn : List Z2a := [
  ⟨some 11, .mov, [.t 5], none⟩]
def Zro : List Z2a := [
  ⟨some 12, .mov, [.t 6], none⟩]
def Zrp : List Z2a := [
  ⟨some 4, .mov, [.c (.int .i64 0)], none⟩]
def Zrq : List Z2a := [
  ⟨some 4, .mov, [.c (.int .i64 (-1))], none⟩]
def Zrr : List Z2a := [
  ⟨some 13, .mov, [.t 6], none⟩]
def Zrs : List Z2a := [
  ⟨some 4, .mov, [.c (.int .i64 1)], none⟩]
def Zrt : List Z2a := [
  ⟨some 14, .mov, [.t 0], none⟩,
  ⟨some 15, .mov, [.t 1], none⟩,
  ⟨some 16, (.bin .lss), [.t 14, .t 15], none⟩]
def Zru : List Z2a := [
  ⟨some 4, .mov, [.c (.int .i64 (-1))], none⟩]
def Zrv : List Z2a := [
  ⟨some 17, .mov, [.t 0], none⟩,
  ⟨some 18, .mov, [.t 1], none⟩,
  ⟨some 19, (.bin .gtr), [.t 17, .t 18], none⟩]
def Zrw : List Z2a := [
  ⟨some 4, .mov, [.c (.int .i64 1)], none⟩]
def Zrx : List Z2a := [
  ⟨some 4, .mov, [.c (.int .i64 0)], none⟩]
def Zry : Z2y := ⟨20, (.seq (.region Zrk [0, 1]) (.seq (.region Zrl [0, 1, 5]) (.seq (.region Zrm [0, 1, 5, 6]) (.seq (.seq (.region Zrn [0, 1, 6, 11]) (.cond (.t 11) (.seq (.seq (.region Zro [12]) (.cond (.t 12) (.seq (.region Zrp [4]) .ret) .skip)) (.seq (.region Zrq [4]) .ret)) .skip)) (.seq (.seq (.region Zrr [0, 1, 13]) (.cond (.t 13) (.seq (.region Zrs [4]) .ret) .skip)) (.seq (.seq (.region Zrt [0, 1, 16]) (.cond (.t 16) (.seq (.region Zru [4]) .ret) .skip)) (.seq (.seq (.region Zrv [19]) (.cond (.t 19) (.seq (.region Zrw [4]) .ret) .skip)) (.seq (.region Zrx [4]) .ret)))))))), [.t 4]⟩
def Zrz : List Z2a := [
  ⟨some 2, .mov, [.c (.int .i64 0)], none⟩]
def Zs0 : List Z2a := [
  ⟨some 3, .mov, [.t 0], none⟩,
  ⟨some 4, (.call Zga), [.t 3], none⟩,
  ⟨some 5, (.call Zg9), [.t 4], none⟩,
  ⟨some 6, .lent, [.t 5], none⟩,
  ⟨some 2, .mov, [.t 6], none⟩]
def Zs1 : Z2y := ⟨7, (.seq (.region Zrz [0]) (.seq (.region Zs0 [2]) .ret)), [.t 2]⟩
def Zs2 : List Z2a := [
  ⟨some 4, .mov, [.c (.bool false)], none⟩]
def Zs3 : List Z2a := [
  ⟨some 5, .mov, [.t 0], none⟩,
  ⟨some 6, (.bin .geq), [.t 5, .c (.int .i64 (-1099511627776))], none⟩,
  ⟨some 7, .mov, [.t 6], none⟩,
  ⟨some 8, .mov, [.t 0], some (7, true)⟩,
  ⟨some 9, (.bin .leq), [.t 8, .c (.int .i64 1099511627776)], some (7, true)⟩,
  ⟨some 10, .pick, [.t 7, .t 9, .c (.bool false)], none⟩,
  ⟨some 11, .mov, [.t 10], none⟩,
  ⟨some 12, .mov, [.t 1], some (11, true)⟩,
  ⟨some 13, (.bin .geq), [.t 12, .c (.int .i64 0)], some (11, true)⟩,
  ⟨some 14, .pick, [.t 11, .t 13, .c (.bool false)], none⟩,
  ⟨some 15, .mov, [.t 14], none⟩,
  ⟨some 16, .mov, [.t 1], some (15, true)⟩,
  ⟨some 17, (.bin .lss), [.t 16, .c (.int .i64 1000000000)], some (15, true)⟩,
  ⟨some 18, .pick, [.t 15, .t 17, .c (.bool false)], none⟩,
  ⟨some 4, .mov, [.t 18], none⟩]
def Zs4 : Z2y := ⟨19, (.seq (.region Zs2 [0, 1, 8, 9, 12, 13, 16, 17]) (.seq (.region Zs3 [4]) .ret)), [.t 4]⟩
def Zs5 : List Z2a := [
  ⟨some 2, .mov, [.c (.slc 0 [] true)], none⟩]
def Zs6 : List Z2a := [
  ⟨some 3, .mov, [.t 0], none⟩,
  ⟨some 4, .mov, [.t 0], none⟩,
  ⟨some 5, .lens, [.t 4], none⟩,
  ⟨some 6, .mov, [.t 0], none⟩,
  ⟨some 7, .lens, [.t 6], none⟩,
  ⟨some 8, (.clip 1), [.t 3, .t 5, .t 7], none⟩,
  ⟨some 2, .mov, [.t 8], none⟩]
def Zs7 : Z2y := ⟨9, (.seq (.region Zs5 [0]) (.seq (.region Zs6 [2]) .ret)), [.t 2]⟩
def Zs8 : List Z2a := [
  ⟨some 2, .mov, [.c (.slc 0 [] true)], none⟩]
def Zs9 : List Z2a := [
  ⟨some 3, .mov, [.t 0], none⟩,
  ⟨some 4, (.isnil false), [.t 3, .c (.slc 0 [] true)], none⟩]
def Zsa : List Z2a := [
  ⟨some 2, .mov, [.c (.slc 0 [] true)], none⟩]
def Zsb : List Z2a := [
  ⟨some 5, (.bsl 1), [], none⟩,
  ⟨some 6, .mov, [.t 0], none⟩,
  ⟨some 7, (.app 1 1), [.t 5, .t 6], none⟩,
  ⟨some 2, .mov, [.t 7], none⟩]
def Zsc : Z2y := ⟨8, (.seq (.region Zs8 [0]) (.seq (.seq (.region Zs9 [0, 4]) (.cond (.t 4) (.seq (.region Zsa [2]) .ret) .skip)) (.seq (.region Zsb [2]) .ret))), [.t 2]⟩
def Zsd : List Z2a := [
  ⟨some 2, .mov, [.c (.slc 0 [] true)], none⟩]
def Zse : List Z2a := [
  ⟨some 3, .mov, [.t 0], none⟩,
  ⟨some 4, .mov, [.t 0], none⟩,
  ⟨some 5, .lens, [.t 4], none⟩,
  ⟨some 6, .mov, [.t 0], none⟩,
  ⟨some 7, .lens, [.t 6], none⟩,
  ⟨some 8, (.clip 5), [.t 3, .t 5, .t 7], none⟩,
  ⟨some 2, .mov, [.t 8], none⟩]
def Zsf : Z2y := ⟨9, (.seq (.region Zsd [0]) (.seq (.region Zse [2]) .ret)), [.t 2]⟩
def Zsg : List Z2a := [
  ⟨some 2, .mov, [.c (.bool false)], none⟩]
def Zsh : List Z2a := [
  ⟨some 3, .mov, [.t 0], none⟩,
  ⟨some 4, .mov, [.t 0], none⟩,
  ⟨some 5, (.bin .neq), [.t 3, .t 4], none⟩,
  ⟨some 2, .mov, [.t 5], none⟩]
def Zsi : Z2y := ⟨6, (.seq (.region Zsg [0]) (.seq (.region Zsh [2]) .ret)), [.t 2]⟩
def Zsj : List Z2a := [
  ⟨some 2, .mov, [.c (.bool false)], none⟩]
def Zsk : List Z2a := [
  ⟨some 3, .mov, [.t 0], none⟩,
  ⟨some 4, .mov, [.t 0], none⟩,
  ⟨some 5, (.bin .neq), [.t 3, .t 4], none⟩,
  ⟨some 2, .mov, [.t 5], none⟩]
def Zsl : Z2y := ⟨6, (.seq (.region Zsj [0]) (.seq (.region Zsk [2]) .ret)), [.t 2]⟩
def Zsm : List Z2a := [
  ⟨some 2, .mov, [.c (.str [])], none⟩]
def Zsn : List Z2a := [
  ⟨some 4, .mov, [.t 0], none⟩,
  ⟨some 5, (.bin .rem), [.t 4, .c (.int .u64 10)], none⟩,
  ⟨some 6, (.bin .add), [.c (.int .u64 48), .t 5], none⟩,
  ⟨some 7, (.conv .u8), [.t 6], none⟩,
  ⟨some 8, (.bsl 1), [.t 7], none⟩,
  ⟨some 9, .b2s, [.t 8], none⟩,
  ⟨some 3, .mov, [.t 9], none⟩]
def Zso : List Z2a := [
  ⟨some 10, .mov, [.t 0], none⟩,
  ⟨some 11, (.bin .geq), [.t 10, .c (.int .u64 10)], none⟩]
def Zsp : List Z2a := [
  ⟨some 12, .mov, [.t 0], none⟩,
  ⟨some 13, (.bin .quo), [.t 12, .c (.int .u64 10)], none⟩,
  ⟨some 0, .mov, [.t 13], none⟩]
def Zsq : List Z2a := [
  ⟨some 14, .mov, [.t 0], none⟩,
  ⟨some 15, (.bin .rem), [.t 14, .c (.int .u64 10)], none⟩,
  ⟨some 16, (.bin .add), [.c (.int .u64 48), .t 15], none⟩,
  ⟨some 17, (.conv .u8), [.t 16], none⟩,
  ⟨some 18, (.bsl 1), [.t 17], none⟩,
  ⟨some 19, .b2s, [.t 18], none⟩,
  ⟨some 20, .mov, [.t 3], none⟩,
  ⟨some 21, (.bin .add), [.t 19, .t 20], none⟩,
  ⟨some 3, .mov, [.t 21], none⟩]
def Zsr : Z2b := (.seq (.seq (.region Zso [0, 3, 11]) (.cond (.t 11) .skip (.exit 0))) (.block 1 (.seq (.region Zsp [0, 3]) (.region Zsq [0, 3]))))
def Zss : List Z2a := [
  ⟨some 22, .mov, [.t 3], none⟩,
  ⟨some 2, .mov, [.t 22], none⟩]
def Zst : Z2y := ⟨23, (.seq (.region Zsm [0]) (.seq (.region Zsn [0, 3]) (.seq (.block 0 (.loop Zsr)) (.seq (.region Zss [2]) .ret)))), [.t 2]⟩
def Zsu : List Z2a := [
  ⟨some 2, .mov, [.c (.int .u64 0)], none⟩]
def Zsv : List Z2a := [
  ⟨some 3, .mov, [.t 0], none⟩,
  ⟨some 4, (.bin .lss), [.t 3, .c (.int .i64 0)], none⟩]
def Zsw : List Z2a := [
  ⟨some 5, .mov, [.t 0], none⟩,
  ⟨some 6, (.bin .add), [.t 5, .c (.int .i64 1)], none⟩,
  ⟨some 7, (.bin .sub), [.c (.int .i64 0), .t 6], none⟩,
  ⟨some 8, (.conv .u64), [.t 7], none⟩,
  ⟨some 9, (.bin .add), [.t 8, .c (.int .u64 1)], none⟩,
  ⟨some 2, .mov, [.t 9], none⟩]
def Zsx : List Z2a := [
  ⟨some 10, .mov, [.t 0], none⟩,
  ⟨some 11, (.conv .u64), [.t 10], none⟩,
  ⟨some 2, .mov, [.t 11], none⟩]
def Zsy : Z2y := ⟨12, (.seq (.region Zsu [0]) (.seq (.seq (.region Zsv [0, 4]) (.cond (.t 4) (.seq (.region Zsw [2]) .ret) .skip)) (.seq (.region Zsx [2]) .ret))), [.t 2]⟩
end Go.Abs
namespace Go.Abs
open Go Go.Proofs
theorem Zsz : Z2z Try.prog [] Zeb = some Znr.erase := by kernel_rfl
theorem Zt0 : Z2z Try.prog [(30, 3), (7, 16)] Zde = some Zor.erase := by kernel_rfl
theorem Zt1 : Z2z Try.prog [] Zea = some Zou.erase := by kernel_rfl
theorem Zt2 : Z2z Try.prog [(5, 4)] Zel = some Zp1.erase := by kernel_rfl
theorem Zt3 : Z2z Try.prog [(16, 1)] Zeo = some Zpo.erase := by kernel_rfl
theorem Zt4 : Z2z Try.prog [] Zep = some Zpy.erase := by kernel_rfl
theorem Zt5 : Z2z Try.prog [] Zeq = some Zq8.erase := by kernel_rfl
theorem Zt6 : Z2z Try.prog [] Zer = some Zqk.erase := by kernel_rfl
theorem Zt7 : Z2z Try.prog [] Zfi = some Zqt.erase := by kernel_rfl
theorem Zt8 : Z2z Try.prog [] Zfk = some Zr4.erase := by kernel_rfl
theorem Zt9 : Z2z Try.prog [] Zfl = some Zrj.erase := by kernel_rfl
theorem Zta : Z2z Try.prog [] Zfm = some Zry.erase := by kernel_rfl
theorem Ztb : Z2z Try.prog [] Zfn = some Zs1.erase := by kernel_rfl
theorem Ztc : Z2z Try.prog [] Zfo = some Zs4.erase := by kernel_rfl
theorem Ztd : Z2z Try.prog [] Zfp = some Zs7.erase := by kernel_rfl
theorem Zte : Z2z Try.prog [] Zfq = some Zsc.erase := by kernel_rfl
theorem Ztf : Z2z Try.prog [] Zfr = some Zsf.erase := by kernel_rfl
theorem Ztg : Z2z Try.prog [] Zg7 = some Zsi.erase := by kernel_rfl
theorem Zth : Z2z Try.prog [] Zg8 = some Zsl.erase := by kernel_rfl
theorem Zti : Z2z Try.prog [] Zg9 = some Zst.erase := by kernel_rfl
theorem Ztj : Z2z Try.prog [] Zga = some Zsy.erase := by kernel_rfl
end Go.Abs
namespace Go.Abs
open Go Go.Proofs
set_option linter.unusedVariables false
set_option linter.unusedSimpArgs false
set_option maxHeartbeats 4000000
attribute [local irreducible] AWp aops KP
theorem Ztk {P : Program} {l : List Z2a} {F : Z26} {σ : Zc} {Q : Z26 → Zc → Prop} {d : Nat} {args : List Zw} {s t : List UInt8} (h1 : evs F args = some [.str s, .str t]) (h2 : s.length + t.length ≤ maxLen) (h : aops P l (fset d (some (.str (s ++ t))) F) σ Q) :
    aops P (⟨some d, .bin .add, args, none⟩ :: l) F σ Q :=
  st_q h1 (by simp [Z1p, abin, Z12, h2]) rfl h
theorem Ztl (k : Int) (σ : Zc) : Z1q Try.prog Zea [.int .i64 k] σ fun r σ' => r = .bool (Zmb k) ∧ σ' = σ := by
  refine Z8t rfl Zt1 (Nat.le_of_ble_eq_true rfl) ?_
  by_cases h1 : k = 7
  · subst h1; (repeat (first | refine st_q rfl rfl rfl ?_ | refine Z8v rfl (st_q rfl rfl rfl ?_) | refine Z8w rfl ?_ | refine Z8x rfl ?_ | (refine Z8y ?_; (repeat (first | refine Z9v rfl ?_ | refine Z9w ?_)); refine Z9u ?_) | refine awp_seq ?_ | refine Zbm (fun _ _ => rfl) ?_ | refine Z8h ?_ | refine Zbn (fun _ _ => rfl) ?_ | refine Zbo (fun _ _ => rfl) ?_ | refine Z8f (t := true) rfl (fun _ => ?_) (fun e => by cases e) | refine Z8f (t := false) rfl (fun e => by cases e) (fun _ => ?_))); refine Z8d ?_; exact ares rfl (HSub.refl _) ⟨rfl, rfl⟩
  by_cases h2 : k = 16
  · subst h2; (repeat (first | refine st_q rfl rfl rfl ?_ | refine Z8v rfl (st_q rfl rfl rfl ?_) | refine Z8w rfl ?_ | refine Z8x rfl ?_ | (refine Z8y ?_; (repeat (first | refine Z9v rfl ?_ | refine Z9w ?_)); refine Z9u ?_) | refine awp_seq ?_ | refine Zbm (fun _ _ => rfl) ?_ | refine Z8h ?_ | refine Zbn (fun _ _ => rfl) ?_ | refine Zbo (fun _ _ => rfl) ?_ | refine Z8f (t := true) rfl (fun _ => ?_) (fun e => by cases e) | refine Z8f (t := false) rfl (fun e => by cases e) (fun _ => ?_))); refine Z8d ?_; exact ares rfl (HSub.refl _) ⟨rfl, rfl⟩
  by_cases h3 : k = 17
  · subst h3; (repeat (first | refine st_q rfl rfl rfl ?_ | refine Z8v rfl (st_q rfl rfl rfl ?_) | refine Z8w rfl ?_ | refine Z8x rfl ?_ | (refine Z8y ?_; (repeat (first | refine Z9v rfl ?_ | refine Z9w ?_)); refine Z9u ?_) | refine awp_seq ?_ | refine Zbm (fun _ _ => rfl) ?_ | refine Z8h ?_ | refine Zbn (fun _ _ => rfl) ?_ | refine Zbo (fun _ _ => rfl) ?_ | refine Z8f (t := true) rfl (fun _ => ?_) (fun e => by cases e) | refine Z8f (t := false) rfl (fun e => by cases e) (fun _ => ?_))); refine Z8d ?_; exact ares rfl (HSub.refl _) ⟨rfl, rfl⟩
  (repeat (first | refine st_q rfl rfl rfl ?_ | refine Z8v rfl (st_q rfl rfl rfl ?_) | refine Z8w rfl ?_ | refine Z8x rfl ?_ | (refine Z8y ?_; (repeat (first | refine Z9v rfl ?_ | refine Z9w ?_)); refine Z9u ?_) | refine awp_seq ?_ | refine Zbm (fun _ _ => rfl) ?_ | refine Z8h ?_ | refine Zbn (fun _ _ => rfl) ?_ | refine Zbo (fun _ _ => rfl) ?_ | refine Z8f (t := true) rfl (fun _ => ?_) (fun e => by cases e) | refine Z8f (t := false) rfl (fun e => by cases e) (fun _ => ?_)))
  (rw [show decide (k = 7) = false from decide_eq_false (by omega)])
  (repeat (first | refine st_q rfl rfl rfl ?_ | refine Z8v rfl (st_q rfl rfl rfl ?_) | refine Z8w rfl ?_ | refine Z8x rfl ?_ | (refine Z8y ?_; (repeat (first | refine Z9v rfl ?_ | refine Z9w ?_)); refine Z9u ?_) | refine awp_seq ?_ | refine Zbm (fun _ _ => rfl) ?_ | refine Z8h ?_ | refine Zbn (fun _ _ => rfl) ?_ | refine Zbo (fun _ _ => rfl) ?_ | refine Z8f (t := true) rfl (fun _ => ?_) (fun e => by cases e) | refine Z8f (t := false) rfl (fun e => by cases e) (fun _ => ?_)))
  (rw [show decide (k = 16) = false from decide_eq_false (by omega)])
  (repeat (first | refine st_q rfl rfl rfl ?_ | refine Z8v rfl (st_q rfl rfl rfl ?_) | refine Z8w rfl ?_ | refine Z8x rfl ?_ | (refine Z8y ?_; (repeat (first | refine Z9v rfl ?_ | refine Z9w ?_)); refine Z9u ?_) | refine awp_seq ?_ | refine Zbm (fun _ _ => rfl) ?_ | refine Z8h ?_ | refine Zbn (fun _ _ => rfl) ?_ | refine Zbo (fun _ _ => rfl) ?_ | refine Z8f (t := true) rfl (fun _ => ?_) (fun e => by cases e) | refine Z8f (t := false) rfl (fun e => by cases e) (fun _ => ?_)))
  (rw [show decide (k = 17) = false from decide_eq_false (by omega)])
  (repeat (first | refine st_q rfl rfl rfl ?_ | refine Z8v rfl (st_q rfl rfl rfl ?_) | refine Z8w rfl ?_ | refine Z8x rfl ?_ | (refine Z8y ?_; (repeat (first | refine Z9v rfl ?_ | refine Z9w ?_)); refine Z9u ?_) | refine awp_seq ?_ | refine Zbm (fun _ _ => rfl) ?_ | refine Z8h ?_ | refine Zbn (fun _ _ => rfl) ?_ | refine Zbo (fun _ _ => rfl) ?_ | refine Z8f (t := true) rfl (fun _ => ?_) (fun e => by cases e) | refine Z8f (t := false) rfl (fun e => by cases e) (fun _ => ?_)))
  refine Z8d ?_
  exact ares rfl (HSub.refl _) ⟨by simp [Zmb, h1, h2, h3, Z8m], rfl⟩
theorem Ztm (k : Int) (σ : Zc) : Z1q Try.prog Zeb [.int .i64 k] σ fun r σ' => r = .bool (Zlt k) ∧ σ' = σ := by
  refine Z8t rfl Zsz (Nat.le_of_ble_eq_true rfl) ?_
  by_cases h1 : k = 10
  · subst h1; (repeat (first | refine st_q rfl rfl rfl ?_ | refine Z8v rfl (st_q rfl rfl rfl ?_) | refine Z8w rfl ?_ | refine Z8x rfl ?_ | (refine Z8y ?_; (repeat (first | refine Z9v rfl ?_ | refine Z9w ?_)); refine Z9u ?_) | refine awp_seq ?_ | refine Zbm (fun _ _ => rfl) ?_ | refine Z8h ?_ | refine Zbn (fun _ _ => rfl) ?_ | refine Zbo (fun _ _ => rfl) ?_ | refine Z8f (t := true) rfl (fun _ => ?_) (fun e => by cases e) | refine Z8f (t := false) rfl (fun e => by cases e) (fun _ => ?_))); refine Z8d ?_; exact ares rfl (HSub.refl _) ⟨rfl, rfl⟩
  by_cases h2 : k = 11
  · subst h2; (repeat (first | refine st_q rfl rfl rfl ?_ | refine Z8v rfl (st_q rfl rfl rfl ?_) | refine Z8w rfl ?_ | refine Z8x rfl ?_ | (refine Z8y ?_; (repeat (first | refine Z9v rfl ?_ | refine Z9w ?_)); refine Z9u ?_) | refine awp_seq ?_ | refine Zbm (fun _ _ => rfl) ?_ | refine Z8h ?_ | refine Zbn (fun _ _ => rfl) ?_ | refine Zbo (fun _ _ => rfl) ?_ | refine Z8f (t := true) rfl (fun _ => ?_) (fun e => by cases e) | refine Z8f (t := false) rfl (fun e => by cases e) (fun _ => ?_))); refine Z8d ?_; exact ares rfl (HSub.refl _) ⟨rfl, rfl⟩
  by_cases h3 : k = 12
  · subst h3; (repeat (first | refine st_q rfl rfl rfl ?_ | refine Z8v rfl (st_q rfl rfl rfl ?_) | refine Z8w rfl ?_ | refine Z8x rfl ?_ | (refine Z8y ?_; (repeat (first | refine Z9v rfl ?_ | refine Z9w ?_)); refine Z9u ?_) | refine awp_seq ?_ | refine Zbm (fun _ _ => rfl) ?_ | refine Z8h ?_ | refine Zbn (fun _ _ => rfl) ?_ | refine Zbo (fun _ _ => rfl) ?_ | refine Z8f (t := true) rfl (fun _ => ?_) (fun e => by cases e) | refine Z8f (t := false) rfl (fun e => by cases e) (fun _ => ?_))); refine Z8d ?_; exact ares rfl (HSub.refl _) ⟨rfl, rfl⟩
  (repeat (first | refine st_q rfl rfl rfl ?_ | refine Z8v rfl (st_q rfl rfl rfl ?_) | refine Z8w rfl ?_ | refine Z8x rfl ?_ | (refine Z8y ?_; (repeat (first | refine Z9v rfl ?_ | refine Z9w ?_)); refine Z9u ?_) | refine awp_seq ?_ | refine Zbm (fun _ _ => rfl) ?_ | refine Z8h ?_ | refine Zbn (fun _ _ => rfl) ?_ | refine Zbo (fun _ _ => rfl) ?_ | refine Z8f (t := true) rfl (fun _ => ?_) (fun e => by cases e) | refine Z8f (t := false) rfl (fun e => by cases e) (fun _ => ?_)))
  (rw [show decide (k ≠ 10) = true from decide_eq_true (by omega)])
  (repeat (first | refine st_q rfl rfl rfl ?_ | refine Z8v rfl (st_q rfl rfl rfl ?_) | refine Z8w rfl ?_ | refine Z8x rfl ?_ | (refine Z8y ?_; (repeat (first | refine Z9v rfl ?_ | refine Z9w ?_)); refine Z9u ?_) | refine awp_seq ?_ | refine Zbm (fun _ _ => rfl) ?_ | refine Z8h ?_ | refine Zbn (fun _ _ => rfl) ?_ | refine Zbo (fun _ _ => rfl) ?_ | refine Z8f (t := true) rfl (fun _ => ?_) (fun e => by cases e) | refine Z8f (t := false) rfl (fun e => by cases e) (fun _ => ?_)))
  (rw [show decide (k ≠ 11) = true from decide_eq_true (by omega)])
  (repeat (first | refine st_q rfl rfl rfl ?_ | refine Z8v rfl (st_q rfl rfl rfl ?_) | refine Z8w rfl ?_ | refine Z8x rfl ?_ | (refine Z8y ?_; (repeat (first | refine Z9v rfl ?_ | refine Z9w ?_)); refine Z9u ?_) | refine awp_seq ?_ | refine Zbm (fun _ _ => rfl) ?_ | refine Z8h ?_ | refine Zbn (fun _ _ => rfl) ?_ | refine Zbo (fun _ _ => rfl) ?_ | refine Z8f (t := true) rfl (fun _ => ?_) (fun e => by cases e) | refine Z8f (t := false) rfl (fun e => by cases e) (fun _ => ?_)))
  (rw [show decide (k ≠ 12) = true from decide_eq_true (by omega)])
  (repeat (first | refine st_q rfl rfl rfl ?_ | refine Z8v rfl (st_q rfl rfl rfl ?_) | refine Z8w rfl ?_ | refine Z8x rfl ?_ | (refine Z8y ?_; (repeat (first | refine Z9v rfl ?_ | refine Z9w ?_)); refine Z9u ?_) | refine awp_seq ?_ | refine Zbm (fun _ _ => rfl) ?_ | refine Z8h ?_ | refine Zbn (fun _ _ => rfl) ?_ | refine Zbo (fun _ _ => rfl) ?_ | refine Z8f (t := true) rfl (fun _ => ?_) (fun e => by cases e) | refine Z8f (t := false) rfl (fun e => by cases e) (fun _ => ?_)))
  refine Z8d ?_
  exact ares rfl (HSub.refl _) ⟨by simp [Zlt, h1, h2, h3, Z8m], rfl⟩
theorem Ztn (i : Int) (h0 : -9223372036854775808 ≤ i) (h1 : i ≤ 9223372036854775807) (σ : Zc) : Z1q Try.prog Zga [.int .i64 i] σ fun r σ' => r = .int .u64 (i.natAbs : Int) ∧ σ' = σ := by
  refine Z8t rfl Ztj (Nat.le_of_ble_eq_true rfl) ?_
  have wu : ∀ n : Int, IntKind.wrap .u64 n = n % 18446744073709551616 := fun n => by simp [IntKind.wrap, IntKind.bits, IntKind.signed]
  (repeat (first | refine st_q rfl rfl rfl ?_ | refine Z8v rfl (st_q rfl rfl rfl ?_) | refine Z8w rfl ?_ | refine Z8x rfl ?_ | (refine Z8y ?_; (repeat (first | refine Z9v rfl ?_ | refine Z9w ?_)); refine Z9u ?_) | refine awp_seq ?_ | refine Zbm (fun _ _ => rfl) ?_ | refine Z8h ?_ | refine Zbn (fun _ _ => rfl) ?_ | refine Zbo (fun _ _ => rfl) ?_ | refine Z8f (t := true) rfl (fun _ => ?_) (fun e => by cases e) | refine Z8f (t := false) rfl (fun e => by cases e) (fun _ => ?_)))
  by_cases h : i < 0
  · (rw [show decide (i < 0) = true from decide_eq_true (by omega)])
    (repeat (first | refine st_q rfl rfl rfl ?_ | refine Z8v rfl (st_q rfl rfl rfl ?_) | refine Z8w rfl ?_ | refine Z8x rfl ?_ | (refine Z8y ?_; (repeat (first | refine Z9v rfl ?_ | refine Z9w ?_)); refine Z9u ?_) | refine awp_seq ?_ | refine Zbm (fun _ _ => rfl) ?_ | refine Z8h ?_ | refine Zbn (fun _ _ => rfl) ?_ | refine Zbo (fun _ _ => rfl) ?_ | refine Z8f (t := true) rfl (fun _ => ?_) (fun e => by cases e) | refine Z8f (t := false) rfl (fun e => by cases e) (fun _ => ?_)))
    rw [w64 (i + 1) (by omega) (by omega), w64 (0 - (i + 1)) (by omega) (by omega), wu (0 - (i + 1)), wu]
    (repeat (first | refine st_q rfl rfl rfl ?_ | refine Z8v rfl (st_q rfl rfl rfl ?_) | refine Z8w rfl ?_ | refine Z8x rfl ?_ | (refine Z8y ?_; (repeat (first | refine Z9v rfl ?_ | refine Z9w ?_)); refine Z9u ?_) | refine awp_seq ?_ | refine Zbm (fun _ _ => rfl) ?_ | refine Z8h ?_ | refine Zbn (fun _ _ => rfl) ?_ | refine Zbo (fun _ _ => rfl) ?_ | refine Z8f (t := true) rfl (fun _ => ?_) (fun e => by cases e) | refine Z8f (t := false) rfl (fun e => by cases e) (fun _ => ?_)))
    refine Z8d ?_
    exact ares rfl (HSub.refl _) ⟨by simp only [Z8m]; congr 1; omega, rfl⟩
  · (rw [show decide (i < 0) = false from decide_eq_false (by omega)])
    (repeat (first | refine st_q rfl rfl rfl ?_ | refine Z8v rfl (st_q rfl rfl rfl ?_) | refine Z8w rfl ?_ | refine Z8x rfl ?_ | (refine Z8y ?_; (repeat (first | refine Z9v rfl ?_ | refine Z9w ?_)); refine Z9u ?_) | refine awp_seq ?_ | refine Zbm (fun _ _ => rfl) ?_ | refine Z8h ?_ | refine Zbn (fun _ _ => rfl) ?_ | refine Zbo (fun _ _ => rfl) ?_ | refine Z8f (t := true) rfl (fun _ => ?_) (fun e => by cases e) | refine Z8f (t := false) rfl (fun e => by cases e) (fun _ => ?_)))
    rw [wu]
    (repeat (first | refine st_q rfl rfl rfl ?_ | refine Z8v rfl (st_q rfl rfl rfl ?_) | refine Z8w rfl ?_ | refine Z8x rfl ?_ | (refine Z8y ?_; (repeat (first | refine Z9v rfl ?_ | refine Z9w ?_)); refine Z9u ?_) | refine awp_seq ?_ | refine Zbm (fun _ _ => rfl) ?_ | refine Z8h ?_ | refine Zbn (fun _ _ => rfl) ?_ | refine Zbo (fun _ _ => rfl) ?_ | refine Z8f (t := true) rfl (fun _ => ?_) (fun e => by cases e) | refine Z8f (t := false) rfl (fun e => by cases e) (fun _ => ?_)))
    refine Z8d ?_
    exact ares rfl (HSub.refl _) ⟨by simp only [Z8m]; congr 1; omega, rfl⟩
theorem Zto (u : Nat) (hu : u ≤ 18446744073709551615) (σ : Zc) : Z1q Try.prog Zg9 [.int .u64 (u : Int)] σ fun r σ' => (∃ s, r = .str s ∧ s.length = digN u) ∧ σ' = σ := by
  refine Z8t rfl Zti (Nat.le_of_ble_eq_true rfl) ?_
  (repeat (first | refine st_q rfl rfl rfl ?_ | refine Z8v rfl (st_q rfl rfl rfl ?_) | refine Z8w rfl ?_ | refine Z8x rfl ?_ | (refine Z8y ?_; (repeat (first | refine Z9v rfl ?_ | refine Z9w ?_)); refine Z9u ?_) | refine awp_seq ?_ | refine Zbm (fun _ _ => rfl) ?_ | refine Z8h ?_ | refine Zbn (fun _ _ => rfl) ?_ | refine Zbo (fun _ _ => rfl) ?_ | refine Z8f (t := true) rfl (fun _ => ?_) (fun e => by cases e) | refine Z8f (t := false) rfl (fun e => by cases e) (fun _ => ?_)))
  refine Zaa (fun m F σ' => ∃ (u' : Nat) (s : List UInt8), F = fset 0 (some (.int .u64 (u' : Int))) (fset 3 (some (.str s)) Z27) ∧ σ = σ' ∧ s.length + digN u' = digN u + 1 ∧ u' ≤ u ∧ m = u') (n := u)
    ⟨u, _, rfl, rfl, by simp; omega, Nat.le_refl _, rfl⟩ ?_
  rintro u' F σ' ⟨u2, s, rfl, rfl, hs, hu', rfl⟩
  (repeat (first | refine st_q rfl rfl rfl ?_ | refine Z8v rfl (st_q rfl rfl rfl ?_) | refine Z8w rfl ?_ | refine Z8x rfl ?_ | (refine Z8y ?_; (repeat (first | refine Z9v rfl ?_ | refine Z9w ?_)); refine Z9u ?_) | refine awp_seq ?_ | refine Zbm (fun _ _ => rfl) ?_ | refine Z8h ?_ | refine Zbn (fun _ _ => rfl) ?_ | refine Zbo (fun _ _ => rfl) ?_ | refine Z8f (t := true) rfl (fun _ => ?_) (fun e => by cases e) | refine Z8f (t := false) rfl (fun e => by cases e) (fun _ => ?_)))
  have h20 := Zmj hu
  have wu : ∀ n : Int, IntKind.wrap .u64 n = n % 18446744073709551616 := fun n => by simp [IntKind.wrap, IntKind.bits, IntKind.signed]
  refine Za3 (p := (10 : Int) ≤ (u' : Int)) rfl (fun h3 => ?_) (fun h3 => ?_)
  · (repeat (first | refine st_q rfl rfl rfl ?_ | refine Z8v rfl (st_q rfl rfl rfl ?_) | refine Z8w rfl ?_ | refine Z8x rfl ?_ | (refine Z8y ?_; (repeat (first | refine Z9v rfl ?_ | refine Z9w ?_)); refine Z9u ?_) | refine awp_seq ?_ | refine Zbm (fun _ _ => rfl) ?_ | refine Z8h ?_ | refine Zbn (fun _ _ => rfl) ?_ | refine Zbo (fun _ _ => rfl) ?_ | refine Z8f (t := true) rfl (fun _ => ?_) (fun e => by cases e) | refine Z8f (t := false) rfl (fun e => by cases e) (fun _ => ?_)))
    have e1 : IntKind.wrap .u64 ((u' : Int).tdiv 10) = ((u' / 10 : Nat) : Int) := by
      rw [Int.tdiv_eq_ediv_of_nonneg (by omega), wu]; omega
    rw [e1]
    have hd : digN u' = digN (u' / 10) + 1 := by rw [digN, dif_neg (by omega)]
    refine awp_region ?_
    (repeat (refine st_q rfl rfl rfl ?_))
    refine Ztk rfl (by simp only [List.length_reverse, List.length_cons, List.length_nil]; unfold maxLen; omega) ?_
    refine st_q rfl rfl rfl ?_
    refine Z8y ?_
    refine Zac (keep := [0, 3]) ?_
    ((repeat (first | refine Z9v rfl ?_ | refine Z9w ?_)); refine Z9u ?_)
    exact ⟨_, u' / 10, HSub.refl _, ⟨u' / 10, _, rfl, rfl, by simp only [List.length_append, List.length_reverse, List.length_cons, List.length_nil]; omega, by omega, rfl⟩, by omega⟩
  · (repeat (first | refine st_q rfl rfl rfl ?_ | refine Z8v rfl (st_q rfl rfl rfl ?_) | refine Z8w rfl ?_ | refine Z8x rfl ?_ | (refine Z8y ?_; (repeat (first | refine Z9v rfl ?_ | refine Z9w ?_)); refine Z9u ?_) | refine awp_seq ?_ | refine Zbm (fun _ _ => rfl) ?_ | refine Z8h ?_ | refine Zbn (fun _ _ => rfl) ?_ | refine Zbo (fun _ _ => rfl) ?_ | refine Z8f (t := true) rfl (fun _ => ?_) (fun e => by cases e) | refine Z8f (t := false) rfl (fun e => by cases e) (fun _ => ?_)))
    have hd : digN u' = 1 := by rw [digN, dif_pos (by omega)]
    refine Z8d ?_
    exact ares rfl (HSub.refl _) ⟨⟨s, rfl, by omega⟩, rfl⟩
theorem Ztp (i : Int) (h0 : -9223372036854775808 ≤ i) (h1 : i ≤ 9223372036854775807) (σ : Zc) : Z1q Try.prog Zfn [.int .i64 i] σ fun r σ' => r = .int .i64 (digN i.natAbs : Int) ∧ σ' = σ := by
  refine Z8t rfl Ztb (Nat.le_of_ble_eq_true rfl) ?_
  (repeat (first | refine st_q rfl rfl rfl ?_ | refine Z8v rfl (st_q rfl rfl rfl ?_) | refine Z8w rfl ?_ | refine Z8x rfl ?_ | (refine Z8y ?_; (repeat (first | refine Z9v rfl ?_ | refine Z9w ?_)); refine Z9u ?_) | refine awp_seq ?_ | refine Zbm (fun _ _ => rfl) ?_ | refine Z8h ?_ | refine Zbn (fun _ _ => rfl) ?_ | refine Zbo (fun _ _ => rfl) ?_ | refine Z8f (t := true) rfl (fun _ => ?_) (fun e => by cases e) | refine Z8f (t := false) rfl (fun e => by cases e) (fun _ => ?_)))
  refine Z9t rfl (Ztn i h0 h1 _) ?_
  refine Z9s rfl (Zto i.natAbs (by omega) _) ?_ ?_
  · exact ⟨_, _, ⟨List.replicate (digN i.natAbs) 0, rfl, List.length_replicate⟩, rfl⟩
  rintro _ _ ⟨⟨s, rfl, hs⟩, rfl⟩
  (repeat (first | refine st_q rfl rfl rfl ?_ | refine Z8v rfl (st_q rfl rfl rfl ?_) | refine Z8w rfl ?_ | refine Z8x rfl ?_ | (refine Z8y ?_; (repeat (first | refine Z9v rfl ?_ | refine Z9w ?_)); refine Z9u ?_) | refine awp_seq ?_ | refine Zbm (fun _ _ => rfl) ?_ | refine Z8h ?_ | refine Zbn (fun _ _ => rfl) ?_ | refine Zbo (fun _ _ => rfl) ?_ | refine Z8f (t := true) rfl (fun _ => ?_) (fun e => by cases e) | refine Z8f (t := false) rfl (fun e => by cases e) (fun _ => ?_)))
  refine Z8d ?_
  exact ares rfl (HSub.refl _) ⟨by rw [← hs]; rfl, rfl⟩
theorem Ztq (i n : Int) (σ : Zc) : Z1q Try.prog Zfo [.int .i64 i, .int .i64 n] σ fun r σ' => r = .bool (Zmd i n) ∧ σ' = σ := by
  refine Z8t rfl Ztc (Nat.le_of_ble_eq_true rfl) ?_
  (repeat (first | refine st_q rfl rfl rfl ?_ | refine Z8v rfl (st_q rfl rfl rfl ?_) | refine Z8w rfl ?_ | refine Z8x rfl ?_ | (refine Z8y ?_; (repeat (first | refine Z9v rfl ?_ | refine Z9w ?_)); refine Z9u ?_) | refine awp_seq ?_ | refine Zbm (fun _ _ => rfl) ?_ | refine Z8h ?_ | refine Zbn (fun _ _ => rfl) ?_ | refine Zbo (fun _ _ => rfl) ?_ | refine Z8f (t := true) rfl (fun _ => ?_) (fun e => by cases e) | refine Z8f (t := false) rfl (fun e => by cases e) (fun _ => ?_)))
  by_cases h1 : -1099511627776 ≤ i
  · (rw [show decide (-1099511627776 ≤ i) = true from decide_eq_true (by omega)])
    (repeat (first | refine st_q rfl rfl rfl ?_ | refine Z8v rfl (st_q rfl rfl rfl ?_) | refine Z8w rfl ?_ | refine Z8x rfl ?_ | (refine Z8y ?_; (repeat (first | refine Z9v rfl ?_ | refine Z9w ?_)); refine Z9u ?_) | refine awp_seq ?_ | refine Zbm (fun _ _ => rfl) ?_ | refine Z8h ?_ | refine Zbn (fun _ _ => rfl) ?_ | refine Zbo (fun _ _ => rfl) ?_ | refine Z8f (t := true) rfl (fun _ => ?_) (fun e => by cases e) | refine Z8f (t := false) rfl (fun e => by cases e) (fun _ => ?_)))
    by_cases h2 : i ≤ 1099511627776
    · (rw [show decide (i ≤ 1099511627776) = true from decide_eq_true (by omega)])
      (repeat (first | refine st_q rfl rfl rfl ?_ | refine Z8v rfl (st_q rfl rfl rfl ?_) | refine Z8w rfl ?_ | refine Z8x rfl ?_ | (refine Z8y ?_; (repeat (first | refine Z9v rfl ?_ | refine Z9w ?_)); refine Z9u ?_) | refine awp_seq ?_ | refine Zbm (fun _ _ => rfl) ?_ | refine Z8h ?_ | refine Zbn (fun _ _ => rfl) ?_ | refine Zbo (fun _ _ => rfl) ?_ | refine Z8f (t := true) rfl (fun _ => ?_) (fun e => by cases e) | refine Z8f (t := false) rfl (fun e => by cases e) (fun _ => ?_)))
      by_cases h3 : 0 ≤ n
      · (rw [show decide (0 ≤ n) = true from decide_eq_true (by omega)])
        (repeat (first | refine st_q rfl rfl rfl ?_ | refine Z8v rfl (st_q rfl rfl rfl ?_) | refine Z8w rfl ?_ | refine Z8x rfl ?_ | (refine Z8y ?_; (repeat (first | refine Z9v rfl ?_ | refine Z9w ?_)); refine Z9u ?_) | refine awp_seq ?_ | refine Zbm (fun _ _ => rfl) ?_ | refine Z8h ?_ | refine Zbn (fun _ _ => rfl) ?_ | refine Zbo (fun _ _ => rfl) ?_ | refine Z8f (t := true) rfl (fun _ => ?_) (fun e => by cases e) | refine Z8f (t := false) rfl (fun e => by cases e) (fun _ => ?_)))
        refine Z8d ?_
        exact ares rfl (HSub.refl _) ⟨by simp [Zmd, Z8m, h1, h2, h3], rfl⟩
      · (rw [show decide (0 ≤ n) = false from decide_eq_false (by omega)])
        (repeat (first | refine st_q rfl rfl rfl ?_ | refine Z8v rfl (st_q rfl rfl rfl ?_) | refine Z8w rfl ?_ | refine Z8x rfl ?_ | (refine Z8y ?_; (repeat (first | refine Z9v rfl ?_ | refine Z9w ?_)); refine Z9u ?_) | refine awp_seq ?_ | refine Zbm (fun _ _ => rfl) ?_ | refine Z8h ?_ | refine Zbn (fun _ _ => rfl) ?_ | refine Zbo (fun _ _ => rfl) ?_ | refine Z8f (t := true) rfl (fun _ => ?_) (fun e => by cases e) | refine Z8f (t := false) rfl (fun e => by cases e) (fun _ => ?_)))
        refine Z8d ?_
        exact ares rfl (HSub.refl _) ⟨by simp [Zmd, Z8m, h3], rfl⟩
    · (rw [show decide (i ≤ 1099511627776) = false from decide_eq_false (by omega)])
      (repeat (first | refine st_q rfl rfl rfl ?_ | refine Z8v rfl (st_q rfl rfl rfl ?_) | refine Z8w rfl ?_ | refine Z8x rfl ?_ | (refine Z8y ?_; (repeat (first | refine Z9v rfl ?_ | refine Z9w ?_)); refine Z9u ?_) | refine awp_seq ?_ | refine Zbm (fun _ _ => rfl) ?_ | refine Z8h ?_ | refine Zbn (fun _ _ => rfl) ?_ | refine Zbo (fun _ _ => rfl) ?_ | refine Z8f (t := true) rfl (fun _ => ?_) (fun e => by cases e) | refine Z8f (t := false) rfl (fun e => by cases e) (fun _ => ?_)))
      refine Z8d ?_
      exact ares rfl (HSub.refl _) ⟨by simp [Zmd, Z8m, h2], rfl⟩
  · (rw [show decide (-1099511627776 ≤ i) = false from decide_eq_false (by omega)])
    (repeat (first | refine st_q rfl rfl rfl ?_ | refine Z8v rfl (st_q rfl rfl rfl ?_) | refine Z8w rfl ?_ | refine Z8x rfl ?_ | (refine Z8y ?_; (repeat (first | refine Z9v rfl ?_ | refine Z9w ?_)); refine Z9u ?_) | refine awp_seq ?_ | refine Zbm (fun _ _ => rfl) ?_ | refine Z8h ?_ | refine Zbn (fun _ _ => rfl) ?_ | refine Zbo (fun _ _ => rfl) ?_ | refine Z8f (t := true) rfl (fun _ => ?_) (fun e => by cases e) | refine Z8f (t := false) rfl (fun e => by cases e) (fun _ => ?_)))
    refine Z8d ?_
    exact ares rfl (HSub.refl _) ⟨by simp [Zmd, Z8m, h1], rfl⟩
theorem Ztr (b : List UInt8) (f : Bool) (hb : b.length ≤ 9223372036854775807) (σ : Zc) : Z1q Try.prog Zep [.slc 1 (bytes b) f] σ fun r σ' => r = .int .i64 (Zmc b : Int) ∧ σ' = σ := by
  refine Z8t rfl Zt4 (Nat.le_of_ble_eq_true rfl) ?_
  (repeat (first | refine st_q rfl rfl rfl ?_ | refine Z8v rfl (st_q rfl rfl rfl ?_) | refine Z8w rfl ?_ | refine Z8x rfl ?_ | (refine Z8y ?_; (repeat (first | refine Z9v rfl ?_ | refine Z9w ?_)); refine Z9u ?_) | refine awp_seq ?_ | refine Zbm (fun _ _ => rfl) ?_ | refine Z8h ?_ | refine Zbn (fun _ _ => rfl) ?_ | refine Zbo (fun _ _ => rfl) ?_ | refine Z8f (t := true) rfl (fun _ => ?_) (fun e => by cases e) | refine Z8f (t := false) rfl (fun e => by cases e) (fun _ => ?_)))
  refine Zaa (fun m F σ' => ∃ (i : Nat), F = fset 0 (some (.slc 1 (bytes b) f)) (fset 3 (some (.int .i64 (Zmc (b.take i) : Int))) (fset 4 (some (.int .i64 (i : Int))) Z27)) ∧ σ = σ' ∧ i ≤ b.length ∧ m = b.length - i) (n := b.length)
    ⟨0, rfl, rfl, by omega, rfl⟩ ?_
  rintro m F σ' ⟨i, rfl, rfl, hi, rfl⟩
  (repeat (first | refine st_q rfl rfl rfl ?_ | refine Z8v rfl (st_q rfl rfl rfl ?_) | refine Z8w rfl ?_ | refine Z8x rfl ?_ | (refine Z8y ?_; (repeat (first | refine Z9v rfl ?_ | refine Z9w ?_)); refine Z9u ?_) | refine awp_seq ?_ | refine Zbm (fun _ _ => rfl) ?_ | refine Z8h ?_ | refine Zbn (fun _ _ => rfl) ?_ | refine Zbo (fun _ _ => rfl) ?_ | refine Z8f (t := true) rfl (fun _ => ?_) (fun e => by cases e) | refine Z8f (t := false) rfl (fun e => by cases e) (fun _ => ?_)))
  rw [Zam]
  refine Za3 (p := (i : Int) < (b.length : Int)) rfl (fun h3 => ?_) (fun h3 => ?_)
  · obtain ⟨c, hc⟩ : ∃ c, b[i]? = some c := ⟨_, List.getElem?_eq_getElem (by omega)⟩
    have hx : (bytes b)[(i : Int).toNat]? = some (Zx c) := by rw [Zao, Int.toNat_natCast, hc]; rfl
    have hst := Zml hc
    have hsl := Zmk (b.take (i + 1))
    rw [List.length_take] at hsl
    (repeat (first | refine st_q rfl rfl rfl ?_ | refine Z8v rfl (st_q rfl rfl rfl ?_) | refine Z8w rfl ?_ | refine Z8x rfl ?_ | (refine Z8y ?_; (repeat (first | refine Z9v rfl ?_ | refine Z9w ?_)); refine Z9u ?_) | refine awp_seq ?_ | refine Zbm (fun _ _ => rfl) ?_ | refine Z8h ?_ | refine Zbn (fun _ _ => rfl) ?_ | refine Zbo (fun _ _ => rfl) ?_ | refine Z8f (t := true) rfl (fun _ => ?_) (fun e => by cases e) | refine Z8f (t := false) rfl (fun e => by cases e) (fun _ => ?_)))
    refine Z93 rfl (by omega) hx ?_
    (repeat (first | refine st_q rfl rfl rfl ?_ | refine Z8v rfl (st_q rfl rfl rfl ?_) | refine Z8w rfl ?_ | refine Z8x rfl ?_ | (refine Z8y ?_; (repeat (first | refine Z9v rfl ?_ | refine Z9w ?_)); refine Z9u ?_) | refine awp_seq ?_ | refine Zbm (fun _ _ => rfl) ?_ | refine Z8h ?_ | refine Zbn (fun _ _ => rfl) ?_ | refine Zbo (fun _ _ => rfl) ?_ | refine Z8f (t := true) rfl (fun _ => ?_) (fun e => by cases e) | refine Z8f (t := false) rfl (fun e => by cases e) (fun _ => ?_)))
    have e6 : Int.fdiv (c.toNat : Int) (2 ^ (Nat.min ((6 : Int).toNat) IntKind.u8.bits)) = ((c.toNat / 64 : Nat) : Int) := by
      show Int.fdiv (c.toNat : Int) 64 = _
      rw [Int.fdiv_eq_ediv_of_nonneg _ (by omega)]; omega
    rw [e6]
    (repeat (first | refine st_q rfl rfl rfl ?_ | refine Z8v rfl (st_q rfl rfl rfl ?_) | refine Z8w rfl ?_ | refine Z8x rfl ?_ | (refine Z8y ?_; (repeat (first | refine Z9v rfl ?_ | refine Z9w ?_)); refine Z9u ?_) | refine awp_seq ?_ | refine Zbm (fun _ _ => rfl) ?_ | refine Z8h ?_ | refine Zbn (fun _ _ => rfl) ?_ | refine Zbo (fun _ _ => rfl) ?_ | refine Z8f (t := true) rfl (fun _ => ?_) (fun e => by cases e) | refine Z8f (t := false) rfl (fun e => by cases e) (fun _ => ?_)))
    have next : ∀ x : Int, x = (Zmc (b.take (i + 1)) : Int) → AWp Try.prog Zpy.n (.region Zpv [0, 3, 4]) (Za9 (fun m F σ' => ∃ (i : Nat), F = fset 0 (some (.slc 1 (bytes b) f)) (fset 3 (some (.int .i64 (Zmc (b.take i) : Int))) (fset 4 (some (.int .i64 (i : Int))) Z27)) ∧ σ = σ' ∧ i ≤ b.length ∧ m = b.length - i) (b.length - i)
        (Z8g 0 (Z8e Try.prog Zpy.n (Zpy.code.snd 3) (ARet Zpy.res fun r σ' => r = .int .i64 (Zmc b : Int) ∧ σ' = σ))))
        (fset 0 (some (.slc 1 (bytes b) f)) (fset 3 (some (.int .i64 x)) (fset 4 (some (.int .i64 (i : Int))) Z27))) σ := by
      rintro x rfl
      refine Zbp ?_
      (repeat (refine st_q rfl rfl rfl ?_))
      rw [show IntKind.wrap .i64 ((i : Int) + 1) = ((i + 1 : Nat) : Int) by rw [w64 _ (by omega) (by omega)]; omega]
      (refine Z8y ?_; (repeat (first | refine Z9v rfl ?_ | refine Z9w ?_)); refine Z9u ?_)
      exact ⟨_, b.length - (i + 1), HSub.refl _, ⟨i + 1, rfl, rfl, by omega, rfl⟩, by omega⟩
    refine Za3 (p := ((c.toNat / 64 : Nat) : Int) ≠ 2) rfl (fun h4 => ?_) (fun h4 => ?_)
    · refine Zbm (fun _ _ => rfl) ?_
      (repeat (refine st_q rfl rfl rfl ?_))
      (refine Z8y ?_; (repeat (first | refine Z9v rfl ?_ | refine Z9w ?_)); refine Z9u ?_)
      refine next _ ?_
      rw [hst, if_pos (by omega)]
      rw [hst, if_pos (by omega)] at hsl
      rw [w64 _ (by omega) (by omega)]; rfl
    · refine Zbn (fun _ _ => rfl) ?_
      (refine Z9y (keep := [0, 3, 4]) ?_; ((repeat (first | refine Z9v rfl ?_ | refine Z9w ?_)); refine Z9u ?_))
      refine next _ ?_
      rw [hst, if_neg (by omega)]; rfl
  · (repeat (first | refine st_q rfl rfl rfl ?_ | refine Z8v rfl (st_q rfl rfl rfl ?_) | refine Z8w rfl ?_ | refine Z8x rfl ?_ | (refine Z8y ?_; (repeat (first | refine Z9v rfl ?_ | refine Z9w ?_)); refine Z9u ?_) | refine awp_seq ?_ | refine Zbm (fun _ _ => rfl) ?_ | refine Z8h ?_ | refine Zbn (fun _ _ => rfl) ?_ | refine Zbo (fun _ _ => rfl) ?_ | refine Z8f (t := true) rfl (fun _ => ?_) (fun e => by cases e) | refine Z8f (t := false) rfl (fun e => by cases e) (fun _ => ?_)))
    have hie : i = b.length := by omega
    subst hie
    refine Z8d ?_
    exact ares rfl (HSub.refl _) ⟨by rw [List.take_length]; rfl, rfl⟩
end Go.Abs
namespace Go.Abs
open Go Go.Proofs
set_option linter.unusedVariables false
set_option linter.unusedSimpArgs false
set_option maxHeartbeats 4000000
attribute [local irreducible] AWp aops KP
theorem Zts (t : Ty) (i n : Int) (h0 : -9223372036854775808 ≤ i) (h1 : i ≤ 9223372036854775807) (σ : Zc) : Z1q Try.prog Zeo [encT t, .int .i64 i, .int .i64 n] σ fun r σ' => r = .bool (Zme t.kind t.kids.length t.prec i n) ∧ σ' = σ := by
  obtain ⟨k, ns, ks, l, p, s⟩ := t
  simp only [encT, Ty.kind, Ty.kids, Ty.prec] at *
  refine Z8t rfl Zt3 (Nat.le_of_ble_eq_true rfl) ?_
  refine Z9z ?_
  refine Z9j rfl (Z0.fit_iff.1 rfl) fun b hb => ?_
  (repeat (refine st_q rfl rfl rfl ?_))
  (refine Z8y ?_; (repeat (first | refine Z9v rfl ?_ | refine Z9w ?_)); refine Z9u ?_)
  refine Zb3 (d := 3) (cs := [.int .i64 k, .slc 1 (ns.map .str) false, .slc 6 (Zln ks) false, .int .i64 l, .int .i64 p, .int .i64 s]) rfl ?_
  have main : ¬ (n ≠ 0 ∧ k ≠ 9) → AWp Try.prog Zpo.n (Zpo.code.snd 2) (ARet Zpo.res fun r σ' => r = .bool (Zme k ks.length p i n) ∧ σ' = σ)
      (fset 1 (some (.int .i64 i)) (fset 2 (some (.int .i64 n)) (fset 3 (some (.iptr [.int .i64 k, .slc 1 (ns.map .str) false, .slc 6 (Zln ks) false, .int .i64 l, .int .i64 p, .int .i64 s])) Z27))) σ := by
    intro hc
    have hN : Zme k ks.length p i n = (if k = 0 then decide (i = 0 ∨ i = 1) else if k = 1 then decide (-128 ≤ i ∧ i ≤ 127) else if k = 2 then decide (-32768 ≤ i ∧ i ≤ 32767)
      else if k = 3 ∨ k = 15 then decide (-2147483648 ≤ i ∧ i ≤ 2147483647) else if k = 4 then true else if k = 14 then decide ((digN i.natAbs : Int) ≤ p) else if k = 9 then Zmd i n
      else if k = 13 then decide (0 ≤ i ∧ i < ks.length) else decide (i = 0)) := by rw [Zme, if_neg hc]
    rw [hN]
    by_cases k0 : k = 0
    · subst k0
      (repeat (first | refine st_q rfl rfl rfl ?_ | refine Z8v rfl (st_q rfl rfl rfl ?_) | refine Z8w rfl ?_ | refine Z8x rfl ?_ | (refine Z8y ?_; (repeat (first | refine Z9v rfl ?_ | refine Z9w ?_)); refine Z9u ?_) | refine awp_seq ?_ | refine Zbm (fun _ _ => rfl) ?_ | refine Z8h ?_ | refine Zbn (fun _ _ => rfl) ?_ | refine Zbo (fun _ _ => rfl) ?_ | refine Z8f (t := true) rfl (fun _ => ?_) (fun e => by cases e) | refine Z8f (t := false) rfl (fun e => by cases e) (fun _ => ?_)))
      by_cases q : i = 0
      · (rw [show decide (i = 0) = true from decide_eq_true (by omega)])
        (repeat (first | refine st_q rfl rfl rfl ?_ | refine Z8v rfl (st_q rfl rfl rfl ?_) | refine Z8w rfl ?_ | refine Z8x rfl ?_ | (refine Z8y ?_; (repeat (first | refine Z9v rfl ?_ | refine Z9w ?_)); refine Z9u ?_) | refine awp_seq ?_ | refine Zbm (fun _ _ => rfl) ?_ | refine Z8h ?_ | refine Zbn (fun _ _ => rfl) ?_ | refine Zbo (fun _ _ => rfl) ?_ | refine Z8f (t := true) rfl (fun _ => ?_) (fun e => by cases e) | refine Z8f (t := false) rfl (fun e => by cases e) (fun _ => ?_)))
        refine Z8d ?_
        exact ares rfl (HSub.refl _) ⟨by simp [Z8m, q], rfl⟩
      · (rw [show decide (i = 0) = false from decide_eq_false (by omega)])
        (repeat (first | refine st_q rfl rfl rfl ?_ | refine Z8v rfl (st_q rfl rfl rfl ?_) | refine Z8w rfl ?_ | refine Z8x rfl ?_ | (refine Z8y ?_; (repeat (first | refine Z9v rfl ?_ | refine Z9w ?_)); refine Z9u ?_) | refine awp_seq ?_ | refine Zbm (fun _ _ => rfl) ?_ | refine Z8h ?_ | refine Zbn (fun _ _ => rfl) ?_ | refine Zbo (fun _ _ => rfl) ?_ | refine Z8f (t := true) rfl (fun _ => ?_) (fun e => by cases e) | refine Z8f (t := false) rfl (fun e => by cases e) (fun _ => ?_)))
        refine Z8d ?_
        exact ares rfl (HSub.refl _) ⟨by simp [Z8m, q], rfl⟩
    by_cases k1 : k = 1
    · subst k1
      (repeat (first | refine st_q rfl rfl rfl ?_ | refine Z8v rfl (st_q rfl rfl rfl ?_) | refine Z8w rfl ?_ | refine Z8x rfl ?_ | (refine Z8y ?_; (repeat (first | refine Z9v rfl ?_ | refine Z9w ?_)); refine Z9u ?_) | refine awp_seq ?_ | refine Zbm (fun _ _ => rfl) ?_ | refine Z8h ?_ | refine Zbn (fun _ _ => rfl) ?_ | refine Zbo (fun _ _ => rfl) ?_ | refine Z8f (t := true) rfl (fun _ => ?_) (fun e => by cases e) | refine Z8f (t := false) rfl (fun e => by cases e) (fun _ => ?_)))
      by_cases q : -128 ≤ i
      · (rw [show decide (-128 ≤ i) = true from decide_eq_true (by omega)])
        (repeat (first | refine st_q rfl rfl rfl ?_ | refine Z8v rfl (st_q rfl rfl rfl ?_) | refine Z8w rfl ?_ | refine Z8x rfl ?_ | (refine Z8y ?_; (repeat (first | refine Z9v rfl ?_ | refine Z9w ?_)); refine Z9u ?_) | refine awp_seq ?_ | refine Zbm (fun _ _ => rfl) ?_ | refine Z8h ?_ | refine Zbn (fun _ _ => rfl) ?_ | refine Zbo (fun _ _ => rfl) ?_ | refine Z8f (t := true) rfl (fun _ => ?_) (fun e => by cases e) | refine Z8f (t := false) rfl (fun e => by cases e) (fun _ => ?_)))
        refine Z8d ?_
        exact ares rfl (HSub.refl _) ⟨by simp [Z8m, q], rfl⟩
      · (rw [show decide (-128 ≤ i) = false from decide_eq_false (by omega)])
        (repeat (first | refine st_q rfl rfl rfl ?_ | refine Z8v rfl (st_q rfl rfl rfl ?_) | refine Z8w rfl ?_ | refine Z8x rfl ?_ | (refine Z8y ?_; (repeat (first | refine Z9v rfl ?_ | refine Z9w ?_)); refine Z9u ?_) | refine awp_seq ?_ | refine Zbm (fun _ _ => rfl) ?_ | refine Z8h ?_ | refine Zbn (fun _ _ => rfl) ?_ | refine Zbo (fun _ _ => rfl) ?_ | refine Z8f (t := true) rfl (fun _ => ?_) (fun e => by cases e) | refine Z8f (t := false) rfl (fun e => by cases e) (fun _ => ?_)))
        refine Z8d ?_
        exact ares rfl (HSub.refl _) ⟨by simp [Z8m, q], rfl⟩
    by_cases k2 : k = 2
    · subst k2
      (repeat (first | refine st_q rfl rfl rfl ?_ | refine Z8v rfl (st_q rfl rfl rfl ?_) | refine Z8w rfl ?_ | refine Z8x rfl ?_ | (refine Z8y ?_; (repeat (first | refine Z9v rfl ?_ | refine Z9w ?_)); refine Z9u ?_) | refine awp_seq ?_ | refine Zbm (fun _ _ => rfl) ?_ | refine Z8h ?_ | refine Zbn (fun _ _ => rfl) ?_ | refine Zbo (fun _ _ => rfl) ?_ | refine Z8f (t := true) rfl (fun _ => ?_) (fun e => by cases e) | refine Z8f (t := false) rfl (fun e => by cases e) (fun _ => ?_)))
      by_cases q : -32768 ≤ i
      · (rw [show decide (-32768 ≤ i) = true from decide_eq_true (by omega)])
        (repeat (first | refine st_q rfl rfl rfl ?_ | refine Z8v rfl (st_q rfl rfl rfl ?_) | refine Z8w rfl ?_ | refine Z8x rfl ?_ | (refine Z8y ?_; (repeat (first | refine Z9v rfl ?_ | refine Z9w ?_)); refine Z9u ?_) | refine awp_seq ?_ | refine Zbm (fun _ _ => rfl) ?_ | refine Z8h ?_ | refine Zbn (fun _ _ => rfl) ?_ | refine Zbo (fun _ _ => rfl) ?_ | refine Z8f (t := true) rfl (fun _ => ?_) (fun e => by cases e) | refine Z8f (t := false) rfl (fun e => by cases e) (fun _ => ?_)))
        refine Z8d ?_
        exact ares rfl (HSub.refl _) ⟨by simp [Z8m, q], rfl⟩
      · (rw [show decide (-32768 ≤ i) = false from decide_eq_false (by omega)])
        (repeat (first | refine st_q rfl rfl rfl ?_ | refine Z8v rfl (st_q rfl rfl rfl ?_) | refine Z8w rfl ?_ | refine Z8x rfl ?_ | (refine Z8y ?_; (repeat (first | refine Z9v rfl ?_ | refine Z9w ?_)); refine Z9u ?_) | refine awp_seq ?_ | refine Zbm (fun _ _ => rfl) ?_ | refine Z8h ?_ | refine Zbn (fun _ _ => rfl) ?_ | refine Zbo (fun _ _ => rfl) ?_ | refine Z8f (t := true) rfl (fun _ => ?_) (fun e => by cases e) | refine Z8f (t := false) rfl (fun e => by cases e) (fun _ => ?_)))
        refine Z8d ?_
        exact ares rfl (HSub.refl _) ⟨by simp [Z8m, q], rfl⟩
    by_cases k3 : k = 3
    · subst k3
      (repeat (first | refine st_q rfl rfl rfl ?_ | refine Z8v rfl (st_q rfl rfl rfl ?_) | refine Z8w rfl ?_ | refine Z8x rfl ?_ | (refine Z8y ?_; (repeat (first | refine Z9v rfl ?_ | refine Z9w ?_)); refine Z9u ?_) | refine awp_seq ?_ | refine Zbm (fun _ _ => rfl) ?_ | refine Z8h ?_ | refine Zbn (fun _ _ => rfl) ?_ | refine Zbo (fun _ _ => rfl) ?_ | refine Z8f (t := true) rfl (fun _ => ?_) (fun e => by cases e) | refine Z8f (t := false) rfl (fun e => by cases e) (fun _ => ?_)))
      by_cases q : -2147483648 ≤ i
      · (rw [show decide (-2147483648 ≤ i) = true from decide_eq_true (by omega)])
        (repeat (first | refine st_q rfl rfl rfl ?_ | refine Z8v rfl (st_q rfl rfl rfl ?_) | refine Z8w rfl ?_ | refine Z8x rfl ?_ | (refine Z8y ?_; (repeat (first | refine Z9v rfl ?_ | refine Z9w ?_)); refine Z9u ?_) | refine awp_seq ?_ | refine Zbm (fun _ _ => rfl) ?_ | refine Z8h ?_ | refine Zbn (fun _ _ => rfl) ?_ | refine Zbo (fun _ _ => rfl) ?_ | refine Z8f (t := true) rfl (fun _ => ?_) (fun e => by cases e) | refine Z8f (t := false) rfl (fun e => by cases e) (fun _ => ?_)))
        refine Z8d ?_
        exact ares rfl (HSub.refl _) ⟨by simp [Z8m, q], rfl⟩
      · (rw [show decide (-2147483648 ≤ i) = false from decide_eq_false (by omega)])
        (repeat (first | refine st_q rfl rfl rfl ?_ | refine Z8v rfl (st_q rfl rfl rfl ?_) | refine Z8w rfl ?_ | refine Z8x rfl ?_ | (refine Z8y ?_; (repeat (first | refine Z9v rfl ?_ | refine Z9w ?_)); refine Z9u ?_) | refine awp_seq ?_ | refine Zbm (fun _ _ => rfl) ?_ | refine Z8h ?_ | refine Zbn (fun _ _ => rfl) ?_ | refine Zbo (fun _ _ => rfl) ?_ | refine Z8f (t := true) rfl (fun _ => ?_) (fun e => by cases e) | refine Z8f (t := false) rfl (fun e => by cases e) (fun _ => ?_)))
        refine Z8d ?_
        exact ares rfl (HSub.refl _) ⟨by simp [Z8m, q], rfl⟩
    by_cases k15 : k = 15
    · subst k15
      (repeat (first | refine st_q rfl rfl rfl ?_ | refine Z8v rfl (st_q rfl rfl rfl ?_) | refine Z8w rfl ?_ | refine Z8x rfl ?_ | (refine Z8y ?_; (repeat (first | refine Z9v rfl ?_ | refine Z9w ?_)); refine Z9u ?_) | refine awp_seq ?_ | refine Zbm (fun _ _ => rfl) ?_ | refine Z8h ?_ | refine Zbn (fun _ _ => rfl) ?_ | refine Zbo (fun _ _ => rfl) ?_ | refine Z8f (t := true) rfl (fun _ => ?_) (fun e => by cases e) | refine Z8f (t := false) rfl (fun e => by cases e) (fun _ => ?_)))
      by_cases q : -2147483648 ≤ i
      · (rw [show decide (-2147483648 ≤ i) = true from decide_eq_true (by omega)])
        (repeat (first | refine st_q rfl rfl rfl ?_ | refine Z8v rfl (st_q rfl rfl rfl ?_) | refine Z8w rfl ?_ | refine Z8x rfl ?_ | (refine Z8y ?_; (repeat (first | refine Z9v rfl ?_ | refine Z9w ?_)); refine Z9u ?_) | refine awp_seq ?_ | refine Zbm (fun _ _ => rfl) ?_ | refine Z8h ?_ | refine Zbn (fun _ _ => rfl) ?_ | refine Zbo (fun _ _ => rfl) ?_ | refine Z8f (t := true) rfl (fun _ => ?_) (fun e => by cases e) | refine Z8f (t := false) rfl (fun e => by cases e) (fun _ => ?_)))
        refine Z8d ?_
        exact ares rfl (HSub.refl _) ⟨by simp [Z8m, q], rfl⟩
      · (rw [show decide (-2147483648 ≤ i) = false from decide_eq_false (by omega)])
        (repeat (first | refine st_q rfl rfl rfl ?_ | refine Z8v rfl (st_q rfl rfl rfl ?_) | refine Z8w rfl ?_ | refine Z8x rfl ?_ | (refine Z8y ?_; (repeat (first | refine Z9v rfl ?_ | refine Z9w ?_)); refine Z9u ?_) | refine awp_seq ?_ | refine Zbm (fun _ _ => rfl) ?_ | refine Z8h ?_ | refine Zbn (fun _ _ => rfl) ?_ | refine Zbo (fun _ _ => rfl) ?_ | refine Z8f (t := true) rfl (fun _ => ?_) (fun e => by cases e) | refine Z8f (t := false) rfl (fun e => by cases e) (fun _ => ?_)))
        refine Z8d ?_
        exact ares rfl (HSub.refl _) ⟨by simp [Z8m, q], rfl⟩
    by_cases k4 : k = 4
    · subst k4
      (repeat (first | refine st_q rfl rfl rfl ?_ | refine Z8v rfl (st_q rfl rfl rfl ?_) | refine Z8w rfl ?_ | refine Z8x rfl ?_ | (refine Z8y ?_; (repeat (first | refine Z9v rfl ?_ | refine Z9w ?_)); refine Z9u ?_) | refine awp_seq ?_ | refine Zbm (fun _ _ => rfl) ?_ | refine Z8h ?_ | refine Zbn (fun _ _ => rfl) ?_ | refine Zbo (fun _ _ => rfl) ?_ | refine Z8f (t := true) rfl (fun _ => ?_) (fun e => by cases e) | refine Z8f (t := false) rfl (fun e => by cases e) (fun _ => ?_)))
      refine Z8d ?_
      exact ares rfl (HSub.refl _) ⟨by simp [Z8m], rfl⟩
    by_cases k14 : k = 14
    · subst k14
      (repeat (first | refine st_q rfl rfl rfl ?_ | refine Z8v rfl (st_q rfl rfl rfl ?_) | refine Z8w rfl ?_ | refine Z8x rfl ?_ | (refine Z8y ?_; (repeat (first | refine Z9v rfl ?_ | refine Z9w ?_)); refine Z9u ?_) | refine awp_seq ?_ | refine Zbm (fun _ _ => rfl) ?_ | refine Z8h ?_ | refine Zbn (fun _ _ => rfl) ?_ | refine Zbo (fun _ _ => rfl) ?_ | refine Z8f (t := true) rfl (fun _ => ?_) (fun e => by cases e) | refine Z8f (t := false) rfl (fun e => by cases e) (fun _ => ?_)))
      refine Zbw rfl (Ztp i h0 h1) ?_
      (repeat (first | refine st_q rfl rfl rfl ?_ | refine Z8v rfl (st_q rfl rfl rfl ?_) | refine Z8w rfl ?_ | refine Z8x rfl ?_ | (refine Z8y ?_; (repeat (first | refine Z9v rfl ?_ | refine Z9w ?_)); refine Z9u ?_) | refine awp_seq ?_ | refine Zbm (fun _ _ => rfl) ?_ | refine Z8h ?_ | refine Zbn (fun _ _ => rfl) ?_ | refine Zbo (fun _ _ => rfl) ?_ | refine Z8f (t := true) rfl (fun _ => ?_) (fun e => by cases e) | refine Z8f (t := false) rfl (fun e => by cases e) (fun _ => ?_)))
      refine Z8d ?_
      exact ares rfl (HSub.refl _) ⟨by simp [Z8m], rfl⟩
    by_cases k9 : k = 9
    · subst k9
      (repeat (first | refine st_q rfl rfl rfl ?_ | refine Z8v rfl (st_q rfl rfl rfl ?_) | refine Z8w rfl ?_ | refine Z8x rfl ?_ | (refine Z8y ?_; (repeat (first | refine Z9v rfl ?_ | refine Z9w ?_)); refine Z9u ?_) | refine awp_seq ?_ | refine Zbm (fun _ _ => rfl) ?_ | refine Z8h ?_ | refine Zbn (fun _ _ => rfl) ?_ | refine Zbo (fun _ _ => rfl) ?_ | refine Z8f (t := true) rfl (fun _ => ?_) (fun e => by cases e) | refine Z8f (t := false) rfl (fun e => by cases e) (fun _ => ?_)))
      refine Z9t rfl (Ztq i n _) ?_
      (repeat (first | refine st_q rfl rfl rfl ?_ | refine Z8v rfl (st_q rfl rfl rfl ?_) | refine Z8w rfl ?_ | refine Z8x rfl ?_ | (refine Z8y ?_; (repeat (first | refine Z9v rfl ?_ | refine Z9w ?_)); refine Z9u ?_) | refine awp_seq ?_ | refine Zbm (fun _ _ => rfl) ?_ | refine Z8h ?_ | refine Zbn (fun _ _ => rfl) ?_ | refine Zbo (fun _ _ => rfl) ?_ | refine Z8f (t := true) rfl (fun _ => ?_) (fun e => by cases e) | refine Z8f (t := false) rfl (fun e => by cases e) (fun _ => ?_)))
      refine Z8d ?_
      exact ares rfl (HSub.refl _) ⟨by simp [Z8m], rfl⟩
    by_cases k13 : k = 13
    · subst k13
      (repeat (first | refine st_q rfl rfl rfl ?_ | refine Z8v rfl (st_q rfl rfl rfl ?_) | refine Z8w rfl ?_ | refine Z8x rfl ?_ | (refine Z8y ?_; (repeat (first | refine Z9v rfl ?_ | refine Z9w ?_)); refine Z9u ?_) | refine awp_seq ?_ | refine Zbm (fun _ _ => rfl) ?_ | refine Z8h ?_ | refine Zbn (fun _ _ => rfl) ?_ | refine Zbo (fun _ _ => rfl) ?_ | refine Z8f (t := true) rfl (fun _ => ?_) (fun e => by cases e) | refine Z8f (t := false) rfl (fun e => by cases e) (fun _ => ?_)))
      by_cases q : 0 ≤ i
      · (rw [show decide (0 ≤ i) = true from decide_eq_true (by omega)])
        (repeat (first | refine st_q rfl rfl rfl ?_ | refine Z8v rfl (st_q rfl rfl rfl ?_) | refine Z8w rfl ?_ | refine Z8x rfl ?_ | (refine Z8y ?_; (repeat (first | refine Z9v rfl ?_ | refine Z9w ?_)); refine Z9u ?_) | refine awp_seq ?_ | refine Zbm (fun _ _ => rfl) ?_ | refine Z8h ?_ | refine Zbn (fun _ _ => rfl) ?_ | refine Zbo (fun _ _ => rfl) ?_ | refine Z8f (t := true) rfl (fun _ => ?_) (fun e => by cases e) | refine Z8f (t := false) rfl (fun e => by cases e) (fun _ => ?_)))
        rw [Zlr]
        refine Z8d ?_
        exact ares rfl (HSub.refl _) ⟨by simp [Z8m, q], rfl⟩
      · (rw [show decide (0 ≤ i) = false from decide_eq_false (by omega)])
        (repeat (first | refine st_q rfl rfl rfl ?_ | refine Z8v rfl (st_q rfl rfl rfl ?_) | refine Z8w rfl ?_ | refine Z8x rfl ?_ | (refine Z8y ?_; (repeat (first | refine Z9v rfl ?_ | refine Z9w ?_)); refine Z9u ?_) | refine awp_seq ?_ | refine Zbm (fun _ _ => rfl) ?_ | refine Z8h ?_ | refine Zbn (fun _ _ => rfl) ?_ | refine Zbo (fun _ _ => rfl) ?_ | refine Z8f (t := true) rfl (fun _ => ?_) (fun e => by cases e) | refine Z8f (t := false) rfl (fun e => by cases e) (fun _ => ?_)))
        refine Z8d ?_
        exact ares rfl (HSub.refl _) ⟨by simp [Z8m, q], rfl⟩
    (repeat (first | refine st_q rfl rfl rfl ?_ | refine Z8v rfl (st_q rfl rfl rfl ?_) | refine Z8w rfl ?_ | refine Z8x rfl ?_ | (refine Z8y ?_; (repeat (first | refine Z9v rfl ?_ | refine Z9w ?_)); refine Z9u ?_) | refine awp_seq ?_ | refine Zbm (fun _ _ => rfl) ?_ | refine Z8h ?_ | refine Zbn (fun _ _ => rfl) ?_ | refine Zbo (fun _ _ => rfl) ?_ | refine Z8f (t := true) rfl (fun _ => ?_) (fun e => by cases e) | refine Z8f (t := false) rfl (fun e => by cases e) (fun _ => ?_)))
    (rw [show decide (k = 0) = false from decide_eq_false (by omega)])
    (repeat (first | refine st_q rfl rfl rfl ?_ | refine Z8v rfl (st_q rfl rfl rfl ?_) | refine Z8w rfl ?_ | refine Z8x rfl ?_ | (refine Z8y ?_; (repeat (first | refine Z9v rfl ?_ | refine Z9w ?_)); refine Z9u ?_) | refine awp_seq ?_ | refine Zbm (fun _ _ => rfl) ?_ | refine Z8h ?_ | refine Zbn (fun _ _ => rfl) ?_ | refine Zbo (fun _ _ => rfl) ?_ | refine Z8f (t := true) rfl (fun _ => ?_) (fun e => by cases e) | refine Z8f (t := false) rfl (fun e => by cases e) (fun _ => ?_)))
    (rw [show decide (k = 1) = false from decide_eq_false (by omega)])
    (repeat (first | refine st_q rfl rfl rfl ?_ | refine Z8v rfl (st_q rfl rfl rfl ?_) | refine Z8w rfl ?_ | refine Z8x rfl ?_ | (refine Z8y ?_; (repeat (first | refine Z9v rfl ?_ | refine Z9w ?_)); refine Z9u ?_) | refine awp_seq ?_ | refine Zbm (fun _ _ => rfl) ?_ | refine Z8h ?_ | refine Zbn (fun _ _ => rfl) ?_ | refine Zbo (fun _ _ => rfl) ?_ | refine Z8f (t := true) rfl (fun _ => ?_) (fun e => by cases e) | refine Z8f (t := false) rfl (fun e => by cases e) (fun _ => ?_)))
    (rw [show decide (k = 2) = false from decide_eq_false (by omega)])
    (repeat (first | refine st_q rfl rfl rfl ?_ | refine Z8v rfl (st_q rfl rfl rfl ?_) | refine Z8w rfl ?_ | refine Z8x rfl ?_ | (refine Z8y ?_; (repeat (first | refine Z9v rfl ?_ | refine Z9w ?_)); refine Z9u ?_) | refine awp_seq ?_ | refine Zbm (fun _ _ => rfl) ?_ | refine Z8h ?_ | refine Zbn (fun _ _ => rfl) ?_ | refine Zbo (fun _ _ => rfl) ?_ | refine Z8f (t := true) rfl (fun _ => ?_) (fun e => by cases e) | refine Z8f (t := false) rfl (fun e => by cases e) (fun _ => ?_)))
    (rw [show decide (k = 3) = false from decide_eq_false (by omega)])
    (repeat (first | refine st_q rfl rfl rfl ?_ | refine Z8v rfl (st_q rfl rfl rfl ?_) | refine Z8w rfl ?_ | refine Z8x rfl ?_ | (refine Z8y ?_; (repeat (first | refine Z9v rfl ?_ | refine Z9w ?_)); refine Z9u ?_) | refine awp_seq ?_ | refine Zbm (fun _ _ => rfl) ?_ | refine Z8h ?_ | refine Zbn (fun _ _ => rfl) ?_ | refine Zbo (fun _ _ => rfl) ?_ | refine Z8f (t := true) rfl (fun _ => ?_) (fun e => by cases e) | refine Z8f (t := false) rfl (fun e => by cases e) (fun _ => ?_)))
    (rw [show decide (k = 15) = false from decide_eq_false (by omega)])
    (repeat (first | refine st_q rfl rfl rfl ?_ | refine Z8v rfl (st_q rfl rfl rfl ?_) | refine Z8w rfl ?_ | refine Z8x rfl ?_ | (refine Z8y ?_; (repeat (first | refine Z9v rfl ?_ | refine Z9w ?_)); refine Z9u ?_) | refine awp_seq ?_ | refine Zbm (fun _ _ => rfl) ?_ | refine Z8h ?_ | refine Zbn (fun _ _ => rfl) ?_ | refine Zbo (fun _ _ => rfl) ?_ | refine Z8f (t := true) rfl (fun _ => ?_) (fun e => by cases e) | refine Z8f (t := false) rfl (fun e => by cases e) (fun _ => ?_)))
    (rw [show decide (k = 4) = false from decide_eq_false (by omega)])
    (repeat (first | refine st_q rfl rfl rfl ?_ | refine Z8v rfl (st_q rfl rfl rfl ?_) | refine Z8w rfl ?_ | refine Z8x rfl ?_ | (refine Z8y ?_; (repeat (first | refine Z9v rfl ?_ | refine Z9w ?_)); refine Z9u ?_) | refine awp_seq ?_ | refine Zbm (fun _ _ => rfl) ?_ | refine Z8h ?_ | refine Zbn (fun _ _ => rfl) ?_ | refine Zbo (fun _ _ => rfl) ?_ | refine Z8f (t := true) rfl (fun _ => ?_) (fun e => by cases e) | refine Z8f (t := false) rfl (fun e => by cases e) (fun _ => ?_)))
    (rw [show decide (k = 14) = false from decide_eq_false (by omega)])
    (repeat (first | refine st_q rfl rfl rfl ?_ | refine Z8v rfl (st_q rfl rfl rfl ?_) | refine Z8w rfl ?_ | refine Z8x rfl ?_ | (refine Z8y ?_; (repeat (first | refine Z9v rfl ?_ | refine Z9w ?_)); refine Z9u ?_) | refine awp_seq ?_ | refine Zbm (fun _ _ => rfl) ?_ | refine Z8h ?_ | refine Zbn (fun _ _ => rfl) ?_ | refine Zbo (fun _ _ => rfl) ?_ | refine Z8f (t := true) rfl (fun _ => ?_) (fun e => by cases e) | refine Z8f (t := false) rfl (fun e => by cases e) (fun _ => ?_)))
    (rw [show decide (k = 9) = false from decide_eq_false (by omega)])
    (repeat (first | refine st_q rfl rfl rfl ?_ | refine Z8v rfl (st_q rfl rfl rfl ?_) | refine Z8w rfl ?_ | refine Z8x rfl ?_ | (refine Z8y ?_; (repeat (first | refine Z9v rfl ?_ | refine Z9w ?_)); refine Z9u ?_) | refine awp_seq ?_ | refine Zbm (fun _ _ => rfl) ?_ | refine Z8h ?_ | refine Zbn (fun _ _ => rfl) ?_ | refine Zbo (fun _ _ => rfl) ?_ | refine Z8f (t := true) rfl (fun _ => ?_) (fun e => by cases e) | refine Z8f (t := false) rfl (fun e => by cases e) (fun _ => ?_)))
    (rw [show decide (k = 13) = false from decide_eq_false (by omega)])
    (repeat (first | refine st_q rfl rfl rfl ?_ | refine Z8v rfl (st_q rfl rfl rfl ?_) | refine Z8w rfl ?_ | refine Z8x rfl ?_ | (refine Z8y ?_; (repeat (first | refine Z9v rfl ?_ | refine Z9w ?_)); refine Z9u ?_) | refine awp_seq ?_ | refine Zbm (fun _ _ => rfl) ?_ | refine Z8h ?_ | refine Zbn (fun _ _ => rfl) ?_ | refine Zbo (fun _ _ => rfl) ?_ | refine Z8f (t := true) rfl (fun _ => ?_) (fun e => by cases e) | refine Z8f (t := false) rfl (fun e => by cases e) (fun _ => ?_)))
    refine Z8d ?_
    exact ares rfl (HSub.refl _) ⟨by simp [Z8m, k0, k1, k2, k3, k15, k4, k14, k9, k13], rfl⟩
  have key : ∀ rest : Z2b, (¬ (n ≠ 0 ∧ k ≠ 9) → AWp Try.prog Zpo.n rest (ARet Zpo.res fun r σ' => r = .bool (Zme k ks.length p i n) ∧ σ' = σ)
      (fset 1 (some (.int .i64 i)) (fset 2 (some (.int .i64 n)) (fset 3 (some (.iptr [.int .i64 k, .slc 1 (ns.map .str) false, .slc 6 (Zln ks) false, .int .i64 l, .int .i64 p, .int .i64 s])) Z27))) σ) →
      AWp Try.prog Zpo.n (.seq (Zpo.code.snd 1).fst rest) (ARet Zpo.res fun r σ' => r = .bool (Zme k ks.length p i n) ∧ σ' = σ)
      (fset 1 (some (.int .i64 i)) (fset 2 (some (.int .i64 n)) (fset 3 (some (.iptr [.int .i64 k, .slc 1 (ns.map .str) false, .slc 6 (Zln ks) false, .int .i64 l, .int .i64 p, .int .i64 s])) Z27))) σ := by
    intro rest hrest
    (repeat (first | refine st_q rfl rfl rfl ?_ | refine Z8v rfl (st_q rfl rfl rfl ?_) | refine Z8w rfl ?_ | refine Z8x rfl ?_ | (refine Z8y ?_; (repeat (first | refine Z9v rfl ?_ | refine Z9w ?_)); refine Z9u ?_) | refine awp_seq ?_ | refine Zbm (fun _ _ => rfl) ?_ | refine Z8h ?_ | refine Zbn (fun _ _ => rfl) ?_ | refine Zbo (fun _ _ => rfl) ?_ | refine Z8f (t := true) rfl (fun _ => ?_) (fun e => by cases e) | refine Z8f (t := false) rfl (fun e => by cases e) (fun _ => ?_)))
    by_cases q1 : n = 0
    · (rw [show decide (n ≠ 0) = false from decide_eq_false (by omega)])
      (repeat (first | refine st_q rfl rfl rfl ?_ | refine Z8v rfl (st_q rfl rfl rfl ?_) | refine Z8w rfl ?_ | refine Z8x rfl ?_ | (refine Z8y ?_; (repeat (first | refine Z9v rfl ?_ | refine Z9w ?_)); refine Z9u ?_) | refine awp_seq ?_ | refine Zbm (fun _ _ => rfl) ?_ | refine Z8h ?_ | refine Zbn (fun _ _ => rfl) ?_ | refine Zbo (fun _ _ => rfl) ?_ | refine Z8f (t := true) rfl (fun _ => ?_) (fun e => by cases e) | refine Z8f (t := false) rfl (fun e => by cases e) (fun _ => ?_)))
      (refine Z9y (keep := [1, 2, 3]) ?_; ((repeat (first | refine Z9v rfl ?_ | refine Z9w ?_)); refine Z9u ?_))
      exact hrest (by omega)
    · (rw [show decide (n ≠ 0) = true from decide_eq_true (by omega)])
      (repeat (first | refine st_q rfl rfl rfl ?_ | refine Z8v rfl (st_q rfl rfl rfl ?_) | refine Z8w rfl ?_ | refine Z8x rfl ?_ | (refine Z8y ?_; (repeat (first | refine Z9v rfl ?_ | refine Z9w ?_)); refine Z9u ?_) | refine awp_seq ?_ | refine Zbm (fun _ _ => rfl) ?_ | refine Z8h ?_ | refine Zbn (fun _ _ => rfl) ?_ | refine Zbo (fun _ _ => rfl) ?_ | refine Z8f (t := true) rfl (fun _ => ?_) (fun e => by cases e) | refine Z8f (t := false) rfl (fun e => by cases e) (fun _ => ?_)))
      by_cases q2 : k = 9
      · (rw [show decide (k ≠ 9) = false from decide_eq_false (by omega)])
        (repeat (first | refine st_q rfl rfl rfl ?_ | refine Z8v rfl (st_q rfl rfl rfl ?_) | refine Z8w rfl ?_ | refine Z8x rfl ?_ | (refine Z8y ?_; (repeat (first | refine Z9v rfl ?_ | refine Z9w ?_)); refine Z9u ?_) | refine awp_seq ?_ | refine Zbm (fun _ _ => rfl) ?_ | refine Z8h ?_ | refine Zbn (fun _ _ => rfl) ?_ | refine Zbo (fun _ _ => rfl) ?_ | refine Z8f (t := true) rfl (fun _ => ?_) (fun e => by cases e) | refine Z8f (t := false) rfl (fun e => by cases e) (fun _ => ?_)))
        (refine Z9y (keep := [1, 2, 3]) ?_; ((repeat (first | refine Z9v rfl ?_ | refine Z9w ?_)); refine Z9u ?_))
        exact hrest (by omega)
      · (rw [show decide (k ≠ 9) = true from decide_eq_true (by omega)])
        (repeat (first | refine st_q rfl rfl rfl ?_ | refine Z8v rfl (st_q rfl rfl rfl ?_) | refine Z8w rfl ?_ | refine Z8x rfl ?_ | (refine Z8y ?_; (repeat (first | refine Z9v rfl ?_ | refine Z9w ?_)); refine Z9u ?_) | refine awp_seq ?_ | refine Zbm (fun _ _ => rfl) ?_ | refine Z8h ?_ | refine Zbn (fun _ _ => rfl) ?_ | refine Zbo (fun _ _ => rfl) ?_ | refine Z8f (t := true) rfl (fun _ => ?_) (fun e => by cases e) | refine Z8f (t := false) rfl (fun e => by cases e) (fun _ => ?_)))
        refine Z8d ?_
        exact ares rfl (HSub.refl _) ⟨by simp [Zme, q1, q2, Z8m], rfl⟩
  (refine Z9y (keep := [1, 2, 3]) ?_; ((repeat (first | refine Z9v rfl ?_ | refine Z9w ?_)); refine Z9u ?_))
  exact key _ main
theorem Ztt (t : Ty) (i n : Int) (nu : Bool) (bs : List UInt8) (vks : List Vl) (j : Nat) (hj : j ≤ 9223372036854775807) (hi : t.kind = 13 → 0 ≤ i) (hlt : Zmf t.kind i j < t.kids.length) (σ : Zc) :
    Z1q Try.prog Zeq [encT t, encV (.mk nu i n bs vks), .int .i64 (j : Int)] σ fun r σ' => r = encT (kidT t i j) ∧ σ' = σ := by
  obtain ⟨k, ns, ks, l, p, s⟩ := t
  simp only [Ty.kind, Ty.kids] at hi hlt
  obtain ⟨t', ht'⟩ : ∃ t', ks[Zmf k i j]? = some t' := ⟨_, List.getElem?_eq_getElem hlt⟩
  have hkid : kidT (.mk k ns ks l p s) i j = t' := by simp only [kidT, Ty.kids, Ty.kind, List.getD_eq_getElem?_getD, ht', Option.getD_some]
  have hx := Zls ht'
  rw [hkid, Zlp t'] at *
  simp only [encT, encV]
  refine Z8t rfl Zt5 (Nat.le_of_ble_eq_true rfl) ?_
  refine Z9z ?_
  refine Z9j rfl (Z0.fit_iff.1 rfl) fun b hb => ?_
  refine Z9j rfl (Z0.fit_iff.1 rfl) fun b2 hb2 => ?_
  refine Z9k (by simp [Z0.cells, Z0.one]) fun b3 hb3 => ?_
  (refine Z8y ?_; (repeat (first | refine Z9v rfl ?_ | refine Z9w ?_)); refine Z9u ?_)
  refine Z8a (FSub.refl _) (τ := (b2, .cells 5 [.agg [.bool nu, .int .i64 i, .int .i64 n, .slc 1 (bytes bs) false, .slc 5 (Zm5 vks) false]]) :: (b, .cells 6 [.agg [.int .i64 k, .slc 1 (ns.map .str) false, .slc 6 (Zln ks) false, .int .i64 l, .int .i64 p, .int .i64 s]]) :: (b3, .cells 6 [.agg [.int .i64 0, .slc 0 [] true, .slc 0 [] true, .int .i64 0, .int .i64 0, .int .i64 0]]) :: σ)
    (HSub.of_perm (List.Perm.trans (List.Perm.cons _ (List.Perm.swap _ _ _)) (List.Perm.swap _ _ _))) ?_
  refine Zb3 (d := 4) (cs := [.bool nu, .int .i64 i, .int .i64 n, .slc 1 (bytes bs) false, .slc 5 (Zm5 vks) false]) rfl ?_
  refine Zb3 (d := 3) (cs := [.int .i64 k, .slc 1 (ns.map .str) false, .slc 6 (Zln ks) false, .int .i64 l, .int .i64 p, .int .i64 s]) rfl ?_
  have fin : ∀ (R : Z87) (F : Z26), F 6 = some (.ptr b3 0 0) → (∀ F τ, R .ret F τ = ARet Zq8.res (fun r σ' => r = .agg (Zlo t') ∧ σ' = σ) .ret F τ) → AWp Try.prog Zq8.n .ret R F ((b3, .cells 6 [.agg (Zlo t')]) :: σ) := by
    intro R F hF hR
    refine Zb3 (d := 6) (cs := Zlo t') hF ?_
    refine Z8d ?_
    rw [hR]
    exact ares rfl (HSub.refl _) ⟨rfl, rfl⟩
  by_cases k10 : k = 10
  · subst k10
    (repeat (first | refine st_q rfl rfl rfl ?_ | refine Z8v rfl (st_q rfl rfl rfl ?_) | refine Z8w rfl ?_ | refine Z8x rfl ?_ | (refine Z8y ?_; (repeat (first | refine Z9v rfl ?_ | refine Z9w ?_)); refine Z9u ?_) | refine awp_seq ?_ | refine Zbm (fun _ _ => rfl) ?_ | refine Z8h ?_ | refine Zbn (fun _ _ => rfl) ?_ | refine Zbo (fun _ _ => rfl) ?_ | refine Z8f (t := true) rfl (fun _ => ?_) (fun e => by cases e) | refine Z8f (t := false) rfl (fun e => by cases e) (fun _ => ?_)))
    refine Z93 rfl (by omega) (show (Zln ks)[(0 : Int).toNat]? = _ from hx) ?_
    (repeat (first | refine st_q rfl rfl rfl ?_ | refine Z8v rfl (st_q rfl rfl rfl ?_) | refine Z8w rfl ?_ | refine Z8x rfl ?_ | (refine Z8y ?_; (repeat (first | refine Z9v rfl ?_ | refine Z9w ?_)); refine Z9u ?_) | refine awp_seq ?_ | refine Zbm (fun _ _ => rfl) ?_ | refine Z8h ?_ | refine Zbn (fun _ _ => rfl) ?_ | refine Zbo (fun _ _ => rfl) ?_ | refine Z8f (t := true) rfl (fun _ => ?_) (fun e => by cases e) | refine Z8f (t := false) rfl (fun e => by cases e) (fun _ => ?_)))
    refine Z9a rfl Z8z rfl (by decide) (Z0.fit_iff.1 rfl) (fun h => by cases h) Z9b ?_
    (repeat (first | refine st_q rfl rfl rfl ?_ | refine Z8v rfl (st_q rfl rfl rfl ?_) | refine Z8w rfl ?_ | refine Z8x rfl ?_ | (refine Z8y ?_; (repeat (first | refine Z9v rfl ?_ | refine Z9w ?_)); refine Z9u ?_) | refine awp_seq ?_ | refine Zbm (fun _ _ => rfl) ?_ | refine Z8h ?_ | refine Zbn (fun _ _ => rfl) ?_ | refine Zbo (fun _ _ => rfl) ?_ | refine Z8f (t := true) rfl (fun _ => ?_) (fun e => by cases e) | refine Z8f (t := false) rfl (fun e => by cases e) (fun _ => ?_)))
    exact fin _ _ rfl fun _ _ => rfl
  by_cases k11 : k = 11
  · subst k11
    (repeat (first | refine st_q rfl rfl rfl ?_ | refine Z8v rfl (st_q rfl rfl rfl ?_) | refine Z8w rfl ?_ | refine Z8x rfl ?_ | (refine Z8y ?_; (repeat (first | refine Z9v rfl ?_ | refine Z9w ?_)); refine Z9u ?_) | refine awp_seq ?_ | refine Zbm (fun _ _ => rfl) ?_ | refine Z8h ?_ | refine Zbn (fun _ _ => rfl) ?_ | refine Zbo (fun _ _ => rfl) ?_ | refine Z8f (t := true) rfl (fun _ => ?_) (fun e => by cases e) | refine Z8f (t := false) rfl (fun e => by cases e) (fun _ => ?_)))
    have e : (j : Int).tmod 2 = ((j % 2 : Nat) : Int) := by rw [Int.tmod_eq_emod_of_nonneg (by omega)]; omega
    rw [e]
    refine Z93 rfl (by omega) (show (Zln ks)[((j % 2 : Nat) : Int).toNat]? = _ by rw [Int.toNat_natCast]; exact hx) ?_
    (repeat (first | refine st_q rfl rfl rfl ?_ | refine Z8v rfl (st_q rfl rfl rfl ?_) | refine Z8w rfl ?_ | refine Z8x rfl ?_ | (refine Z8y ?_; (repeat (first | refine Z9v rfl ?_ | refine Z9w ?_)); refine Z9u ?_) | refine awp_seq ?_ | refine Zbm (fun _ _ => rfl) ?_ | refine Z8h ?_ | refine Zbn (fun _ _ => rfl) ?_ | refine Zbo (fun _ _ => rfl) ?_ | refine Z8f (t := true) rfl (fun _ => ?_) (fun e => by cases e) | refine Z8f (t := false) rfl (fun e => by cases e) (fun _ => ?_)))
    refine Z9a rfl Z8z rfl (by decide) (Z0.fit_iff.1 rfl) (fun h => by cases h) Z9b ?_
    (repeat (first | refine st_q rfl rfl rfl ?_ | refine Z8v rfl (st_q rfl rfl rfl ?_) | refine Z8w rfl ?_ | refine Z8x rfl ?_ | (refine Z8y ?_; (repeat (first | refine Z9v rfl ?_ | refine Z9w ?_)); refine Z9u ?_) | refine awp_seq ?_ | refine Zbm (fun _ _ => rfl) ?_ | refine Z8h ?_ | refine Zbn (fun _ _ => rfl) ?_ | refine Zbo (fun _ _ => rfl) ?_ | refine Z8f (t := true) rfl (fun _ => ?_) (fun e => by cases e) | refine Z8f (t := false) rfl (fun e => by cases e) (fun _ => ?_)))
    exact fin _ _ rfl fun _ _ => rfl
  by_cases k13 : k = 13
  · subst k13
    have h0 := hi rfl
    (repeat (first | refine st_q rfl rfl rfl ?_ | refine Z8v rfl (st_q rfl rfl rfl ?_) | refine Z8w rfl ?_ | refine Z8x rfl ?_ | (refine Z8y ?_; (repeat (first | refine Z9v rfl ?_ | refine Z9w ?_)); refine Z9u ?_) | refine awp_seq ?_ | refine Zbm (fun _ _ => rfl) ?_ | refine Z8h ?_ | refine Zbn (fun _ _ => rfl) ?_ | refine Zbo (fun _ _ => rfl) ?_ | refine Z8f (t := true) rfl (fun _ => ?_) (fun e => by cases e) | refine Z8f (t := false) rfl (fun e => by cases e) (fun _ => ?_)))
    refine Z93 rfl h0 (show (Zln ks)[i.toNat]? = _ from hx) ?_
    (repeat (first | refine st_q rfl rfl rfl ?_ | refine Z8v rfl (st_q rfl rfl rfl ?_) | refine Z8w rfl ?_ | refine Z8x rfl ?_ | (refine Z8y ?_; (repeat (first | refine Z9v rfl ?_ | refine Z9w ?_)); refine Z9u ?_) | refine awp_seq ?_ | refine Zbm (fun _ _ => rfl) ?_ | refine Z8h ?_ | refine Zbn (fun _ _ => rfl) ?_ | refine Zbo (fun _ _ => rfl) ?_ | refine Z8f (t := true) rfl (fun _ => ?_) (fun e => by cases e) | refine Z8f (t := false) rfl (fun e => by cases e) (fun _ => ?_)))
    refine Z9a rfl Z8z rfl (by decide) (Z0.fit_iff.1 rfl) (fun h => by cases h) Z9b ?_
    (repeat (first | refine st_q rfl rfl rfl ?_ | refine Z8v rfl (st_q rfl rfl rfl ?_) | refine Z8w rfl ?_ | refine Z8x rfl ?_ | (refine Z8y ?_; (repeat (first | refine Z9v rfl ?_ | refine Z9w ?_)); refine Z9u ?_) | refine awp_seq ?_ | refine Zbm (fun _ _ => rfl) ?_ | refine Z8h ?_ | refine Zbn (fun _ _ => rfl) ?_ | refine Zbo (fun _ _ => rfl) ?_ | refine Z8f (t := true) rfl (fun _ => ?_) (fun e => by cases e) | refine Z8f (t := false) rfl (fun e => by cases e) (fun _ => ?_)))
    exact fin _ _ rfl fun _ _ => rfl
  have hx' : (Zln ks)[(j : Int).toNat]? = some (.agg (Zlo t')) := by
    rw [Int.toNat_natCast, ← hx, Zmf, if_neg k10, if_neg k11, if_neg k13]
  (repeat (first | refine st_q rfl rfl rfl ?_ | refine Z8v rfl (st_q rfl rfl rfl ?_) | refine Z8w rfl ?_ | refine Z8x rfl ?_ | (refine Z8y ?_; (repeat (first | refine Z9v rfl ?_ | refine Z9w ?_)); refine Z9u ?_) | refine awp_seq ?_ | refine Zbm (fun _ _ => rfl) ?_ | refine Z8h ?_ | refine Zbn (fun _ _ => rfl) ?_ | refine Zbo (fun _ _ => rfl) ?_ | refine Z8f (t := true) rfl (fun _ => ?_) (fun e => by cases e) | refine Z8f (t := false) rfl (fun e => by cases e) (fun _ => ?_)))
  (rw [show decide (k = 10) = false from decide_eq_false (by omega)])
  (repeat (first | refine st_q rfl rfl rfl ?_ | refine Z8v rfl (st_q rfl rfl rfl ?_) | refine Z8w rfl ?_ | refine Z8x rfl ?_ | (refine Z8y ?_; (repeat (first | refine Z9v rfl ?_ | refine Z9w ?_)); refine Z9u ?_) | refine awp_seq ?_ | refine Zbm (fun _ _ => rfl) ?_ | refine Z8h ?_ | refine Zbn (fun _ _ => rfl) ?_ | refine Zbo (fun _ _ => rfl) ?_ | refine Z8f (t := true) rfl (fun _ => ?_) (fun e => by cases e) | refine Z8f (t := false) rfl (fun e => by cases e) (fun _ => ?_)))
  (rw [show decide (k = 11) = false from decide_eq_false (by omega)])
  (repeat (first | refine st_q rfl rfl rfl ?_ | refine Z8v rfl (st_q rfl rfl rfl ?_) | refine Z8w rfl ?_ | refine Z8x rfl ?_ | (refine Z8y ?_; (repeat (first | refine Z9v rfl ?_ | refine Z9w ?_)); refine Z9u ?_) | refine awp_seq ?_ | refine Zbm (fun _ _ => rfl) ?_ | refine Z8h ?_ | refine Zbn (fun _ _ => rfl) ?_ | refine Zbo (fun _ _ => rfl) ?_ | refine Z8f (t := true) rfl (fun _ => ?_) (fun e => by cases e) | refine Z8f (t := false) rfl (fun e => by cases e) (fun _ => ?_)))
  (rw [show decide (k = 13) = false from decide_eq_false (by omega)])
  (repeat (first | refine st_q rfl rfl rfl ?_ | refine Z8v rfl (st_q rfl rfl rfl ?_) | refine Z8w rfl ?_ | refine Z8x rfl ?_ | (refine Z8y ?_; (repeat (first | refine Z9v rfl ?_ | refine Z9w ?_)); refine Z9u ?_) | refine awp_seq ?_ | refine Zbm (fun _ _ => rfl) ?_ | refine Z8h ?_ | refine Zbn (fun _ _ => rfl) ?_ | refine Zbo (fun _ _ => rfl) ?_ | refine Z8f (t := true) rfl (fun _ => ?_) (fun e => by cases e) | refine Z8f (t := false) rfl (fun e => by cases e) (fun _ => ?_)))
  refine Z93 rfl (by omega) hx' ?_
  (repeat (first | refine st_q rfl rfl rfl ?_ | refine Z8v rfl (st_q rfl rfl rfl ?_) | refine Z8w rfl ?_ | refine Z8x rfl ?_ | (refine Z8y ?_; (repeat (first | refine Z9v rfl ?_ | refine Z9w ?_)); refine Z9u ?_) | refine awp_seq ?_ | refine Zbm (fun _ _ => rfl) ?_ | refine Z8h ?_ | refine Zbn (fun _ _ => rfl) ?_ | refine Zbo (fun _ _ => rfl) ?_ | refine Z8f (t := true) rfl (fun _ => ?_) (fun e => by cases e) | refine Z8f (t := false) rfl (fun e => by cases e) (fun _ => ?_)))
  refine Z9a rfl Z8z rfl (by decide) (Z0.fit_iff.1 rfl) (fun h => by cases h) Z9b ?_
  (repeat (first | refine st_q rfl rfl rfl ?_ | refine Z8v rfl (st_q rfl rfl rfl ?_) | refine Z8w rfl ?_ | refine Z8x rfl ?_ | (refine Z8y ?_; (repeat (first | refine Z9v rfl ?_ | refine Z9w ?_)); refine Z9u ?_) | refine awp_seq ?_ | refine Zbm (fun _ _ => rfl) ?_ | refine Z8h ?_ | refine Zbn (fun _ _ => rfl) ?_ | refine Zbo (fun _ _ => rfl) ?_ | refine Z8f (t := true) rfl (fun _ => ?_) (fun e => by cases e) | refine Z8f (t := false) rfl (fun e => by cases e) (fun _ => ?_)))
  exact fin _ _ rfl fun _ _ => rfl
end Go.Abs
namespace Go.Abs
open Go Go.Proofs
set_option linter.unusedVariables false
set_option linter.unusedSimpArgs false
set_option maxHeartbeats 4000000
inductive Ty.Ok : Ty → Prop
  | mk {t : Ty} (h1 : ownF t.kind t.names t.kids.length t.len t.prec t.scale = 0) (h : ∀ k ∈ t.kids, Ty.Ok k) : Ty.Ok t
inductive Vl.Fit : Vl → Prop
  | mk {v : Vl} (h1 : -9223372036854775808 ≤ v.i ∧ v.i ≤ 9223372036854775807) (h2 : v.b.length ≤ 9223372036854775807) (h3 : v.kids.length ≤ 9223372036854775807) (h : ∀ k ∈ v.kids, Vl.Fit k) : Vl.Fit v
theorem Ztu : ∀ (t : Ty) (deep n : Nat), (chk deep n t).2 = 0 → t.Ok := by
  refine Ty.ind fun k ns ks l p s ih deep n h => ?_
  have hL : ∀ (ks : List Ty), (∀ t ∈ ks, ∀ (deep n : Nat), (chk deep n t).2 = 0 → t.Ok) → ∀ deep n, (chkL deep n ks).2 = 0 → ∀ t ∈ ks, t.Ok := by
    intro ks
    induction ks with
    | nil => intro _ deep n h t ht; cases ht
    | cons t ts ih2 =>
      intro ht deep n h u hu
      rw [chkL] at h
      split at h
      · rename_i hne; exact absurd h hne
      · rename_i hne
        rcases List.mem_cons.1 hu with rfl | hu
        · exact ht u (by simp) deep n (by simpa using hne)
        · exact ih2 (fun t ht' => ht t (by simp [ht'])) deep _ h u hu
  rw [chk] at h
  split at h
  · simp at h
  · split at h
    · rename_i ho; exact absurd h ho
    · rename_i ho
      refine .mk ?_ (hL ks ih (deep + 1) (n + 1) h)
      show ownF k ns ks.length l p s = 0
      simpa using ho
theorem Ty.Ok.kinds {t : Ty} (h : t.Ok) : Zlv t.kind t.names.length t.kids.length = true ∧ 0 ≤ t.kind ∧ t.kind ≤ 17 := by
  cases h with
  | mk h1 _ =>
    rw [ownF] at h1
    split at h1
    · cases h1
    · split at h1
      · cases h1
      · rename_i hr
        simp only [not_or, Bool.not_eq_false] at hr
        have := hr.2.2
        simp only [Zlw, Bool.and_eq_true] at this
        exact ⟨this.1.1.1.1, by omega, by omega⟩
theorem Ztv {t : Ty} (h : t.Ok) {i n : Int} {b : List UInt8} {ks j : Nat} (ho : ownV t i n b ks = 0) (hj : j < ks) : Zmf t.kind i j < t.kids.length ∧ (t.kind = 13 → 0 ≤ i) := by
  obtain ⟨h1, h2, h3⟩ := h.kinds
  simp only [ownV] at ho
  split at ho
  · cases ho
  rename_i hA
  simp only [not_or, not_and, Bool.not_eq_false, Bool.not_eq_true] at hA
  obtain ⟨a1, _, a3⟩ := hA
  have hleaf := a3 (by omega)
  simp only [Zlt, Bool.not_eq_false', Bool.or_eq_true, decide_eq_true_eq] at hleaf
  split at ho
  · cases ho
  simp only [Zlv] at h1
  simp only [Zmf]
  by_cases k10 : t.kind = 10
  · rw [if_pos k10] at h1 ⊢
    simp at h1
    exact ⟨by omega, by omega⟩
  rw [if_neg k10] at h1 ⊢
  by_cases k11 : t.kind = 11
  · rw [if_pos k11] at h1 ⊢
    simp at h1
    exact ⟨by omega, by omega⟩
  rw [if_neg k11] at h1 ⊢
  by_cases k13 : t.kind = 13
  · rw [if_pos k13]
    have : decide (0 ≤ i ∧ i < (t.kids.length : Int)) = true := by
      rw [Zme] at a1
      split at a1
      · cases a1
      · simpa [k13] using a1
    simp at this
    exact ⟨by omega, fun _ => this.1⟩
  rw [if_neg k13]
  have k12 : t.kind = 12 := by omega
  rw [if_neg k10, if_neg k11, if_pos k12] at ho
  split at ho
  · cases ho
  · exact ⟨by omega, fun h => absurd h k13⟩
theorem Ztw {t : Ty} (h : t.Ok) {i : Int} {j : Nat} (hlt : Zmf t.kind i j < t.kids.length) : (kidT t i j).Ok := by
  cases h with
  | mk _ hk =>
    refine hk _ ?_
    rw [kidT, List.getD_eq_getElem?_getD, List.getElem?_eq_getElem hlt]
    exact List.getElem_mem hlt
theorem Ztx (t : Ty) (i : Int) : ∀ (ks : List Vl) (j : Nat) (v : Vl), ks[j]? = some v → Zmg t i j (ks.drop j) = if t.kind = 11 ∧ j % 2 = 0 ∧ v.null = true then 1 else if vchk (kidT t i j) v ≠ 0 then vchk (kidT t i j) v else Zmg t i (j + 1) (ks.drop (j + 1)) := by
  intro ks j v h
  obtain ⟨hj, rfl⟩ := List.getElem?_eq_some_iff.1 h
  rw [List.drop_eq_getElem_cons hj, Zmg]
theorem Zty : ∀ (v : Vl) (t : Ty), vchk t v ≤ 4 := by
  refine Vl.ind fun nu i n b ks ih t => ?_
  have hL : ∀ (ks : List Vl), (∀ v ∈ ks, ∀ t : Ty, vchk t v ≤ 4) → ∀ j, Zmg t i j ks ≤ 4 := by
    intro ks
    induction ks with
    | nil => intro _ j; simp [Zmg]
    | cons v vs ih2 =>
      intro h j
      rw [Zmg]
      split
      · omega
      · split
        · exact h v (by simp) _
        · exact ih2 (fun v hv => h v (by simp [hv])) _
  rw [vchk]
  split
  · split <;> omega
  · split
    · simp only [ownV]; (repeat' split) <;> omega
    · exact hL ks ih 0
attribute [local irreducible] AWp aops
theorem Ztz : ∀ (v : Vl), v.Fit → ∀ (t : Ty), t.Ok → ∀ σ, Z1q Try.prog Zde [encT t, encV v] σ fun r σ' => r = .int .i64 (vchk t v : Int) ∧ σ' = σ := by
  refine Vl.ind fun nu i n bs vks ih hfit t hok σ => ?_
  cases hfit with
  | mk hi hbl hkl hkids =>
  have hka := fun (j : Nat) (hj : j < vks.length) (ho : ownV t i n bs vks.length = 0) => Ztv hok ho hj
  have hko := fun (j : Nat) (hlt : Zmf t.kind i j < t.kids.length) => Ztw (i := i) (j := j) hok hlt
  have hnum := Zts t i n hi.1 hi.2
  have hkid := fun (j : Nat) (hj : j ≤ 9223372036854775807) => Ztt t i n nu bs vks j hj
  obtain ⟨k, ns, ks, l, p, s⟩ := t
  simp only [encT, encV, Ty.kind, Ty.kids, Ty.prec, Vl.i, Vl.b, Vl.kids] at *
  refine Z8t rfl Zt0 (Nat.le_of_ble_eq_true rfl) ?_
  refine Z9z ?_
  refine Z9j rfl (Z0.fit_iff.1 rfl) fun b1 hb1 => ?_
  refine Z9j rfl (Z0.fit_iff.1 rfl) fun b2 hb2 => ?_
  (repeat (refine st_q rfl rfl rfl ?_))
  (refine Z8y ?_; (repeat (first | refine Z9v rfl ?_ | refine Z9w ?_)); refine Z9u ?_)
  refine Zb3 (d := 3) (cs := [.bool nu, .int .i64 i, .int .i64 n, .slc 1 (bytes bs) false, .slc 5 (Zm5 vks) false]) rfl ?_
  refine Zb3 (d := 2) (cs := [.int .i64 k, .slc 1 (ns.map .str) false, .slc 6 (Zln ks) false, .int .i64 l, .int .i64 p, .int .i64 s]) rfl ?_
  (refine Z9y (keep := [2, 3]) ?_; ((repeat (first | refine Z9v rfl ?_ | refine Z9w ?_)); refine Z9u ?_))
  generalize hX : vchk (.mk k ns ks l p s) (.mk nu i n bs vks) = X
  have hX' := hX
  rw [vchk] at hX'
  have ret : ∀ (x : Nat) (R : Z87) (F : Z26), F 4 = some (.int .i64 (x : Int)) → X = x → (∀ F τ, R .ret F τ = ARet Zor.res (fun r σ' => r = .int .i64 (X : Int) ∧ σ' = σ) .ret F τ) → AWp Try.prog Zor.n .ret R F σ := by
    intro x R F hF hx hR
    refine Z8d ?_
    rw [hR]
    exact ares (vs := [.int .i64 (x : Int)]) (by simp [Z8l, Z8k, Zor, hF]) (HSub.refl _) ⟨by rw [hx]; rfl, rfl⟩
  cases nu with
  | true =>
    rw [if_pos rfl] at hX'
    (repeat (first | refine st_q rfl rfl rfl ?_ | refine Z8v rfl (st_q rfl rfl rfl ?_) | refine Z8w rfl ?_ | refine Z8x rfl ?_ | (refine Z8y ?_; (repeat (first | refine Z9v rfl ?_ | refine Z9w ?_)); refine Z9u ?_) | refine awp_seq ?_ | refine Zbm (fun _ _ => rfl) ?_ | refine Z8h ?_ | refine Zbn (fun _ _ => rfl) ?_ | refine Zbo (fun _ _ => rfl) ?_ | refine Z8f (t := true) rfl (fun _ => ?_) (fun e => by cases e) | refine Z8f (t := false) rfl (fun e => by cases e) (fun _ => ?_)))
    by_cases q1 : i = 0
    · (rw [show decide (i ≠ 0) = false from decide_eq_false (by omega)])
      (repeat (first | refine st_q rfl rfl rfl ?_ | refine Z8v rfl (st_q rfl rfl rfl ?_) | refine Z8w rfl ?_ | refine Z8x rfl ?_ | (refine Z8y ?_; (repeat (first | refine Z9v rfl ?_ | refine Z9w ?_)); refine Z9u ?_) | refine awp_seq ?_ | refine Zbm (fun _ _ => rfl) ?_ | refine Z8h ?_ | refine Zbn (fun _ _ => rfl) ?_ | refine Zbo (fun _ _ => rfl) ?_ | refine Z8f (t := true) rfl (fun _ => ?_) (fun e => by cases e) | refine Z8f (t := false) rfl (fun e => by cases e) (fun _ => ?_)))
      by_cases q2 : n = 0
      · (rw [show decide (n ≠ 0) = false from decide_eq_false (by omega)])
        (repeat (first | refine st_q rfl rfl rfl ?_ | refine Z8v rfl (st_q rfl rfl rfl ?_) | refine Z8w rfl ?_ | refine Z8x rfl ?_ | (refine Z8y ?_; (repeat (first | refine Z9v rfl ?_ | refine Z9w ?_)); refine Z9u ?_) | refine awp_seq ?_ | refine Zbm (fun _ _ => rfl) ?_ | refine Z8h ?_ | refine Zbn (fun _ _ => rfl) ?_ | refine Zbo (fun _ _ => rfl) ?_ | refine Z8f (t := true) rfl (fun _ => ?_) (fun e => by cases e) | refine Z8f (t := false) rfl (fun e => by cases e) (fun _ => ?_)))
        rw [Zam]
        by_cases q3 : bs = []
        · rw [show decide ((0 : Int) < ((bs.length : Nat) : Int)) = false from decide_eq_false (by rw [q3]; simp)]
          (repeat (first | refine st_q rfl rfl rfl ?_ | refine Z8v rfl (st_q rfl rfl rfl ?_) | refine Z8w rfl ?_ | refine Z8x rfl ?_ | (refine Z8y ?_; (repeat (first | refine Z9v rfl ?_ | refine Z9w ?_)); refine Z9u ?_) | refine awp_seq ?_ | refine Zbm (fun _ _ => rfl) ?_ | refine Z8h ?_ | refine Zbn (fun _ _ => rfl) ?_ | refine Zbo (fun _ _ => rfl) ?_ | refine Z8f (t := true) rfl (fun _ => ?_) (fun e => by cases e) | refine Z8f (t := false) rfl (fun e => by cases e) (fun _ => ?_)))
          rw [Zm9]
          by_cases q4 : vks.length = 0
          · (rw [show decide ((0 : Int) < ((vks.length : Nat) : Int)) = false from decide_eq_false (by omega)])
            (repeat (first | refine st_q rfl rfl rfl ?_ | refine Z8v rfl (st_q rfl rfl rfl ?_) | refine Z8w rfl ?_ | refine Z8x rfl ?_ | (refine Z8y ?_; (repeat (first | refine Z9v rfl ?_ | refine Z9w ?_)); refine Z9u ?_) | refine awp_seq ?_ | refine Zbm (fun _ _ => rfl) ?_ | refine Z8h ?_ | refine Zbn (fun _ _ => rfl) ?_ | refine Zbo (fun _ _ => rfl) ?_ | refine Z8f (t := true) rfl (fun _ => ?_) (fun e => by cases e) | refine Z8f (t := false) rfl (fun e => by cases e) (fun _ => ?_)))
            exact ret 0 _ _ rfl (by rw [← hX']; simp [q1, q2, q3, q4]) fun _ _ => rfl
          · (rw [show decide ((0 : Int) < ((vks.length : Nat) : Int)) = true from decide_eq_true (by omega)])
            (repeat (first | refine st_q rfl rfl rfl ?_ | refine Z8v rfl (st_q rfl rfl rfl ?_) | refine Z8w rfl ?_ | refine Z8x rfl ?_ | (refine Z8y ?_; (repeat (first | refine Z9v rfl ?_ | refine Z9w ?_)); refine Z9u ?_) | refine awp_seq ?_ | refine Zbm (fun _ _ => rfl) ?_ | refine Z8h ?_ | refine Zbn (fun _ _ => rfl) ?_ | refine Zbo (fun _ _ => rfl) ?_ | refine Z8f (t := true) rfl (fun _ => ?_) (fun e => by cases e) | refine Z8f (t := false) rfl (fun e => by cases e) (fun _ => ?_)))
            exact ret 1 _ _ rfl (by rw [← hX']; simp [q4]) fun _ _ => rfl
        · have := List.length_pos_iff.2 q3
          (rw [show decide ((0 : Int) < ((bs.length : Nat) : Int)) = true from decide_eq_true (by omega)])
          (repeat (first | refine st_q rfl rfl rfl ?_ | refine Z8v rfl (st_q rfl rfl rfl ?_) | refine Z8w rfl ?_ | refine Z8x rfl ?_ | (refine Z8y ?_; (repeat (first | refine Z9v rfl ?_ | refine Z9w ?_)); refine Z9u ?_) | refine awp_seq ?_ | refine Zbm (fun _ _ => rfl) ?_ | refine Z8h ?_ | refine Zbn (fun _ _ => rfl) ?_ | refine Zbo (fun _ _ => rfl) ?_ | refine Z8f (t := true) rfl (fun _ => ?_) (fun e => by cases e) | refine Z8f (t := false) rfl (fun e => by cases e) (fun _ => ?_)))
          exact ret 1 _ _ rfl (by rw [← hX']; simp [q3]) fun _ _ => rfl
      · (rw [show decide (n ≠ 0) = true from decide_eq_true (by omega)])
        (repeat (first | refine st_q rfl rfl rfl ?_ | refine Z8v rfl (st_q rfl rfl rfl ?_) | refine Z8w rfl ?_ | refine Z8x rfl ?_ | (refine Z8y ?_; (repeat (first | refine Z9v rfl ?_ | refine Z9w ?_)); refine Z9u ?_) | refine awp_seq ?_ | refine Zbm (fun _ _ => rfl) ?_ | refine Z8h ?_ | refine Zbn (fun _ _ => rfl) ?_ | refine Zbo (fun _ _ => rfl) ?_ | refine Z8f (t := true) rfl (fun _ => ?_) (fun e => by cases e) | refine Z8f (t := false) rfl (fun e => by cases e) (fun _ => ?_)))
        exact ret 1 _ _ rfl (by rw [← hX']; simp [q2]) fun _ _ => rfl
    · (rw [show decide (i ≠ 0) = true from decide_eq_true (by omega)])
      (repeat (first | refine st_q rfl rfl rfl ?_ | refine Z8v rfl (st_q rfl rfl rfl ?_) | refine Z8w rfl ?_ | refine Z8x rfl ?_ | (refine Z8y ?_; (repeat (first | refine Z9v rfl ?_ | refine Z9w ?_)); refine Z9u ?_) | refine awp_seq ?_ | refine Zbm (fun _ _ => rfl) ?_ | refine Z8h ?_ | refine Zbn (fun _ _ => rfl) ?_ | refine Zbo (fun _ _ => rfl) ?_ | refine Z8f (t := true) rfl (fun _ => ?_) (fun e => by cases e) | refine Z8f (t := false) rfl (fun e => by cases e) (fun _ => ?_)))
      exact ret 1 _ _ rfl (by rw [← hX']; simp [q1]) fun _ _ => rfl
  | false =>
    rw [if_neg (by simp)] at hX'
    have bad : ∀ x : Nat, x ≠ 0 → ownV (.mk k ns ks l p s) i n bs vks.length = x → X = x := fun x hx h => by rw [← hX', h, if_pos hx]
    have hO : ownV (.mk k ns ks l p s) i n bs vks.length = (if Zme k ks.length p i n = false ∨ (bs ≠ [] ∧ Zmb k = false) ∨ (vks.length ≠ 0 ∧ Zlt k = true) then 1
      else if 4096 < bs.length ∨ ((k = 16 ∨ k = 17) ∧ l < (Zmc bs : Int)) then 4
      else if k = 10 then (if 16384 < vks.length then 4 else 0)
      else if k = 11 then (if vks.length % 2 ≠ 0 then 1 else if 32768 < vks.length then 4 else 0)
      else if k = 12 then (if vks.length ≠ ks.length then 1 else 0)
      else if k = 13 then (if vks.length ≠ 1 then 1 else 0)
      else 0) := rfl
    refine awp_seq ?_
    refine awp_seq ?_
    refine Zbm (fun _ _ => rfl) ?_
    (repeat (refine st_q rfl rfl rfl ?_))
    (refine Z8y ?_; (repeat (first | refine Z9v rfl ?_ | refine Z9w ?_)); refine Z9u ?_)
    refine Z8f (t := false) rfl (fun e => by cases e) (fun _ => ?_)
    refine Zbn (fun _ _ => rfl) ?_
    refine awp_seq ?_
    refine awp_seq ?_
    refine Zae (fun F' σ' => σ' = σ ∧ ∃ d : Bool, (d = true ↔ (Zme k ks.length p i n = false ∨ (bs ≠ [] ∧ Zmb k = false) ∨ (vks.length ≠ 0 ∧ Zlt k = true))) ∧
      KP [2, 3, 59] F' fun G => G = fset 2 (some (.iptr [.int .i64 k, .slc 1 (ns.map .str) false, .slc 6 (Zln ks) false, .int .i64 l, .int .i64 p, .int .i64 s])) (fset 3 (some (.iptr [.bool false, .int .i64 i, .int .i64 n, .slc 1 (bytes bs) false, .slc 5 (Zm5 vks) false])) (fset 59 (some (.bool d)) Z27))) ?_ ?_
    · (repeat (first | refine st_q rfl rfl rfl ?_ | refine Z8v rfl (st_q rfl rfl rfl ?_) | refine Z8w rfl ?_ | refine Z8x rfl ?_))
      refine Z9t rfl (hnum _) ?_
      cases hN : Zme k ks.length p i n with
      | false =>
        (repeat (first | refine st_q rfl rfl rfl ?_ | refine Z8v rfl (st_q rfl rfl rfl ?_) | refine Z8w rfl ?_ | refine Z8x rfl ?_))
        refine Z8y ⟨rfl, true, by simp, ?_⟩
        ((repeat (first | refine Z9v rfl ?_ | refine Z9w ?_)); refine Z9u ?_)
        rfl
      | true =>
        (repeat (first | refine st_q rfl rfl rfl ?_ | refine Z8v rfl (st_q rfl rfl rfl ?_) | refine Z8w rfl ?_ | refine Z8x rfl ?_))
        rw [Zam]
        have t3 : ∀ d : Bool, (d = true ↔ (vks.length ≠ 0 ∧ Zlt k = true)) → (bs = [] ∨ Zmb k = true) → (d = true ↔ (true = false ∨ (bs ≠ [] ∧ Zmb k = false) ∨ (vks.length ≠ 0 ∧ Zlt k = true))) := by
          intro d hd hb
          rw [hd]
          constructor
          · exact fun h => .inr (.inr h)
          · rintro (h | h | h)
            · cases h
            · rcases hb with hb | hb
              · exact absurd hb h.1
              · rw [hb] at h; simp at h
            · exact h
        by_cases q3 : bs = []
        · rw [show decide ((0 : Int) < ((bs.length : Nat) : Int)) = false from decide_eq_false (by rw [q3]; simp)]
          (repeat (first | refine st_q rfl rfl rfl ?_ | refine Z8v rfl (st_q rfl rfl rfl ?_) | refine Z8w rfl ?_ | refine Z8x rfl ?_))
          rw [Zm9]
          by_cases q4 : vks.length = 0
          · (rw [show decide ((0 : Int) < ((vks.length : Nat) : Int)) = false from decide_eq_false (by omega)])
            (repeat (first | refine st_q rfl rfl rfl ?_ | refine Z8v rfl (st_q rfl rfl rfl ?_) | refine Z8w rfl ?_ | refine Z8x rfl ?_))
            refine Z8y ⟨rfl, false, t3 _ (by simp [q4]) (.inl q3), ?_⟩
            ((repeat (first | refine Z9v rfl ?_ | refine Z9w ?_)); refine Z9u ?_)
            rfl
          · (rw [show decide ((0 : Int) < ((vks.length : Nat) : Int)) = true from decide_eq_true (by omega)])
            (repeat (first | refine st_q rfl rfl rfl ?_ | refine Z8v rfl (st_q rfl rfl rfl ?_) | refine Z8w rfl ?_ | refine Z8x rfl ?_))
            refine Z8v rfl (Z9t rfl (Ztm k _) ?_)
            (repeat (first | refine st_q rfl rfl rfl ?_ | refine Z8v rfl (st_q rfl rfl rfl ?_) | refine Z8w rfl ?_ | refine Z8x rfl ?_))
            refine Z8y ⟨rfl, Zlt k, t3 _ (by simp [q4]) (.inl q3), ?_⟩
            ((repeat (first | refine Z9v rfl ?_ | refine Z9w ?_)); refine Z9u ?_)
            rfl
        · have hbp := List.length_pos_iff.2 q3
          (rw [show decide ((0 : Int) < ((bs.length : Nat) : Int)) = true from decide_eq_true (by omega)])
          (repeat (first | refine st_q rfl rfl rfl ?_ | refine Z8v rfl (st_q rfl rfl rfl ?_) | refine Z8w rfl ?_ | refine Z8x rfl ?_))
          refine Z8v rfl (Z9t rfl (Ztl k _) ?_)
          cases hT : Zmb k with
          | false =>
            (repeat (first | refine st_q rfl rfl rfl ?_ | refine Z8v rfl (st_q rfl rfl rfl ?_) | refine Z8w rfl ?_ | refine Z8x rfl ?_))
            refine Z8y ⟨rfl, true, by simp [q3], ?_⟩
            ((repeat (first | refine Z9v rfl ?_ | refine Z9w ?_)); refine Z9u ?_)
            rfl
          | true =>
            rw [hT] at t3
            (repeat (first | refine st_q rfl rfl rfl ?_ | refine Z8v rfl (st_q rfl rfl rfl ?_) | refine Z8w rfl ?_ | refine Z8x rfl ?_))
            rw [Zm9]
            by_cases q4 : vks.length = 0
            · (rw [show decide ((0 : Int) < ((vks.length : Nat) : Int)) = false from decide_eq_false (by omega)])
              (repeat (first | refine st_q rfl rfl rfl ?_ | refine Z8v rfl (st_q rfl rfl rfl ?_) | refine Z8w rfl ?_ | refine Z8x rfl ?_))
              refine Z8y ⟨rfl, false, t3 _ (by simp [q4]) (.inr rfl), ?_⟩
              ((repeat (first | refine Z9v rfl ?_ | refine Z9w ?_)); refine Z9u ?_)
              rfl
            · (rw [show decide ((0 : Int) < ((vks.length : Nat) : Int)) = true from decide_eq_true (by omega)])
              (repeat (first | refine st_q rfl rfl rfl ?_ | refine Z8v rfl (st_q rfl rfl rfl ?_) | refine Z8w rfl ?_ | refine Z8x rfl ?_))
              refine Z8v rfl (Z9t rfl (Ztm k _) ?_)
              (repeat (first | refine st_q rfl rfl rfl ?_ | refine Z8v rfl (st_q rfl rfl rfl ?_) | refine Z8w rfl ?_ | refine Z8x rfl ?_))
              refine Z8y ⟨rfl, Zlt k, t3 _ (by simp [q4]) (.inr rfl), ?_⟩
              ((repeat (first | refine Z9v rfl ?_ | refine Z9w ?_)); refine Z9u ?_)
              rfl
    rintro F' σ1 ⟨rfl, d, hd, G, hG, rfl⟩
    refine Z9y (keep := [2, 3, 59]) ⟨_, hG, ?_⟩
    cases d with
    | true =>
      (repeat (first | refine st_q rfl rfl rfl ?_ | refine Z8v rfl (st_q rfl rfl rfl ?_) | refine Z8w rfl ?_ | refine Z8x rfl ?_ | (refine Z8y ?_; (repeat (first | refine Z9v rfl ?_ | refine Z9w ?_)); refine Z9u ?_) | refine awp_seq ?_ | refine Zbm (fun _ _ => rfl) ?_ | refine Z8h ?_ | refine Zbn (fun _ _ => rfl) ?_ | refine Zbo (fun _ _ => rfl) ?_ | refine Z8f (t := true) rfl (fun _ => ?_) (fun e => by cases e) | refine Z8f (t := false) rfl (fun e => by cases e) (fun _ => ?_)))
      exact ret 1 _ _ rfl (bad 1 (by decide) (by rw [hO, if_pos (hd.1 rfl)])) fun _ _ => rfl
    | false =>
      have hA : ¬ (Zme k ks.length p i n = false ∨ (bs ≠ [] ∧ Zmb k = false) ∨ (vks.length ≠ 0 ∧ Zlt k = true)) := fun h => by have := hd.2 h; cases this
      rw [if_neg hA] at hO
      refine Z8f (t := false) rfl (fun e => by cases e) (fun _ => ?_)
      refine Zbn (fun _ _ => rfl) ?_
      refine awp_seq ?_
      refine awp_seq ?_
      refine Zae (fun F' σ' => σ' = σ1 ∧ ∃ d : Bool, (d = true ↔ (4096 < bs.length ∨ ((k = 16 ∨ k = 17) ∧ l < (Zmc bs : Int)))) ∧
        KP [2, 3, 81] F' fun G => G = fset 2 (some (.iptr [.int .i64 k, .slc 1 (ns.map .str) false, .slc 6 (Zln ks) false, .int .i64 l, .int .i64 p, .int .i64 s])) (fset 3 (some (.iptr [.bool false, .int .i64 i, .int .i64 n, .slc 1 (bytes bs) false, .slc 5 (Zm5 vks) false])) (fset 81 (some (.bool d)) Z27))) ?_ ?_
      · (repeat (first | refine st_q rfl rfl rfl ?_ | refine Z8v rfl (st_q rfl rfl rfl ?_) | refine Z8w rfl ?_ | refine Z8x rfl ?_))
        rw [Zam]
        by_cases q1 : 4096 < bs.length
        · (rw [show decide ((4096 : Int) < ((bs.length : Nat) : Int)) = true from decide_eq_true (by omega)])
          (repeat (first | refine st_q rfl rfl rfl ?_ | refine Z8v rfl (st_q rfl rfl rfl ?_) | refine Z8w rfl ?_ | refine Z8x rfl ?_))
          refine Z8y ⟨rfl, true, by simp [q1], ?_⟩
          ((repeat (first | refine Z9v rfl ?_ | refine Z9w ?_)); refine Z9u ?_)
          rfl
        · (rw [show decide ((4096 : Int) < ((bs.length : Nat) : Int)) = false from decide_eq_false (by omega)])
          (repeat (first | refine st_q rfl rfl rfl ?_ | refine Z8v rfl (st_q rfl rfl rfl ?_) | refine Z8w rfl ?_ | refine Z8x rfl ?_))
          by_cases q2 : k = 16
          · (rw [show decide (k = 16) = true from decide_eq_true (by omega)])
            (repeat (first | refine st_q rfl rfl rfl ?_ | refine Z8v rfl (st_q rfl rfl rfl ?_) | refine Z8w rfl ?_ | refine Z8x rfl ?_))
            refine Z8v rfl (Zbw rfl (fun σ => Ztr bs false hbl σ) ?_)
            (repeat (first | refine st_q rfl rfl rfl ?_ | refine Z8v rfl (st_q rfl rfl rfl ?_) | refine Z8w rfl ?_ | refine Z8x rfl ?_))
            refine Z8y ⟨rfl, decide (l < (Zmc bs : Int)), by simp [q1, q2], ?_⟩
            ((repeat (first | refine Z9v rfl ?_ | refine Z9w ?_)); refine Z9u ?_)
            rfl
          · (rw [show decide (k = 16) = false from decide_eq_false (by omega)])
            (repeat (first | refine st_q rfl rfl rfl ?_ | refine Z8v rfl (st_q rfl rfl rfl ?_) | refine Z8w rfl ?_ | refine Z8x rfl ?_))
            by_cases q3 : k = 17
            · (rw [show decide (k = 17) = true from decide_eq_true (by omega)])
              (repeat (first | refine st_q rfl rfl rfl ?_ | refine Z8v rfl (st_q rfl rfl rfl ?_) | refine Z8w rfl ?_ | refine Z8x rfl ?_))
              refine Z8v rfl (Zbw rfl (fun σ => Ztr bs false hbl σ) ?_)
              (repeat (first | refine st_q rfl rfl rfl ?_ | refine Z8v rfl (st_q rfl rfl rfl ?_) | refine Z8w rfl ?_ | refine Z8x rfl ?_))
              refine Z8y ⟨rfl, decide (l < (Zmc bs : Int)), by simp [q1, q3], ?_⟩
              ((repeat (first | refine Z9v rfl ?_ | refine Z9w ?_)); refine Z9u ?_)
              rfl
            · (rw [show decide (k = 17) = false from decide_eq_false (by omega)])
              (repeat (first | refine st_q rfl rfl rfl ?_ | refine Z8v rfl (st_q rfl rfl rfl ?_) | refine Z8w rfl ?_ | refine Z8x rfl ?_))
              refine Z8y ⟨rfl, false, by simp [q1, q2, q3], ?_⟩
              ((repeat (first | refine Z9v rfl ?_ | refine Z9w ?_)); refine Z9u ?_)
              rfl
      rintro F' σ2 ⟨rfl, d, hd, G, hG, rfl⟩
      refine Z9y (keep := [2, 3, 81]) ⟨_, hG, ?_⟩
      cases d with
      | true =>
        (repeat (first | refine st_q rfl rfl rfl ?_ | refine Z8v rfl (st_q rfl rfl rfl ?_) | refine Z8w rfl ?_ | refine Z8x rfl ?_ | (refine Z8y ?_; (repeat (first | refine Z9v rfl ?_ | refine Z9w ?_)); refine Z9u ?_) | refine awp_seq ?_ | refine Zbm (fun _ _ => rfl) ?_ | refine Z8h ?_ | refine Zbn (fun _ _ => rfl) ?_ | refine Zbo (fun _ _ => rfl) ?_ | refine Z8f (t := true) rfl (fun _ => ?_) (fun e => by cases e) | refine Z8f (t := false) rfl (fun e => by cases e) (fun _ => ?_)))
        exact ret 4 _ _ rfl (bad 4 (by decide) (by rw [hO, if_pos (hd.1 rfl)])) fun _ _ => rfl
      | false =>
        have hB : ¬ (4096 < bs.length ∨ ((k = 16 ∨ k = 17) ∧ l < (Zmc bs : Int))) := fun h => by have := hd.2 h; cases this
        rw [if_neg hB] at hO
        refine Z8f (t := false) rfl (fun e => by cases e) (fun _ => ?_)
        refine Zbn (fun _ _ => rfl) ?_
        refine Z9z ?_
        (repeat (refine st_q rfl rfl rfl ?_))
        rw [Zm9]
        (refine Z8y ?_; (repeat (first | refine Z9v rfl ?_ | refine Z9w ?_)); refine Z9u ?_)
        have key : ∀ rest : Z2b, (ownV (.mk k ns ks l p s) i n bs vks.length = 0 → AWp Try.prog Zor.n rest (ARet Zor.res fun r σ' => r = .int .i64 (X : Int) ∧ σ' = σ2)
              (fset 2 (some (.iptr [.int .i64 k, .slc 1 (ns.map .str) false, .slc 6 (Zln ks) false, .int .i64 l, .int .i64 p, .int .i64 s])) (fset 3 (some (.iptr [.bool false, .int .i64 i, .int .i64 n, .slc 1 (bytes bs) false, .slc 5 (Zm5 vks) false])) (fset 5 (some (.int .i64 (vks.length : Int))) Z27))) σ2) →
            AWp Try.prog Zor.n (.seq (Zor.code.snd 5).fst rest) (ARet Zor.res fun r σ' => r = .int .i64 (X : Int) ∧ σ' = σ2)
              (fset 2 (some (.iptr [.int .i64 k, .slc 1 (ns.map .str) false, .slc 6 (Zln ks) false, .int .i64 l, .int .i64 p, .int .i64 s])) (fset 3 (some (.iptr [.bool false, .int .i64 i, .int .i64 n, .slc 1 (bytes bs) false, .slc 5 (Zm5 vks) false])) (fset 5 (some (.int .i64 (vks.length : Int))) Z27))) σ2 := by
          intro rest hrest
          by_cases k10 : k = 10
          · subst k10
            rw [if_pos rfl] at hO
            (repeat (first | refine st_q rfl rfl rfl ?_ | refine Z8v rfl (st_q rfl rfl rfl ?_) | refine Z8w rfl ?_ | refine Z8x rfl ?_ | (refine Z8y ?_; (repeat (first | refine Z9v rfl ?_ | refine Z9w ?_)); refine Z9u ?_) | refine awp_seq ?_ | refine Zbm (fun _ _ => rfl) ?_ | refine Z8h ?_ | refine Zbn (fun _ _ => rfl) ?_ | refine Zbo (fun _ _ => rfl) ?_ | refine Z8f (t := true) rfl (fun _ => ?_) (fun e => by cases e) | refine Z8f (t := false) rfl (fun e => by cases e) (fun _ => ?_)))
            by_cases q : 16384 < vks.length
            · (rw [show decide ((16384 : Int) < ((vks.length : Nat) : Int)) = true from decide_eq_true (by omega)])
              (repeat (first | refine st_q rfl rfl rfl ?_ | refine Z8v rfl (st_q rfl rfl rfl ?_) | refine Z8w rfl ?_ | refine Z8x rfl ?_ | (refine Z8y ?_; (repeat (first | refine Z9v rfl ?_ | refine Z9w ?_)); refine Z9u ?_) | refine awp_seq ?_ | refine Zbm (fun _ _ => rfl) ?_ | refine Z8h ?_ | refine Zbn (fun _ _ => rfl) ?_ | refine Zbo (fun _ _ => rfl) ?_ | refine Z8f (t := true) rfl (fun _ => ?_) (fun e => by cases e) | refine Z8f (t := false) rfl (fun e => by cases e) (fun _ => ?_)))
              exact ret 4 _ _ rfl (bad 4 (by decide) (by rw [hO, if_pos q])) fun _ _ => rfl
            · (rw [show decide ((16384 : Int) < ((vks.length : Nat) : Int)) = false from decide_eq_false (by omega)])
              (repeat (first | refine st_q rfl rfl rfl ?_ | refine Z8v rfl (st_q rfl rfl rfl ?_) | refine Z8w rfl ?_ | refine Z8x rfl ?_ | (refine Z8y ?_; (repeat (first | refine Z9v rfl ?_ | refine Z9w ?_)); refine Z9u ?_) | refine awp_seq ?_ | refine Zbm (fun _ _ => rfl) ?_ | refine Z8h ?_ | refine Zbn (fun _ _ => rfl) ?_ | refine Zbo (fun _ _ => rfl) ?_ | refine Z8f (t := true) rfl (fun _ => ?_) (fun e => by cases e) | refine Z8f (t := false) rfl (fun e => by cases e) (fun _ => ?_)))
              (refine Z9y (keep := [2, 3, 5]) ?_; ((repeat (first | refine Z9v rfl ?_ | refine Z9w ?_)); refine Z9u ?_))
              exact hrest (by rw [hO, if_neg q])
          by_cases k11 : k = 11
          · subst k11
            rw [if_neg (by decide), if_pos rfl] at hO
            (repeat (first | refine st_q rfl rfl rfl ?_ | refine Z8v rfl (st_q rfl rfl rfl ?_) | refine Z8w rfl ?_ | refine Z8x rfl ?_ | (refine Z8y ?_; (repeat (first | refine Z9v rfl ?_ | refine Z9w ?_)); refine Z9u ?_) | refine awp_seq ?_ | refine Zbm (fun _ _ => rfl) ?_ | refine Z8h ?_ | refine Zbn (fun _ _ => rfl) ?_ | refine Zbo (fun _ _ => rfl) ?_ | refine Z8f (t := true) rfl (fun _ => ?_) (fun e => by cases e) | refine Z8f (t := false) rfl (fun e => by cases e) (fun _ => ?_)))
            have e : ((vks.length : Nat) : Int).tmod 2 = ((vks.length % 2 : Nat) : Int) := by rw [Int.tmod_eq_emod_of_nonneg (by omega)]; omega
            rw [e]
            by_cases q : vks.length % 2 = 0
            · (rw [show decide (((vks.length % 2 : Nat) : Int) ≠ 0) = false from decide_eq_false (by omega)])
              rw [if_neg (by omega)] at hO
              (repeat (first | refine st_q rfl rfl rfl ?_ | refine Z8v rfl (st_q rfl rfl rfl ?_) | refine Z8w rfl ?_ | refine Z8x rfl ?_ | (refine Z8y ?_; (repeat (first | refine Z9v rfl ?_ | refine Z9w ?_)); refine Z9u ?_) | refine awp_seq ?_ | refine Zbm (fun _ _ => rfl) ?_ | refine Z8h ?_ | refine Zbn (fun _ _ => rfl) ?_ | refine Zbo (fun _ _ => rfl) ?_ | refine Z8f (t := true) rfl (fun _ => ?_) (fun e => by cases e) | refine Z8f (t := false) rfl (fun e => by cases e) (fun _ => ?_)))
              by_cases q2 : 32768 < vks.length
              · (rw [show decide ((32768 : Int) < ((vks.length : Nat) : Int)) = true from decide_eq_true (by omega)])
                (repeat (first | refine st_q rfl rfl rfl ?_ | refine Z8v rfl (st_q rfl rfl rfl ?_) | refine Z8w rfl ?_ | refine Z8x rfl ?_ | (refine Z8y ?_; (repeat (first | refine Z9v rfl ?_ | refine Z9w ?_)); refine Z9u ?_) | refine awp_seq ?_ | refine Zbm (fun _ _ => rfl) ?_ | refine Z8h ?_ | refine Zbn (fun _ _ => rfl) ?_ | refine Zbo (fun _ _ => rfl) ?_ | refine Z8f (t := true) rfl (fun _ => ?_) (fun e => by cases e) | refine Z8f (t := false) rfl (fun e => by cases e) (fun _ => ?_)))
                exact ret 4 _ _ rfl (bad 4 (by decide) (by rw [hO, if_pos q2])) fun _ _ => rfl
              · (rw [show decide ((32768 : Int) < ((vks.length : Nat) : Int)) = false from decide_eq_false (by omega)])
                (repeat (first | refine st_q rfl rfl rfl ?_ | refine Z8v rfl (st_q rfl rfl rfl ?_) | refine Z8w rfl ?_ | refine Z8x rfl ?_ | (refine Z8y ?_; (repeat (first | refine Z9v rfl ?_ | refine Z9w ?_)); refine Z9u ?_) | refine awp_seq ?_ | refine Zbm (fun _ _ => rfl) ?_ | refine Z8h ?_ | refine Zbn (fun _ _ => rfl) ?_ | refine Zbo (fun _ _ => rfl) ?_ | refine Z8f (t := true) rfl (fun _ => ?_) (fun e => by cases e) | refine Z8f (t := false) rfl (fun e => by cases e) (fun _ => ?_)))
                (refine Z9y (keep := [2, 3, 5]) ?_; ((repeat (first | refine Z9v rfl ?_ | refine Z9w ?_)); refine Z9u ?_))
                exact hrest (by rw [hO, if_neg q2])
            · (rw [show decide (((vks.length % 2 : Nat) : Int) ≠ 0) = true from decide_eq_true (by omega)])
              (repeat (first | refine st_q rfl rfl rfl ?_ | refine Z8v rfl (st_q rfl rfl rfl ?_) | refine Z8w rfl ?_ | refine Z8x rfl ?_ | (refine Z8y ?_; (repeat (first | refine Z9v rfl ?_ | refine Z9w ?_)); refine Z9u ?_) | refine awp_seq ?_ | refine Zbm (fun _ _ => rfl) ?_ | refine Z8h ?_ | refine Zbn (fun _ _ => rfl) ?_ | refine Zbo (fun _ _ => rfl) ?_ | refine Z8f (t := true) rfl (fun _ => ?_) (fun e => by cases e) | refine Z8f (t := false) rfl (fun e => by cases e) (fun _ => ?_)))
              exact ret 1 _ _ rfl (bad 1 (by decide) (by rw [hO, if_pos q])) fun _ _ => rfl
          by_cases k12 : k = 12
          · subst k12
            rw [if_neg (by decide), if_neg (by decide), if_pos rfl] at hO
            (repeat (first | refine st_q rfl rfl rfl ?_ | refine Z8v rfl (st_q rfl rfl rfl ?_) | refine Z8w rfl ?_ | refine Z8x rfl ?_ | (refine Z8y ?_; (repeat (first | refine Z9v rfl ?_ | refine Z9w ?_)); refine Z9u ?_) | refine awp_seq ?_ | refine Zbm (fun _ _ => rfl) ?_ | refine Z8h ?_ | refine Zbn (fun _ _ => rfl) ?_ | refine Zbo (fun _ _ => rfl) ?_ | refine Z8f (t := true) rfl (fun _ => ?_) (fun e => by cases e) | refine Z8f (t := false) rfl (fun e => by cases e) (fun _ => ?_)))
            rw [Zlr]
            by_cases q : vks.length = ks.length
            · (rw [show decide (((vks.length : Nat) : Int) ≠ ((ks.length : Nat) : Int)) = false from decide_eq_false (by omega)])
              (repeat (first | refine st_q rfl rfl rfl ?_ | refine Z8v rfl (st_q rfl rfl rfl ?_) | refine Z8w rfl ?_ | refine Z8x rfl ?_ | (refine Z8y ?_; (repeat (first | refine Z9v rfl ?_ | refine Z9w ?_)); refine Z9u ?_) | refine awp_seq ?_ | refine Zbm (fun _ _ => rfl) ?_ | refine Z8h ?_ | refine Zbn (fun _ _ => rfl) ?_ | refine Zbo (fun _ _ => rfl) ?_ | refine Z8f (t := true) rfl (fun _ => ?_) (fun e => by cases e) | refine Z8f (t := false) rfl (fun e => by cases e) (fun _ => ?_)))
              (refine Z9y (keep := [2, 3, 5]) ?_; ((repeat (first | refine Z9v rfl ?_ | refine Z9w ?_)); refine Z9u ?_))
              exact hrest (by rw [hO, if_neg (by omega)])
            · (rw [show decide (((vks.length : Nat) : Int) ≠ ((ks.length : Nat) : Int)) = true from decide_eq_true (by omega)])
              (repeat (first | refine st_q rfl rfl rfl ?_ | refine Z8v rfl (st_q rfl rfl rfl ?_) | refine Z8w rfl ?_ | refine Z8x rfl ?_ | (refine Z8y ?_; (repeat (first | refine Z9v rfl ?_ | refine Z9w ?_)); refine Z9u ?_) | refine awp_seq ?_ | refine Zbm (fun _ _ => rfl) ?_ | refine Z8h ?_ | refine Zbn (fun _ _ => rfl) ?_ | refine Zbo (fun _ _ => rfl) ?_ | refine Z8f (t := true) rfl (fun _ => ?_) (fun e => by cases e) | refine Z8f (t := false) rfl (fun e => by cases e) (fun _ => ?_)))
              exact ret 1 _ _ rfl (bad 1 (by decide) (by rw [hO, if_pos q])) fun _ _ => rfl
          by_cases k13 : k = 13
          · subst k13
            rw [if_neg (by decide), if_neg (by decide), if_neg (by decide), if_pos rfl] at hO
            (repeat (first | refine st_q rfl rfl rfl ?_ | refine Z8v rfl (st_q rfl rfl rfl ?_) | refine Z8w rfl ?_ | refine Z8x rfl ?_ | (refine Z8y ?_; (repeat (first | refine Z9v rfl ?_ | refine Z9w ?_)); refine Z9u ?_) | refine awp_seq ?_ | refine Zbm (fun _ _ => rfl) ?_ | refine Z8h ?_ | refine Zbn (fun _ _ => rfl) ?_ | refine Zbo (fun _ _ => rfl) ?_ | refine Z8f (t := true) rfl (fun _ => ?_) (fun e => by cases e) | refine Z8f (t := false) rfl (fun e => by cases e) (fun _ => ?_)))
            by_cases q : vks.length = 1
            · (rw [show decide (((vks.length : Nat) : Int) ≠ 1) = false from decide_eq_false (by omega)])
              (repeat (first | refine st_q rfl rfl rfl ?_ | refine Z8v rfl (st_q rfl rfl rfl ?_) | refine Z8w rfl ?_ | refine Z8x rfl ?_ | (refine Z8y ?_; (repeat (first | refine Z9v rfl ?_ | refine Z9w ?_)); refine Z9u ?_) | refine awp_seq ?_ | refine Zbm (fun _ _ => rfl) ?_ | refine Z8h ?_ | refine Zbn (fun _ _ => rfl) ?_ | refine Zbo (fun _ _ => rfl) ?_ | refine Z8f (t := true) rfl (fun _ => ?_) (fun e => by cases e) | refine Z8f (t := false) rfl (fun e => by cases e) (fun _ => ?_)))
              (refine Z9y (keep := [2, 3, 5]) ?_; ((repeat (first | refine Z9v rfl ?_ | refine Z9w ?_)); refine Z9u ?_))
              exact hrest (by rw [hO, if_neg (by omega)])
            · (rw [show decide (((vks.length : Nat) : Int) ≠ 1) = true from decide_eq_true (by omega)])
              (repeat (first | refine st_q rfl rfl rfl ?_ | refine Z8v rfl (st_q rfl rfl rfl ?_) | refine Z8w rfl ?_ | refine Z8x rfl ?_ | (refine Z8y ?_; (repeat (first | refine Z9v rfl ?_ | refine Z9w ?_)); refine Z9u ?_) | refine awp_seq ?_ | refine Zbm (fun _ _ => rfl) ?_ | refine Z8h ?_ | refine Zbn (fun _ _ => rfl) ?_ | refine Zbo (fun _ _ => rfl) ?_ | refine Z8f (t := true) rfl (fun _ => ?_) (fun e => by cases e) | refine Z8f (t := false) rfl (fun e => by cases e) (fun _ => ?_)))
              exact ret 1 _ _ rfl (bad 1 (by decide) (by rw [hO, if_pos q])) fun _ _ => rfl
          rw [if_neg k10, if_neg k11, if_neg k12, if_neg k13] at hO
          (repeat (first | refine st_q rfl rfl rfl ?_ | refine Z8v rfl (st_q rfl rfl rfl ?_) | refine Z8w rfl ?_ | refine Z8x rfl ?_ | (refine Z8y ?_; (repeat (first | refine Z9v rfl ?_ | refine Z9w ?_)); refine Z9u ?_) | refine awp_seq ?_ | refine Zbm (fun _ _ => rfl) ?_ | refine Z8h ?_ | refine Zbn (fun _ _ => rfl) ?_ | refine Zbo (fun _ _ => rfl) ?_ | refine Z8f (t := true) rfl (fun _ => ?_) (fun e => by cases e) | refine Z8f (t := false) rfl (fun e => by cases e) (fun _ => ?_)))
          (rw [show decide (k = 10) = false from decide_eq_false (by omega)])
          (repeat (first | refine st_q rfl rfl rfl ?_ | refine Z8v rfl (st_q rfl rfl rfl ?_) | refine Z8w rfl ?_ | refine Z8x rfl ?_ | (refine Z8y ?_; (repeat (first | refine Z9v rfl ?_ | refine Z9w ?_)); refine Z9u ?_) | refine awp_seq ?_ | refine Zbm (fun _ _ => rfl) ?_ | refine Z8h ?_ | refine Zbn (fun _ _ => rfl) ?_ | refine Zbo (fun _ _ => rfl) ?_ | refine Z8f (t := true) rfl (fun _ => ?_) (fun e => by cases e) | refine Z8f (t := false) rfl (fun e => by cases e) (fun _ => ?_)))
          (rw [show decide (k = 11) = false from decide_eq_false (by omega)])
          (repeat (first | refine st_q rfl rfl rfl ?_ | refine Z8v rfl (st_q rfl rfl rfl ?_) | refine Z8w rfl ?_ | refine Z8x rfl ?_ | (refine Z8y ?_; (repeat (first | refine Z9v rfl ?_ | refine Z9w ?_)); refine Z9u ?_) | refine awp_seq ?_ | refine Zbm (fun _ _ => rfl) ?_ | refine Z8h ?_ | refine Zbn (fun _ _ => rfl) ?_ | refine Zbo (fun _ _ => rfl) ?_ | refine Z8f (t := true) rfl (fun _ => ?_) (fun e => by cases e) | refine Z8f (t := false) rfl (fun e => by cases e) (fun _ => ?_)))
          (rw [show decide (k = 12) = false from decide_eq_false (by omega)])
          (repeat (first | refine st_q rfl rfl rfl ?_ | refine Z8v rfl (st_q rfl rfl rfl ?_) | refine Z8w rfl ?_ | refine Z8x rfl ?_ | (refine Z8y ?_; (repeat (first | refine Z9v rfl ?_ | refine Z9w ?_)); refine Z9u ?_) | refine awp_seq ?_ | refine Zbm (fun _ _ => rfl) ?_ | refine Z8h ?_ | refine Zbn (fun _ _ => rfl) ?_ | refine Zbo (fun _ _ => rfl) ?_ | refine Z8f (t := true) rfl (fun _ => ?_) (fun e => by cases e) | refine Z8f (t := false) rfl (fun e => by cases e) (fun _ => ?_)))
          (rw [show decide (k = 13) = false from decide_eq_false (by omega)])
          (repeat (first | refine st_q rfl rfl rfl ?_ | refine Z8v rfl (st_q rfl rfl rfl ?_) | refine Z8w rfl ?_ | refine Z8x rfl ?_ | (refine Z8y ?_; (repeat (first | refine Z9v rfl ?_ | refine Z9w ?_)); refine Z9u ?_) | refine awp_seq ?_ | refine Zbm (fun _ _ => rfl) ?_ | refine Z8h ?_ | refine Zbn (fun _ _ => rfl) ?_ | refine Zbo (fun _ _ => rfl) ?_ | refine Z8f (t := true) rfl (fun _ => ?_) (fun e => by cases e) | refine Z8f (t := false) rfl (fun e => by cases e) (fun _ => ?_)))
          (refine Z9y (keep := [2, 3, 5]) ?_; ((repeat (first | refine Z9v rfl ?_ | refine Z9w ?_)); refine Z9u ?_))
          exact hrest hO
        refine key _ fun hown => ?_
        rw [hown, if_neg (by simp)] at hX'
        (repeat (first | refine st_q rfl rfl rfl ?_ | refine Z8v rfl (st_q rfl rfl rfl ?_) | refine Z8w rfl ?_ | refine Z8x rfl ?_ | (refine Z8y ?_; (repeat (first | refine Z9v rfl ?_ | refine Z9w ?_)); refine Z9u ?_) | refine awp_seq ?_ | refine Zbm (fun _ _ => rfl) ?_ | refine Z8h ?_ | refine Zbn (fun _ _ => rfl) ?_ | refine Zbo (fun _ _ => rfl) ?_ | refine Z8f (t := true) rfl (fun _ => ?_) (fun e => by cases e) | refine Z8f (t := false) rfl (fun e => by cases e) (fun _ => ?_)))
        refine Zaa (fun m F σ' => ∃ (j : Nat), F = fset 2 (some (.iptr [.int .i64 k, .slc 1 (ns.map .str) false, .slc 6 (Zln ks) false, .int .i64 l, .int .i64 p, .int .i64 s])) (fset 3 (some (.iptr [.bool false, .int .i64 i, .int .i64 n, .slc 1 (bytes bs) false, .slc 5 (Zm5 vks) false])) (fset 5 (some (.int .i64 (vks.length : Int))) (fset 6 (some (.int .i64 (j : Int))) Z27))) ∧
          σ2 = σ' ∧ j ≤ vks.length ∧ X = Zmg (.mk k ns ks l p s) i j (vks.drop j) ∧ m = vks.length - j) (n := vks.length)
          ⟨0, rfl, rfl, by omega, hX'.symm, rfl⟩ ?_
        rintro m F σ' ⟨j, rfl, rfl, hj, hXj, rfl⟩
        (repeat (first | refine st_q rfl rfl rfl ?_ | refine Z8v rfl (st_q rfl rfl rfl ?_) | refine Z8w rfl ?_ | refine Z8x rfl ?_ | (refine Z8y ?_; (repeat (first | refine Z9v rfl ?_ | refine Z9w ?_)); refine Z9u ?_) | refine awp_seq ?_ | refine Zbm (fun _ _ => rfl) ?_ | refine Z8h ?_ | refine Zbn (fun _ _ => rfl) ?_ | refine Zbo (fun _ _ => rfl) ?_ | refine Z8f (t := true) rfl (fun _ => ?_) (fun e => by cases e) | refine Z8f (t := false) rfl (fun e => by cases e) (fun _ => ?_)))
        refine Za3 (p := (j : Int) < (vks.length : Int)) rfl (fun h3 => ?_) (fun h3 => ?_)
        · have hjl : j < vks.length := by omega
          have Zd : vks[j]? = some vks[j] := List.getElem?_eq_getElem hjl
          have hx : (Zm5 vks)[(j : Int).toNat]? = some (encV vks[j]) := Zma (by rw [Int.toNat_natCast, Zd])
          obtain ⟨hlt, hi0⟩ := hka j hjl hown
          have hkc := hkid j (by omega) hi0 hlt
          have hvc := ih vks[j] (List.getElem_mem hjl) (hkids _ (List.getElem_mem hjl)) (kidT (.mk k ns ks l p s) i j) (hko j hlt)
          rw [Ztx _ _ _ _ _ Zd] at hXj
          have hX1 : (k = 11 ∧ j % 2 = 0 ∧ vks[j].null = true) → X = 1 := fun h => hXj.trans (if_pos h)
          have hX2 := fun (h : ¬ (k = 11 ∧ j % 2 = 0 ∧ vks[j].null = true)) => hXj.trans (if_neg h)
          rw [Zm7] at hx
          simp only [Zm7] at hvc
          refine Zbn (fun _ _ => rfl) ?_
          refine awp_seq ?_
          refine Z8h ?_
          refine awp_seq ?_
          refine awp_seq ?_
          refine Zae (fun F' σ' => σ2 = σ' ∧ ∃ d : Bool, (d = true ↔ (k = 11 ∧ j % 2 = 0 ∧ vks[j].null = true)) ∧
            KP [2, 3, 5, 6, 129] F' fun G => G = fset 2 (some (.iptr [.int .i64 k, .slc 1 (ns.map .str) false, .slc 6 (Zln ks) false, .int .i64 l, .int .i64 p, .int .i64 s])) (fset 3 (some (.iptr [.bool false, .int .i64 i, .int .i64 n, .slc 1 (bytes bs) false, .slc 5 (Zm5 vks) false])) (fset 5 (some (.int .i64 (vks.length : Int))) (fset 6 (some (.int .i64 (j : Int))) (fset 129 (some (.bool d)) Z27))))) ?_ ?_
          · (repeat (first | refine st_q rfl rfl rfl ?_ | refine Z8v rfl (st_q rfl rfl rfl ?_) | refine Z8w rfl ?_ | refine Z8x rfl ?_))
            by_cases q1 : k = 11
            · (rw [show decide (k = 11) = true from decide_eq_true (by omega)])
              (repeat (first | refine st_q rfl rfl rfl ?_ | refine Z8v rfl (st_q rfl rfl rfl ?_) | refine Z8w rfl ?_ | refine Z8x rfl ?_))
              have e : (j : Int).tmod 2 = ((j % 2 : Nat) : Int) := by rw [Int.tmod_eq_emod_of_nonneg (by omega)]; omega
              rw [e]
              by_cases q2 : j % 2 = 0
              · (rw [show decide (((j % 2 : Nat) : Int) = 0) = true from decide_eq_true (by omega)])
                (repeat (first | refine st_q rfl rfl rfl ?_ | refine Z8v rfl (st_q rfl rfl rfl ?_) | refine Z8w rfl ?_ | refine Z8x rfl ?_))
                refine Z8v rfl (Z93 rfl (by omega) hx ?_)
                (repeat (first | refine st_q rfl rfl rfl ?_ | refine Z8v rfl (st_q rfl rfl rfl ?_) | refine Z8w rfl ?_ | refine Z8x rfl ?_))
                refine Z8y ⟨rfl, vks[j].null, by simp [q1, q2], ?_⟩
                ((repeat (first | refine Z9v rfl ?_ | refine Z9w ?_)); refine Z9u ?_)
                rfl
              · (rw [show decide (((j % 2 : Nat) : Int) = 0) = false from decide_eq_false (by omega)])
                (repeat (first | refine st_q rfl rfl rfl ?_ | refine Z8v rfl (st_q rfl rfl rfl ?_) | refine Z8w rfl ?_ | refine Z8x rfl ?_))
                refine Z8y ⟨rfl, false, by simp [q2], ?_⟩
                ((repeat (first | refine Z9v rfl ?_ | refine Z9w ?_)); refine Z9u ?_)
                rfl
            · (rw [show decide (k = 11) = false from decide_eq_false (by omega)])
              (repeat (first | refine st_q rfl rfl rfl ?_ | refine Z8v rfl (st_q rfl rfl rfl ?_) | refine Z8w rfl ?_ | refine Z8x rfl ?_))
              refine Z8y ⟨rfl, false, by simp [q1], ?_⟩
              ((repeat (first | refine Z9v rfl ?_ | refine Z9w ?_)); refine Z9u ?_)
              rfl
          rintro F' σ3 ⟨rfl, d, hd, G, hG, rfl⟩
          refine Z9y (keep := [2, 3, 5, 6, 129]) ⟨_, hG, ?_⟩
          cases d with
          | true =>
            (repeat (first | refine st_q rfl rfl rfl ?_ | refine Z8v rfl (st_q rfl rfl rfl ?_) | refine Z8w rfl ?_ | refine Z8x rfl ?_ | (refine Z8y ?_; (repeat (first | refine Z9v rfl ?_ | refine Z9w ?_)); refine Z9u ?_) | refine awp_seq ?_ | refine Zbm (fun _ _ => rfl) ?_ | refine Z8h ?_ | refine Zbn (fun _ _ => rfl) ?_ | refine Zbo (fun _ _ => rfl) ?_ | refine Z8f (t := true) rfl (fun _ => ?_) (fun e => by cases e) | refine Z8f (t := false) rfl (fun e => by cases e) (fun _ => ?_)))
            exact ret 1 _ _ rfl (hX1 (hd.1 rfl)) fun _ _ => rfl
          | false =>
            replace hXj := hX2 (fun h => by have := hd.2 h; cases this)
            (repeat (first | refine st_q rfl rfl rfl ?_ | refine Z8v rfl (st_q rfl rfl rfl ?_) | refine Z8w rfl ?_ | refine Z8x rfl ?_ | (refine Z8y ?_; (repeat (first | refine Z9v rfl ?_ | refine Z9w ?_)); refine Z9u ?_) | refine awp_seq ?_ | refine Zbm (fun _ _ => rfl) ?_ | refine Z8h ?_ | refine Zbn (fun _ _ => rfl) ?_ | refine Zbo (fun _ _ => rfl) ?_ | refine Z8f (t := true) rfl (fun _ => ?_) (fun e => by cases e) | refine Z8f (t := false) rfl (fun e => by cases e) (fun _ => ?_)))
            refine Zbw rfl hkc ?_
            (repeat (first | refine st_q rfl rfl rfl ?_ | refine Z8v rfl (st_q rfl rfl rfl ?_) | refine Z8w rfl ?_ | refine Z8x rfl ?_))
            refine Z93 rfl (by omega) hx ?_
            (repeat (first | refine st_q rfl rfl rfl ?_ | refine Z8v rfl (st_q rfl rfl rfl ?_) | refine Z8w rfl ?_ | refine Z8x rfl ?_))
            refine Z9t rfl (hvc _) ?_
            have hle := Zty vks[j] (kidT (.mk k ns ks l p s) i j)
            generalize hq : vchk (kidT (.mk k ns ks l p s) i j) vks[j] = x at hXj hle
            (repeat (first | refine st_q rfl rfl rfl ?_ | refine Z8v rfl (st_q rfl rfl rfl ?_) | refine Z8w rfl ?_ | refine Z8x rfl ?_ | (refine Z8y ?_; (repeat (first | refine Z9v rfl ?_ | refine Z9w ?_)); refine Z9u ?_) | refine awp_seq ?_ | refine Zbm (fun _ _ => rfl) ?_ | refine Z8h ?_ | refine Zbn (fun _ _ => rfl) ?_ | refine Zbo (fun _ _ => rfl) ?_ | refine Z8f (t := true) rfl (fun _ => ?_) (fun e => by cases e) | refine Z8f (t := false) rfl (fun e => by cases e) (fun _ => ?_)))
            by_cases q : x = 0
            · rw [if_neg (by omega)] at hXj
              (rw [show decide (((x : Nat) : Int) ≠ 0) = false from decide_eq_false (by omega)])
              (repeat (first | refine st_q rfl rfl rfl ?_ | refine Z8v rfl (st_q rfl rfl rfl ?_) | refine Z8w rfl ?_ | refine Z8x rfl ?_ | (refine Z8y ?_; (repeat (first | refine Z9v rfl ?_ | refine Z9w ?_)); refine Z9u ?_) | refine awp_seq ?_ | refine Zbm (fun _ _ => rfl) ?_ | refine Z8h ?_ | refine Zbn (fun _ _ => rfl) ?_ | refine Zbo (fun _ _ => rfl) ?_ | refine Z8f (t := true) rfl (fun _ => ?_) (fun e => by cases e) | refine Z8f (t := false) rfl (fun e => by cases e) (fun _ => ?_)))
              refine Zbp ?_
              (repeat (refine st_q rfl rfl rfl ?_))
              rw [show IntKind.wrap .i64 ((j : Int) + 1) = ((j + 1 : Nat) : Int) by rw [w64 _ (by omega) (by omega)]; omega]
              (refine Z8y ?_; (repeat (first | refine Z9v rfl ?_ | refine Z9w ?_)); refine Z9u ?_)
              exact ⟨_, vks.length - (j + 1), HSub.refl _, ⟨j + 1, rfl, rfl, by omega, hXj, rfl⟩, by omega⟩
            · rw [if_pos q] at hXj
              (rw [show decide (((x : Nat) : Int) ≠ 0) = true from decide_eq_true (by omega)])
              (repeat (first | refine st_q rfl rfl rfl ?_ | refine Z8v rfl (st_q rfl rfl rfl ?_) | refine Z8w rfl ?_ | refine Z8x rfl ?_ | (refine Z8y ?_; (repeat (first | refine Z9v rfl ?_ | refine Z9w ?_)); refine Z9u ?_) | refine awp_seq ?_ | refine Zbm (fun _ _ => rfl) ?_ | refine Z8h ?_ | refine Zbn (fun _ _ => rfl) ?_ | refine Zbo (fun _ _ => rfl) ?_ | refine Z8f (t := true) rfl (fun _ => ?_) (fun e => by cases e) | refine Z8f (t := false) rfl (fun e => by cases e) (fun _ => ?_)))
              exact ret x _ _ rfl hXj fun _ _ => rfl
        · (repeat (first | refine st_q rfl rfl rfl ?_ | refine Z8v rfl (st_q rfl rfl rfl ?_) | refine Z8w rfl ?_ | refine Z8x rfl ?_ | (refine Z8y ?_; (repeat (first | refine Z9v rfl ?_ | refine Z9w ?_)); refine Z9u ?_) | refine awp_seq ?_ | refine Zbm (fun _ _ => rfl) ?_ | refine Z8h ?_ | refine Zbn (fun _ _ => rfl) ?_ | refine Zbo (fun _ _ => rfl) ?_ | refine Z8f (t := true) rfl (fun _ => ?_) (fun e => by cases e) | refine Z8f (t := false) rfl (fun e => by cases e) (fun _ => ?_)))
          have hd0 : vks.drop j = [] := List.drop_of_length_le (by omega)
          rw [hd0, Zmg] at hXj
          exact ret 0 _ _ rfl hXj fun _ _ => rfl
end Go.Abs
namespace Go.Abs
open Go Go.Proofs Go.RowKit
set_option linter.unusedVariables false
set_option linter.unusedSimpArgs false
theorem Zu0 {P : Program} {w : World} : ∀ (xs : List UInt8) (a : Addr) (acc : ByteArray), (∀ j, j < xs.length → w.cell? (a.add j) = some (.int .u8 (xs.getD j 0).toNat)) → (Extern.Bytes.loadBytes a xs.length acc).run P w = .ok ⟨acc.data ++ xs.toArray⟩ w
  | [], a, acc, _ => by
    simp only [List.length_nil, Extern.Bytes.loadBytes]
    rw [Sem.run_pure]
    simp
  | x :: xs, a, acc, h => by
    have h0 := h 0 (by simp)
    have ha : a.add 0 = a := by simp [Addr.add]
    rw [ha] at h0
    simp only [List.getD_cons_zero] at h0
    simp only [List.length_cons, Extern.Bytes.loadBytes, Sem.run_bind]
    rw [Z3g h0]
    simp only [Result.andThen_ok]
    have ih := Zu0 (P := P) (w := w) xs (a.add 1) (acc.push ((x.toNat : Int)).toNat.toUInt8) (fun j hj => by
      have := h (j + 1) (by simpa using hj)
      rw [Go.Deep.add_add, Nat.add_comm 1 j]
      simpa using this)
    rw [ih]
    congr 1
    have e : ((x.toNat : Int)).toNat.toUInt8 = x := by rw [Int.toNat_natCast]; simp
    rw [e]
    cases acc
    simp [ByteArray.push]
theorem Zu1 {P : Program} {K : Kr} {w : World} {σ : Zc} (r : Rel K σ w) {xs : List UInt8} {f : Bool} {v : Value} (h : VR K (.slc 1 (bytes xs) f) v) : (Extern.Bytes.bytesOf v).run P w = .ok ⟨xs.toArray⟩ w := by
  unfold VR at h
  generalize hb : bytes xs = ys at h
  cases h with
  | @slc0 _ _ a cap _ _ hf _ =>
    have : xs = [] := by simpa [bytes] using hb
    subst this
    cases a with
    | none => rfl
    | some a => rfl
  | @slc _ _ _ a n cap us _ _ hn he hsp hm hvv hc hf _ =>
    subst hb
    have hxn : xs.length = n := by simpa [bytes] using hn
    have hcell : ∀ j, j < xs.length → w.cell? (a.add j) = some (.int .u8 (xs.getD j 0).toNat) := by
      intro j hj
      have hfl : ((bytes xs).flatMap Z0.cells)[j]? = some (Zx (xs.getD j 0)) := by
        rw [Zax, Zao, List.getD_eq_getElem?_getD, List.getElem?_eq_getElem hj]; rfl
      obtain ⟨u, hu, hvu⟩ := hvv.get hfl
      have := r.imm _ _ _ (hm j u hu)
      have hadd : a.add j = ⟨a.block, a.off + j, none⟩ := by
        obtain ⟨b, o, sp⟩ := a
        simp only at hsp
        subst hsp
        unfold Addr.add
        split
        · rename_i h0; subst h0; rfl
        · rfl
      rw [hadd, this]
      have := hvu.int_inv
      simpa [Zx] using this
    have := Zu0 (P := P) (w := w) xs a .empty hcell
    simp only [Extern.Bytes.bytesOf]
    rw [← hxn, this]
    simp
set_option maxRecDepth 100000 in
theorem Zu2 (v1 v2 : Value) (xs ys : List UInt8) (w : World) (h1 : (Extern.Bytes.bytesOf v1).run Try.prog w = .ok ⟨xs.toArray⟩ w) (h2 : (Extern.Bytes.bytesOf v2).run Try.prog w = .ok ⟨ys.toArray⟩ w) :
    Calls Try.prog 121 #[v1, v2] w fun e w' => e = .returned (.int .i64 (Lib.compareBytes xs ys)) ∧ w' = w := by
  have hcmp : (Extern.BytealgCompare.compare #[v1, v2]).run Try.prog w = .ok (.int .i64 (Lib.compareBytes xs ys)) w := by
    change Sem.run Try.prog (do pure (goInt (Extern.BytealgCompare.cmp (← Extern.Bytes.bytesOf v1) (← Extern.Bytes.bytesOf v2)))) w = _
    simp only [Sem.run_bind, h1, h2, Result.andThen_ok, Sem.run_pure]
    rw [Lib.cmp_eq]
    rfl
  have hcall : (callFunc 145 #[v1, v2]).run Try.prog w = .ok (.value (.int .i64 (Lib.compareBytes xs ys))) w := by
    rw [run_callFunc_extern Try.func145 (by kernel_rfl) (by kernel_rfl) (by kernel_rfl) (e := Extern.BytealgCompare.compare) (by kernel_rfl), hcmp]
    rfl
  go_enter Try.func121, Try.ntmps121
  go_wp2
  go_ret
  exact ⟨rfl, rfl⟩
theorem Zu3 (xs ys : List UInt8) (f g : Bool) (σ : Zc) : Z1q Try.prog 121 [.slc 1 (bytes xs) f, .slc 1 (bytes ys) g] σ fun r σ' => r = .int .i64 (Lib.compareBytes xs ys) ∧ σ' = σ := by
  intro K w vs hr hv
  obtain ⟨v1, vs', rfl, h1, h2⟩ := hv.ex
  obtain ⟨v2, vs', rfl, h2, h3⟩ := h2.ex
  obtain rfl := h3.nil_inv
  refine (Zu2 v1 v2 xs ys w (Zu1 hr h1) (Zu1 hr h2)).mono ?_
  rintro e w' ⟨rfl, rfl⟩
  exact ⟨_, K, _, σ, rfl, Kr.le.refl K, hr, Z1.int .nil, rfl, rfl⟩
end Go.Abs
namespace Go.Abs
open Go Go.Proofs
set_option linter.unusedVariables false
set_option linter.unusedSimpArgs false
set_option maxHeartbeats 4000000
attribute [local irreducible] AWp aops KP
def cmpI (a b : Int) : Int := if a < b then -1 else if b < a then 1 else 0
def cmpV (k : Int) (a b : Vl) : Int × Bool :=
  if Zlt k = false ∨ a.null = true ∨ b.null = true then (0, false)
  else if Zmb k = true then (Lib.compareBytes a.b b.b, true)
  else (if cmpI a.i b.i ≠ 0 then cmpI a.i b.i else cmpI a.n b.n, true)
theorem Zu4 (a : Int) (σ : Zc) : Z1q Try.prog Zg7 [.int .i64 a] σ fun r σ' => r = .bool false ∧ σ' = σ := by
  refine Z8t rfl Ztg (Nat.le_of_ble_eq_true rfl) ?_
  (repeat (first | refine st_q rfl rfl rfl ?_ | refine Z8v rfl (st_q rfl rfl rfl ?_) | refine Z8w rfl ?_ | refine Z8x rfl ?_ | (refine Z8y ?_; (repeat (first | refine Z9v rfl ?_ | refine Z9w ?_)); refine Z9u ?_) | refine awp_seq ?_ | refine Zbm (fun _ _ => rfl) ?_ | refine Z8h ?_ | refine Zbn (fun _ _ => rfl) ?_ | refine Zbo (fun _ _ => rfl) ?_ | refine Z8f (t := true) rfl (fun _ => ?_) (fun e => by cases e) | refine Z8f (t := false) rfl (fun e => by cases e) (fun _ => ?_)))
  rw [show decide (a ≠ a) = false from decide_eq_false (fun h => h rfl)]
  refine Z8d ?_
  exact ares rfl (HSub.refl _) ⟨rfl, rfl⟩
theorem Zu5 (a : Int) (σ : Zc) : Z1q Try.prog Zg8 [.int .i64 a] σ fun r σ' => r = .bool false ∧ σ' = σ := by
  refine Z8t rfl Zth (Nat.le_of_ble_eq_true rfl) ?_
  (repeat (first | refine st_q rfl rfl rfl ?_ | refine Z8v rfl (st_q rfl rfl rfl ?_) | refine Z8w rfl ?_ | refine Z8x rfl ?_ | (refine Z8y ?_; (repeat (first | refine Z9v rfl ?_ | refine Z9w ?_)); refine Z9u ?_) | refine awp_seq ?_ | refine Zbm (fun _ _ => rfl) ?_ | refine Z8h ?_ | refine Zbn (fun _ _ => rfl) ?_ | refine Zbo (fun _ _ => rfl) ?_ | refine Z8f (t := true) rfl (fun _ => ?_) (fun e => by cases e) | refine Z8f (t := false) rfl (fun e => by cases e) (fun _ => ?_)))
  rw [show decide (a ≠ a) = false from decide_eq_false (fun h => h rfl)]
  refine Z8d ?_
  exact ares rfl (HSub.refl _) ⟨rfl, rfl⟩
theorem Zu6 (a b : Int) (σ : Zc) : Z1q Try.prog Zfl [.int .i64 a, .int .i64 b] σ fun r σ' => r = .int .i64 (cmpI a b) ∧ σ' = σ := by
  refine Z8t rfl Zt9 (Nat.le_of_ble_eq_true rfl) ?_
  (repeat (first | refine st_q rfl rfl rfl ?_ | refine Z8v rfl (st_q rfl rfl rfl ?_) | refine Z8w rfl ?_ | refine Z8x rfl ?_ | (refine Z8y ?_; (repeat (first | refine Z9v rfl ?_ | refine Z9w ?_)); refine Z9u ?_) | refine awp_seq ?_ | refine Zbm (fun _ _ => rfl) ?_ | refine Z8h ?_ | refine Zbn (fun _ _ => rfl) ?_ | refine Zbo (fun _ _ => rfl) ?_ | refine Z8f (t := true) rfl (fun _ => ?_) (fun e => by cases e) | refine Z8f (t := false) rfl (fun e => by cases e) (fun _ => ?_)))
  refine Z9t rfl (Zu4 a _) ?_
  (repeat (first | refine st_q rfl rfl rfl ?_ | refine Z8v rfl (st_q rfl rfl rfl ?_) | refine Z8w rfl ?_ | refine Z8x rfl ?_ | (refine Z8y ?_; (repeat (first | refine Z9v rfl ?_ | refine Z9w ?_)); refine Z9u ?_) | refine awp_seq ?_ | refine Zbm (fun _ _ => rfl) ?_ | refine Z8h ?_ | refine Zbn (fun _ _ => rfl) ?_ | refine Zbo (fun _ _ => rfl) ?_ | refine Z8f (t := true) rfl (fun _ => ?_) (fun e => by cases e) | refine Z8f (t := false) rfl (fun e => by cases e) (fun _ => ?_)))
  refine Z9t rfl (Zu4 b _) ?_
  (repeat (first | refine st_q rfl rfl rfl ?_ | refine Z8v rfl (st_q rfl rfl rfl ?_) | refine Z8w rfl ?_ | refine Z8x rfl ?_ | (refine Z8y ?_; (repeat (first | refine Z9v rfl ?_ | refine Z9w ?_)); refine Z9u ?_) | refine awp_seq ?_ | refine Zbm (fun _ _ => rfl) ?_ | refine Z8h ?_ | refine Zbn (fun _ _ => rfl) ?_ | refine Zbo (fun _ _ => rfl) ?_ | refine Z8f (t := true) rfl (fun _ => ?_) (fun e => by cases e) | refine Z8f (t := false) rfl (fun e => by cases e) (fun _ => ?_)))
  by_cases h1 : a < b
  · (rw [show decide (a < b) = true from decide_eq_true (by omega)])
    (repeat (first | refine st_q rfl rfl rfl ?_ | refine Z8v rfl (st_q rfl rfl rfl ?_) | refine Z8w rfl ?_ | refine Z8x rfl ?_ | (refine Z8y ?_; (repeat (first | refine Z9v rfl ?_ | refine Z9w ?_)); refine Z9u ?_) | refine awp_seq ?_ | refine Zbm (fun _ _ => rfl) ?_ | refine Z8h ?_ | refine Zbn (fun _ _ => rfl) ?_ | refine Zbo (fun _ _ => rfl) ?_ | refine Z8f (t := true) rfl (fun _ => ?_) (fun e => by cases e) | refine Z8f (t := false) rfl (fun e => by cases e) (fun _ => ?_)))
    refine Z8d ?_
    exact ares rfl (HSub.refl _) ⟨by rw [cmpI, if_pos h1]; rfl, rfl⟩
  (rw [show decide (a < b) = false from decide_eq_false (by omega)])
  (repeat (first | refine st_q rfl rfl rfl ?_ | refine Z8v rfl (st_q rfl rfl rfl ?_) | refine Z8w rfl ?_ | refine Z8x rfl ?_ | (refine Z8y ?_; (repeat (first | refine Z9v rfl ?_ | refine Z9w ?_)); refine Z9u ?_) | refine awp_seq ?_ | refine Zbm (fun _ _ => rfl) ?_ | refine Z8h ?_ | refine Zbn (fun _ _ => rfl) ?_ | refine Zbo (fun _ _ => rfl) ?_ | refine Z8f (t := true) rfl (fun _ => ?_) (fun e => by cases e) | refine Z8f (t := false) rfl (fun e => by cases e) (fun _ => ?_)))
  by_cases h2 : b < a
  · (rw [show decide (b < a) = true from decide_eq_true (by omega)])
    (repeat (first | refine st_q rfl rfl rfl ?_ | refine Z8v rfl (st_q rfl rfl rfl ?_) | refine Z8w rfl ?_ | refine Z8x rfl ?_ | (refine Z8y ?_; (repeat (first | refine Z9v rfl ?_ | refine Z9w ?_)); refine Z9u ?_) | refine awp_seq ?_ | refine Zbm (fun _ _ => rfl) ?_ | refine Z8h ?_ | refine Zbn (fun _ _ => rfl) ?_ | refine Zbo (fun _ _ => rfl) ?_ | refine Z8f (t := true) rfl (fun _ => ?_) (fun e => by cases e) | refine Z8f (t := false) rfl (fun e => by cases e) (fun _ => ?_)))
    refine Z8d ?_
    exact ares rfl (HSub.refl _) ⟨by rw [cmpI, if_neg h1, if_pos h2]; rfl, rfl⟩
  (rw [show decide (b < a) = false from decide_eq_false (by omega)])
  (repeat (first | refine st_q rfl rfl rfl ?_ | refine Z8v rfl (st_q rfl rfl rfl ?_) | refine Z8w rfl ?_ | refine Z8x rfl ?_ | (refine Z8y ?_; (repeat (first | refine Z9v rfl ?_ | refine Z9w ?_)); refine Z9u ?_) | refine awp_seq ?_ | refine Zbm (fun _ _ => rfl) ?_ | refine Z8h ?_ | refine Zbn (fun _ _ => rfl) ?_ | refine Zbo (fun _ _ => rfl) ?_ | refine Z8f (t := true) rfl (fun _ => ?_) (fun e => by cases e) | refine Z8f (t := false) rfl (fun e => by cases e) (fun _ => ?_)))
  refine Z8d ?_
  exact ares rfl (HSub.refl _) ⟨by rw [cmpI, if_neg h1, if_neg h2]; rfl, rfl⟩
theorem Zu7 (a b : Int) (σ : Zc) : Z1q Try.prog Zfm [.int .i64 a, .int .i64 b] σ fun r σ' => r = .int .i64 (cmpI a b) ∧ σ' = σ := by
  refine Z8t rfl Zta (Nat.le_of_ble_eq_true rfl) ?_
  (repeat (first | refine st_q rfl rfl rfl ?_ | refine Z8v rfl (st_q rfl rfl rfl ?_) | refine Z8w rfl ?_ | refine Z8x rfl ?_ | (refine Z8y ?_; (repeat (first | refine Z9v rfl ?_ | refine Z9w ?_)); refine Z9u ?_) | refine awp_seq ?_ | refine Zbm (fun _ _ => rfl) ?_ | refine Z8h ?_ | refine Zbn (fun _ _ => rfl) ?_ | refine Zbo (fun _ _ => rfl) ?_ | refine Z8f (t := true) rfl (fun _ => ?_) (fun e => by cases e) | refine Z8f (t := false) rfl (fun e => by cases e) (fun _ => ?_)))
  refine Z9t rfl (Zu5 a _) ?_
  (repeat (first | refine st_q rfl rfl rfl ?_ | refine Z8v rfl (st_q rfl rfl rfl ?_) | refine Z8w rfl ?_ | refine Z8x rfl ?_ | (refine Z8y ?_; (repeat (first | refine Z9v rfl ?_ | refine Z9w ?_)); refine Z9u ?_) | refine awp_seq ?_ | refine Zbm (fun _ _ => rfl) ?_ | refine Z8h ?_ | refine Zbn (fun _ _ => rfl) ?_ | refine Zbo (fun _ _ => rfl) ?_ | refine Z8f (t := true) rfl (fun _ => ?_) (fun e => by cases e) | refine Z8f (t := false) rfl (fun e => by cases e) (fun _ => ?_)))
  refine Z9t rfl (Zu5 b _) ?_
  (repeat (first | refine st_q rfl rfl rfl ?_ | refine Z8v rfl (st_q rfl rfl rfl ?_) | refine Z8w rfl ?_ | refine Z8x rfl ?_ | (refine Z8y ?_; (repeat (first | refine Z9v rfl ?_ | refine Z9w ?_)); refine Z9u ?_) | refine awp_seq ?_ | refine Zbm (fun _ _ => rfl) ?_ | refine Z8h ?_ | refine Zbn (fun _ _ => rfl) ?_ | refine Zbo (fun _ _ => rfl) ?_ | refine Z8f (t := true) rfl (fun _ => ?_) (fun e => by cases e) | refine Z8f (t := false) rfl (fun e => by cases e) (fun _ => ?_)))
  by_cases h1 : a < b
  · (rw [show decide (a < b) = true from decide_eq_true (by omega)])
    (repeat (first | refine st_q rfl rfl rfl ?_ | refine Z8v rfl (st_q rfl rfl rfl ?_) | refine Z8w rfl ?_ | refine Z8x rfl ?_ | (refine Z8y ?_; (repeat (first | refine Z9v rfl ?_ | refine Z9w ?_)); refine Z9u ?_) | refine awp_seq ?_ | refine Zbm (fun _ _ => rfl) ?_ | refine Z8h ?_ | refine Zbn (fun _ _ => rfl) ?_ | refine Zbo (fun _ _ => rfl) ?_ | refine Z8f (t := true) rfl (fun _ => ?_) (fun e => by cases e) | refine Z8f (t := false) rfl (fun e => by cases e) (fun _ => ?_)))
    refine Z8d ?_
    exact ares rfl (HSub.refl _) ⟨by rw [cmpI, if_pos h1]; rfl, rfl⟩
  (rw [show decide (a < b) = false from decide_eq_false (by omega)])
  (repeat (first | refine st_q rfl rfl rfl ?_ | refine Z8v rfl (st_q rfl rfl rfl ?_) | refine Z8w rfl ?_ | refine Z8x rfl ?_ | (refine Z8y ?_; (repeat (first | refine Z9v rfl ?_ | refine Z9w ?_)); refine Z9u ?_) | refine awp_seq ?_ | refine Zbm (fun _ _ => rfl) ?_ | refine Z8h ?_ | refine Zbn (fun _ _ => rfl) ?_ | refine Zbo (fun _ _ => rfl) ?_ | refine Z8f (t := true) rfl (fun _ => ?_) (fun e => by cases e) | refine Z8f (t := false) rfl (fun e => by cases e) (fun _ => ?_)))
  by_cases h2 : b < a
  · (rw [show decide (b < a) = true from decide_eq_true (by omega)])
    (repeat (first | refine st_q rfl rfl rfl ?_ | refine Z8v rfl (st_q rfl rfl rfl ?_) | refine Z8w rfl ?_ | refine Z8x rfl ?_ | (refine Z8y ?_; (repeat (first | refine Z9v rfl ?_ | refine Z9w ?_)); refine Z9u ?_) | refine awp_seq ?_ | refine Zbm (fun _ _ => rfl) ?_ | refine Z8h ?_ | refine Zbn (fun _ _ => rfl) ?_ | refine Zbo (fun _ _ => rfl) ?_ | refine Z8f (t := true) rfl (fun _ => ?_) (fun e => by cases e) | refine Z8f (t := false) rfl (fun e => by cases e) (fun _ => ?_)))
    refine Z8d ?_
    exact ares rfl (HSub.refl _) ⟨by rw [cmpI, if_neg h1, if_pos h2]; rfl, rfl⟩
  (rw [show decide (b < a) = false from decide_eq_false (by omega)])
  (repeat (first | refine st_q rfl rfl rfl ?_ | refine Z8v rfl (st_q rfl rfl rfl ?_) | refine Z8w rfl ?_ | refine Z8x rfl ?_ | (refine Z8y ?_; (repeat (first | refine Z9v rfl ?_ | refine Z9w ?_)); refine Z9u ?_) | refine awp_seq ?_ | refine Zbm (fun _ _ => rfl) ?_ | refine Z8h ?_ | refine Zbn (fun _ _ => rfl) ?_ | refine Zbo (fun _ _ => rfl) ?_ | refine Z8f (t := true) rfl (fun _ => ?_) (fun e => by cases e) | refine Z8f (t := false) rfl (fun e => by cases e) (fun _ => ?_)))
  refine Z8d ?_
  exact ares rfl (HSub.refl _) ⟨by rw [cmpI, if_neg h1, if_neg h2]; rfl, rfl⟩
theorem c_Or (a b : Int) (σ : Zc) : Z1q Try.prog Zfk [.slc 1 [.int .i64 a, .int .i64 b] true] σ fun r σ' => r = .int .i64 (if a ≠ 0 then a else b) ∧ σ' = σ := by
  refine Z8t rfl Zt8 (Nat.le_of_ble_eq_true rfl) ?_
  (repeat (first | refine st_q rfl rfl rfl ?_ | refine Z8v rfl (st_q rfl rfl rfl ?_) | refine Z8w rfl ?_ | refine Z8x rfl ?_ | (refine Z8y ?_; (repeat (first | refine Z9v rfl ?_ | refine Z9w ?_)); refine Z9u ?_) | refine awp_seq ?_ | refine Zbm (fun _ _ => rfl) ?_ | refine Z8h ?_ | refine Zbn (fun _ _ => rfl) ?_ | refine Zbo (fun _ _ => rfl) ?_ | refine Z8f (t := true) rfl (fun _ => ?_) (fun e => by cases e) | refine Z8f (t := false) rfl (fun e => by cases e) (fun _ => ?_)))
  refine Zaa (fun m F σ' => ∃ (i : Nat), F = fset 3 (some (.int .i64 0)) (fset 6 (some (.slc 1 [.int .i64 a, .int .i64 b] true)) (fset 7 (some (.int .i64 2)) (fset 8 (some (.int .i64 (i : Int))) Z27))) ∧ σ = σ' ∧ i ≤ 2 ∧ (1 ≤ i → a = 0) ∧ (2 ≤ i → b = 0) ∧ m = 2 - i) (n := 2)
    ⟨0, rfl, rfl, by omega, fun h => absurd h (by omega), fun h => absurd h (by omega), rfl⟩ ?_
  rintro m F σ' ⟨i, rfl, rfl, hi, ha, hb, rfl⟩
  (repeat (first | refine st_q rfl rfl rfl ?_ | refine Z8v rfl (st_q rfl rfl rfl ?_) | refine Z8w rfl ?_ | refine Z8x rfl ?_ | (refine Z8y ?_; (repeat (first | refine Z9v rfl ?_ | refine Z9w ?_)); refine Z9u ?_) | refine awp_seq ?_ | refine Zbm (fun _ _ => rfl) ?_ | refine Z8h ?_ | refine Zbn (fun _ _ => rfl) ?_ | refine Zbo (fun _ _ => rfl) ?_ | refine Z8f (t := true) rfl (fun _ => ?_) (fun e => by cases e) | refine Z8f (t := false) rfl (fun e => by cases e) (fun _ => ?_)))
  refine Za3 (p := (i : Int) < 2) rfl (fun h3 => ?_) (fun h3 => ?_)
  · obtain ⟨x, hx, hxv⟩ : ∃ x : Int, [Z0.int .i64 a, .int .i64 b][(i : Int).toNat]? = some (.int .i64 x) ∧ x = (if i = 0 then a else b) := by
      rw [Int.toNat_natCast]
      rcases (by omega : i = 0 ∨ i = 1) with rfl | rfl
      · exact ⟨a, rfl, rfl⟩
      · exact ⟨b, rfl, rfl⟩
    (repeat (first | refine st_q rfl rfl rfl ?_ | refine Z8v rfl (st_q rfl rfl rfl ?_) | refine Z8w rfl ?_ | refine Z8x rfl ?_ | (refine Z8y ?_; (repeat (first | refine Z9v rfl ?_ | refine Z9w ?_)); refine Z9u ?_) | refine awp_seq ?_ | refine Zbm (fun _ _ => rfl) ?_ | refine Z8h ?_ | refine Zbn (fun _ _ => rfl) ?_ | refine Zbo (fun _ _ => rfl) ?_ | refine Z8f (t := true) rfl (fun _ => ?_) (fun e => by cases e) | refine Z8f (t := false) rfl (fun e => by cases e) (fun _ => ?_)))
    refine Z93 rfl (by omega) hx ?_
    (repeat (first | refine st_q rfl rfl rfl ?_ | refine Z8v rfl (st_q rfl rfl rfl ?_) | refine Z8w rfl ?_ | refine Z8x rfl ?_ | (refine Z8y ?_; (repeat (first | refine Z9v rfl ?_ | refine Z9w ?_)); refine Z9u ?_) | refine awp_seq ?_ | refine Zbm (fun _ _ => rfl) ?_ | refine Z8h ?_ | refine Zbn (fun _ _ => rfl) ?_ | refine Zbo (fun _ _ => rfl) ?_ | refine Z8f (t := true) rfl (fun _ => ?_) (fun e => by cases e) | refine Z8f (t := false) rfl (fun e => by cases e) (fun _ => ?_)))
    by_cases h4 : x = 0
    · (rw [show decide (x ≠ 0) = false from decide_eq_false (by omega)])
      (repeat (first | refine st_q rfl rfl rfl ?_ | refine Z8v rfl (st_q rfl rfl rfl ?_) | refine Z8w rfl ?_ | refine Z8x rfl ?_ | (refine Z8y ?_; (repeat (first | refine Z9v rfl ?_ | refine Z9w ?_)); refine Z9u ?_) | refine awp_seq ?_ | refine Zbm (fun _ _ => rfl) ?_ | refine Z8h ?_ | refine Zbn (fun _ _ => rfl) ?_ | refine Zbo (fun _ _ => rfl) ?_ | refine Z8f (t := true) rfl (fun _ => ?_) (fun e => by cases e) | refine Z8f (t := false) rfl (fun e => by cases e) (fun _ => ?_)))
      refine Zbp ?_
      (repeat (refine st_q rfl rfl rfl ?_))
      rw [show IntKind.wrap .i64 ((i : Int) + 1) = ((i + 1 : Nat) : Int) by rw [w64 _ (by omega) (by omega)]; omega]
      (refine Z8y ?_; (repeat (first | refine Z9v rfl ?_ | refine Z9w ?_)); refine Z9u ?_)
      refine ⟨_, 2 - (i + 1), HSub.refl _, ⟨i + 1, rfl, rfl, by omega, fun _ => ?_, fun h => ?_, rfl⟩, by omega⟩
      · rcases (by omega : i = 0 ∨ i = 1) with rfl | rfl
        · simpa [h4] using hxv.symm
        · exact ha (by omega)
      · rw [if_neg (by omega)] at hxv; omega
    · (rw [show decide (x ≠ 0) = true from decide_eq_true (by omega)])
      (repeat (first | refine st_q rfl rfl rfl ?_ | refine Z8v rfl (st_q rfl rfl rfl ?_) | refine Z8w rfl ?_ | refine Z8x rfl ?_ | (refine Z8y ?_; (repeat (first | refine Z9v rfl ?_ | refine Z9w ?_)); refine Z9u ?_) | refine awp_seq ?_ | refine Zbm (fun _ _ => rfl) ?_ | refine Z8h ?_ | refine Zbn (fun _ _ => rfl) ?_ | refine Zbo (fun _ _ => rfl) ?_ | refine Z8f (t := true) rfl (fun _ => ?_) (fun e => by cases e) | refine Z8f (t := false) rfl (fun e => by cases e) (fun _ => ?_)))
      refine Z8d ?_
      refine ares rfl (HSub.refl _) ⟨?_, rfl⟩
      simp only [Z8m]
      congr 1
      rcases (by omega : i = 0 ∨ i = 1) with rfl | rfl
      · rw [if_pos rfl] at hxv; rw [if_pos (by omega)]; exact hxv
      · rw [if_neg (by omega)] at hxv; rw [if_neg (by rw [ha (by omega)]; simp)]; exact hxv
  · (repeat (first | refine st_q rfl rfl rfl ?_ | refine Z8v rfl (st_q rfl rfl rfl ?_) | refine Z8w rfl ?_ | refine Z8x rfl ?_ | (refine Z8y ?_; (repeat (first | refine Z9v rfl ?_ | refine Z9w ?_)); refine Z9u ?_) | refine awp_seq ?_ | refine Zbm (fun _ _ => rfl) ?_ | refine Z8h ?_ | refine Zbn (fun _ _ => rfl) ?_ | refine Zbo (fun _ _ => rfl) ?_ | refine Z8f (t := true) rfl (fun _ => ?_) (fun e => by cases e) | refine Z8f (t := false) rfl (fun e => by cases e) (fun _ => ?_)))
    refine Z8d ?_
    exact ares rfl (HSub.refl _) ⟨by rw [ha (by omega), hb (by omega)]; rfl, rfl⟩
theorem Zu8 (k : Int) (σ : Zc) : Z1q Try.prog Zfi [.int .i64 k] σ fun r σ' => r = .bool (Zmb k) ∧ σ' = σ := by
  refine Z8t rfl Zt7 (Nat.le_of_ble_eq_true rfl) ?_
  by_cases h7 : k = 7
  · subst h7; (repeat (first | refine st_q rfl rfl rfl ?_ | refine Z8v rfl (st_q rfl rfl rfl ?_) | refine Z8w rfl ?_ | refine Z8x rfl ?_ | (refine Z8y ?_; (repeat (first | refine Z9v rfl ?_ | refine Z9w ?_)); refine Z9u ?_) | refine awp_seq ?_ | refine Zbm (fun _ _ => rfl) ?_ | refine Z8h ?_ | refine Zbn (fun _ _ => rfl) ?_ | refine Zbo (fun _ _ => rfl) ?_ | refine Z8f (t := true) rfl (fun _ => ?_) (fun e => by cases e) | refine Z8f (t := false) rfl (fun e => by cases e) (fun _ => ?_))); refine Z8d ?_; exact ares rfl (HSub.refl _) ⟨rfl, rfl⟩
  by_cases h16 : k = 16
  · subst h16; (repeat (first | refine st_q rfl rfl rfl ?_ | refine Z8v rfl (st_q rfl rfl rfl ?_) | refine Z8w rfl ?_ | refine Z8x rfl ?_ | (refine Z8y ?_; (repeat (first | refine Z9v rfl ?_ | refine Z9w ?_)); refine Z9u ?_) | refine awp_seq ?_ | refine Zbm (fun _ _ => rfl) ?_ | refine Z8h ?_ | refine Zbn (fun _ _ => rfl) ?_ | refine Zbo (fun _ _ => rfl) ?_ | refine Z8f (t := true) rfl (fun _ => ?_) (fun e => by cases e) | refine Z8f (t := false) rfl (fun e => by cases e) (fun _ => ?_))); refine Z8d ?_; exact ares rfl (HSub.refl _) ⟨rfl, rfl⟩
  by_cases h17 : k = 17
  · subst h17; (repeat (first | refine st_q rfl rfl rfl ?_ | refine Z8v rfl (st_q rfl rfl rfl ?_) | refine Z8w rfl ?_ | refine Z8x rfl ?_ | (refine Z8y ?_; (repeat (first | refine Z9v rfl ?_ | refine Z9w ?_)); refine Z9u ?_) | refine awp_seq ?_ | refine Zbm (fun _ _ => rfl) ?_ | refine Z8h ?_ | refine Zbn (fun _ _ => rfl) ?_ | refine Zbo (fun _ _ => rfl) ?_ | refine Z8f (t := true) rfl (fun _ => ?_) (fun e => by cases e) | refine Z8f (t := false) rfl (fun e => by cases e) (fun _ => ?_))); refine Z8d ?_; exact ares rfl (HSub.refl _) ⟨rfl, rfl⟩
  by_cases h8 : k = 8
  · subst h8; (repeat (first | refine st_q rfl rfl rfl ?_ | refine Z8v rfl (st_q rfl rfl rfl ?_) | refine Z8w rfl ?_ | refine Z8x rfl ?_ | (refine Z8y ?_; (repeat (first | refine Z9v rfl ?_ | refine Z9w ?_)); refine Z9u ?_) | refine awp_seq ?_ | refine Zbm (fun _ _ => rfl) ?_ | refine Z8h ?_ | refine Zbn (fun _ _ => rfl) ?_ | refine Zbo (fun _ _ => rfl) ?_ | refine Z8f (t := true) rfl (fun _ => ?_) (fun e => by cases e) | refine Z8f (t := false) rfl (fun e => by cases e) (fun _ => ?_))); refine Z8d ?_; exact ares rfl (HSub.refl _) ⟨rfl, rfl⟩
  (repeat (first | refine st_q rfl rfl rfl ?_ | refine Z8v rfl (st_q rfl rfl rfl ?_) | refine Z8w rfl ?_ | refine Z8x rfl ?_ | (refine Z8y ?_; (repeat (first | refine Z9v rfl ?_ | refine Z9w ?_)); refine Z9u ?_) | refine awp_seq ?_ | refine Zbm (fun _ _ => rfl) ?_ | refine Z8h ?_ | refine Zbn (fun _ _ => rfl) ?_ | refine Zbo (fun _ _ => rfl) ?_ | refine Z8f (t := true) rfl (fun _ => ?_) (fun e => by cases e) | refine Z8f (t := false) rfl (fun e => by cases e) (fun _ => ?_)))
  (rw [show decide (k = 7) = false from decide_eq_false (by omega)])
  (repeat (first | refine st_q rfl rfl rfl ?_ | refine Z8v rfl (st_q rfl rfl rfl ?_) | refine Z8w rfl ?_ | refine Z8x rfl ?_ | (refine Z8y ?_; (repeat (first | refine Z9v rfl ?_ | refine Z9w ?_)); refine Z9u ?_) | refine awp_seq ?_ | refine Zbm (fun _ _ => rfl) ?_ | refine Z8h ?_ | refine Zbn (fun _ _ => rfl) ?_ | refine Zbo (fun _ _ => rfl) ?_ | refine Z8f (t := true) rfl (fun _ => ?_) (fun e => by cases e) | refine Z8f (t := false) rfl (fun e => by cases e) (fun _ => ?_)))
  (rw [show decide (k = 8) = false from decide_eq_false (by omega)])
  (repeat (first | refine st_q rfl rfl rfl ?_ | refine Z8v rfl (st_q rfl rfl rfl ?_) | refine Z8w rfl ?_ | refine Z8x rfl ?_ | (refine Z8y ?_; (repeat (first | refine Z9v rfl ?_ | refine Z9w ?_)); refine Z9u ?_) | refine awp_seq ?_ | refine Zbm (fun _ _ => rfl) ?_ | refine Z8h ?_ | refine Zbn (fun _ _ => rfl) ?_ | refine Zbo (fun _ _ => rfl) ?_ | refine Z8f (t := true) rfl (fun _ => ?_) (fun e => by cases e) | refine Z8f (t := false) rfl (fun e => by cases e) (fun _ => ?_)))
  (rw [show decide (k = 16) = false from decide_eq_false (by omega)])
  (repeat (first | refine st_q rfl rfl rfl ?_ | refine Z8v rfl (st_q rfl rfl rfl ?_) | refine Z8w rfl ?_ | refine Z8x rfl ?_ | (refine Z8y ?_; (repeat (first | refine Z9v rfl ?_ | refine Z9w ?_)); refine Z9u ?_) | refine awp_seq ?_ | refine Zbm (fun _ _ => rfl) ?_ | refine Z8h ?_ | refine Zbn (fun _ _ => rfl) ?_ | refine Zbo (fun _ _ => rfl) ?_ | refine Z8f (t := true) rfl (fun _ => ?_) (fun e => by cases e) | refine Z8f (t := false) rfl (fun e => by cases e) (fun _ => ?_)))
  (rw [show decide (k = 17) = false from decide_eq_false (by omega)])
  (repeat (first | refine st_q rfl rfl rfl ?_ | refine Z8v rfl (st_q rfl rfl rfl ?_) | refine Z8w rfl ?_ | refine Z8x rfl ?_ | (refine Z8y ?_; (repeat (first | refine Z9v rfl ?_ | refine Z9w ?_)); refine Z9u ?_) | refine awp_seq ?_ | refine Zbm (fun _ _ => rfl) ?_ | refine Z8h ?_ | refine Zbn (fun _ _ => rfl) ?_ | refine Zbo (fun _ _ => rfl) ?_ | refine Z8f (t := true) rfl (fun _ => ?_) (fun e => by cases e) | refine Z8f (t := false) rfl (fun e => by cases e) (fun _ => ?_)))
  refine Z8d ?_
  exact ares rfl (HSub.refl _) ⟨by simp [Zmb, Z8m, h7, h16, h17, h8], rfl⟩
theorem Zu9 (t : List Z0) (k : Int) (ht : t.length = 6) (hk : t[0]? = some (.int .i64 k)) (ht1 : ∀ c ∈ t, c.one = true) (a b : Vl) (σ : Zc) : Z1q Try.prog Zel [.agg t, encV a, encV b] σ fun r σ' => r = .tup [.int .i64 (cmpV k a b).1, .bool (cmpV k a b).2] ∧ σ' = σ := by
  match t, ht with
  | [t0, t1, t2, t3, t4, t5], _ =>
  simp only [List.getElem?_cons_zero, Option.some.injEq] at hk
  subst hk
  obtain ⟨an, ai, a_n, ab, ak⟩ := a
  obtain ⟨bn, bi, b_n, bb, bk⟩ := b
  simp only [encV]
  refine Z8t rfl Zt2 (Nat.le_of_ble_eq_true rfl) ?_
  refine Z9z ?_
  refine Z9j rfl ⟨rfl, ht1⟩ fun b1 hb1 => ?_
  refine Z9j rfl (Z0.fit_iff.1 rfl) fun b2 hb2 => ?_
  refine Z9j rfl (Z0.fit_iff.1 rfl) fun b3 hb3 => ?_
  (repeat (refine st_q rfl rfl rfl ?_))
  (refine Z8y ?_; (repeat (first | refine Z9v rfl ?_ | refine Z9w ?_)); refine Z9u ?_)
  refine Zb3 (d := 5) (cs := [.bool bn, .int .i64 bi, .int .i64 b_n, .slc 1 (bytes bb) false, .slc 5 (Zm5 bk) false]) rfl ?_
  refine Zb3 (d := 4) (cs := [.bool an, .int .i64 ai, .int .i64 a_n, .slc 1 (bytes ab) false, .slc 5 (Zm5 ak) false]) rfl ?_
  refine Zb3 (d := 3) (cs := [.int .i64 k, t1, t2, t3, t4, t5]) rfl ?_
  (repeat (first | refine st_q rfl rfl rfl ?_ | refine Z8v rfl (st_q rfl rfl rfl ?_) | refine Z8w rfl ?_ | refine Z8x rfl ?_ | (refine Z8y ?_; (repeat (first | refine Z9v rfl ?_ | refine Z9w ?_)); refine Z9u ?_) | refine awp_seq ?_ | refine Zbm (fun _ _ => rfl) ?_ | refine Z8h ?_ | refine Zbn (fun _ _ => rfl) ?_ | refine Zbo (fun _ _ => rfl) ?_ | refine Z8f (t := true) rfl (fun _ => ?_) (fun e => by cases e) | refine Z8f (t := false) rfl (fun e => by cases e) (fun _ => ?_)))
  refine Z9t rfl (Zmw k _) ?_
  cases hl : Zlt k with
  | false =>
    (repeat (first | refine st_q rfl rfl rfl ?_ | refine Z8v rfl (st_q rfl rfl rfl ?_) | refine Z8w rfl ?_ | refine Z8x rfl ?_ | (refine Z8y ?_; (repeat (first | refine Z9v rfl ?_ | refine Z9w ?_)); refine Z9u ?_) | refine awp_seq ?_ | refine Zbm (fun _ _ => rfl) ?_ | refine Z8h ?_ | refine Zbn (fun _ _ => rfl) ?_ | refine Zbo (fun _ _ => rfl) ?_ | refine Z8f (t := true) rfl (fun _ => ?_) (fun e => by cases e) | refine Z8f (t := false) rfl (fun e => by cases e) (fun _ => ?_)))
    refine Z8d ?_
    exact ares rfl (HSub.refl _) ⟨by rw [cmpV, if_pos (.inl hl)]; rfl, rfl⟩
  | true =>
    cases an with
    | true =>
      (repeat (first | refine st_q rfl rfl rfl ?_ | refine Z8v rfl (st_q rfl rfl rfl ?_) | refine Z8w rfl ?_ | refine Z8x rfl ?_ | (refine Z8y ?_; (repeat (first | refine Z9v rfl ?_ | refine Z9w ?_)); refine Z9u ?_) | refine awp_seq ?_ | refine Zbm (fun _ _ => rfl) ?_ | refine Z8h ?_ | refine Zbn (fun _ _ => rfl) ?_ | refine Zbo (fun _ _ => rfl) ?_ | refine Z8f (t := true) rfl (fun _ => ?_) (fun e => by cases e) | refine Z8f (t := false) rfl (fun e => by cases e) (fun _ => ?_)))
      refine Z8d ?_
      exact ares rfl (HSub.refl _) ⟨by rw [cmpV, if_pos (.inr (.inl rfl))]; rfl, rfl⟩
    | false =>
      cases bn with
      | true =>
        (repeat (first | refine st_q rfl rfl rfl ?_ | refine Z8v rfl (st_q rfl rfl rfl ?_) | refine Z8w rfl ?_ | refine Z8x rfl ?_ | (refine Z8y ?_; (repeat (first | refine Z9v rfl ?_ | refine Z9w ?_)); refine Z9u ?_) | refine awp_seq ?_ | refine Zbm (fun _ _ => rfl) ?_ | refine Z8h ?_ | refine Zbn (fun _ _ => rfl) ?_ | refine Zbo (fun _ _ => rfl) ?_ | refine Z8f (t := true) rfl (fun _ => ?_) (fun e => by cases e) | refine Z8f (t := false) rfl (fun e => by cases e) (fun _ => ?_)))
        refine Z8d ?_
        exact ares rfl (HSub.refl _) ⟨by rw [cmpV, if_pos (.inr (.inr rfl))]; rfl, rfl⟩
      | false =>
        have hc : ¬ (Zlt k = false ∨ (Vl.mk false ai a_n ab ak).null = true ∨ (Vl.mk false bi b_n bb bk).null = true) := by simp [hl, Vl.null]
        rw [cmpV, if_neg hc]
        (repeat (first | refine st_q rfl rfl rfl ?_ | refine Z8v rfl (st_q rfl rfl rfl ?_) | refine Z8w rfl ?_ | refine Z8x rfl ?_ | (refine Z8y ?_; (repeat (first | refine Z9v rfl ?_ | refine Z9w ?_)); refine Z9u ?_) | refine awp_seq ?_ | refine Zbm (fun _ _ => rfl) ?_ | refine Z8h ?_ | refine Zbn (fun _ _ => rfl) ?_ | refine Zbo (fun _ _ => rfl) ?_ | refine Z8f (t := true) rfl (fun _ => ?_) (fun e => by cases e) | refine Z8f (t := false) rfl (fun e => by cases e) (fun _ => ?_)))
        refine Z9t rfl (Zu8 k _) ?_
        cases ht : Zmb k with
        | true =>
          (repeat (first | refine st_q rfl rfl rfl ?_ | refine Z8v rfl (st_q rfl rfl rfl ?_) | refine Z8w rfl ?_ | refine Z8x rfl ?_ | (refine Z8y ?_; (repeat (first | refine Z9v rfl ?_ | refine Z9w ?_)); refine Z9u ?_) | refine awp_seq ?_ | refine Zbm (fun _ _ => rfl) ?_ | refine Z8h ?_ | refine Zbn (fun _ _ => rfl) ?_ | refine Zbo (fun _ _ => rfl) ?_ | refine Z8f (t := true) rfl (fun _ => ?_) (fun e => by cases e) | refine Z8f (t := false) rfl (fun e => by cases e) (fun _ => ?_)))
          refine Z9t rfl (Zu3 ab bb false false _) ?_
          (repeat (first | refine st_q rfl rfl rfl ?_ | refine Z8v rfl (st_q rfl rfl rfl ?_) | refine Z8w rfl ?_ | refine Z8x rfl ?_ | (refine Z8y ?_; (repeat (first | refine Z9v rfl ?_ | refine Z9w ?_)); refine Z9u ?_) | refine awp_seq ?_ | refine Zbm (fun _ _ => rfl) ?_ | refine Z8h ?_ | refine Zbn (fun _ _ => rfl) ?_ | refine Zbo (fun _ _ => rfl) ?_ | refine Z8f (t := true) rfl (fun _ => ?_) (fun e => by cases e) | refine Z8f (t := false) rfl (fun e => by cases e) (fun _ => ?_)))
          refine Z8d ?_
          exact ares rfl (HSub.refl _) ⟨rfl, rfl⟩
        | false =>
          (repeat (first | refine st_q rfl rfl rfl ?_ | refine Z8v rfl (st_q rfl rfl rfl ?_) | refine Z8w rfl ?_ | refine Z8x rfl ?_ | (refine Z8y ?_; (repeat (first | refine Z9v rfl ?_ | refine Z9w ?_)); refine Z9u ?_) | refine awp_seq ?_ | refine Zbm (fun _ _ => rfl) ?_ | refine Z8h ?_ | refine Zbn (fun _ _ => rfl) ?_ | refine Zbo (fun _ _ => rfl) ?_ | refine Z8f (t := true) rfl (fun _ => ?_) (fun e => by cases e) | refine Z8f (t := false) rfl (fun e => by cases e) (fun _ => ?_)))
          refine Zbw rfl (Zu6 ai bi) ?_
          (repeat (first | refine st_q rfl rfl rfl ?_ | refine Z8v rfl (st_q rfl rfl rfl ?_) | refine Z8w rfl ?_ | refine Z8x rfl ?_ | (refine Z8y ?_; (repeat (first | refine Z9v rfl ?_ | refine Z9w ?_)); refine Z9u ?_) | refine awp_seq ?_ | refine Zbm (fun _ _ => rfl) ?_ | refine Z8h ?_ | refine Zbn (fun _ _ => rfl) ?_ | refine Zbo (fun _ _ => rfl) ?_ | refine Z8f (t := true) rfl (fun _ => ?_) (fun e => by cases e) | refine Z8f (t := false) rfl (fun e => by cases e) (fun _ => ?_)))
          refine Z9t rfl (Zu7 a_n b_n _) ?_
          (repeat (first | refine st_q rfl rfl rfl ?_ | refine Z8v rfl (st_q rfl rfl rfl ?_) | refine Z8w rfl ?_ | refine Z8x rfl ?_ | (refine Z8y ?_; (repeat (first | refine Z9v rfl ?_ | refine Z9w ?_)); refine Z9u ?_) | refine awp_seq ?_ | refine Zbm (fun _ _ => rfl) ?_ | refine Z8h ?_ | refine Zbn (fun _ _ => rfl) ?_ | refine Zbo (fun _ _ => rfl) ?_ | refine Z8f (t := true) rfl (fun _ => ?_) (fun e => by cases e) | refine Z8f (t := false) rfl (fun e => by cases e) (fun _ => ?_)))
          refine Z9t rfl (c_Or _ _ _) ?_
          (repeat (first | refine st_q rfl rfl rfl ?_ | refine Z8v rfl (st_q rfl rfl rfl ?_) | refine Z8w rfl ?_ | refine Z8x rfl ?_ | (refine Z8y ?_; (repeat (first | refine Z9v rfl ?_ | refine Z9w ?_)); refine Z9u ?_) | refine awp_seq ?_ | refine Zbm (fun _ _ => rfl) ?_ | refine Z8h ?_ | refine Zbn (fun _ _ => rfl) ?_ | refine Zbo (fun _ _ => rfl) ?_ | refine Z8f (t := true) rfl (fun _ => ?_) (fun e => by cases e) | refine Z8f (t := false) rfl (fun e => by cases e) (fun _ => ?_)))
          refine Z8d ?_
          exact ares rfl (HSub.refl _) ⟨rfl, rfl⟩
end Go.Abs
namespace Go.Abs
open Go Go.Proofs
set_option linter.unusedVariables false
set_option linter.unusedSimpArgs false
set_option maxHeartbeats 4000000
attribute [local irreducible] AWp aops KP
theorem Zua (xs : List Z0) (f : Bool) (σ : Zc) : Z1q Try.prog Zfp [.slc 1 xs f] σ fun r σ' => r = .slc 1 xs true ∧ σ' = σ := by
  refine Z8t rfl Ztd (Nat.le_of_ble_eq_true rfl) ?_
  (repeat (first | refine st_q rfl rfl rfl ?_ | refine Z8v rfl (st_q rfl rfl rfl ?_) | refine Z8w rfl ?_ | refine Z8x rfl ?_ | (refine Z8y ?_; (repeat (first | refine Z9v rfl ?_ | refine Z9w ?_)); refine Z9u ?_) | refine awp_seq ?_ | refine Zbm (fun _ _ => rfl) ?_ | refine Z8h ?_ | refine Zbn (fun _ _ => rfl) ?_ | refine Zbo (fun _ _ => rfl) ?_ | refine Z8f (t := true) rfl (fun _ => ?_) (fun e => by cases e) | refine Z8f (t := false) rfl (fun e => by cases e) (fun _ => ?_)))
  refine Z9r rfl (by omega) (by omega) ?_
  rw [Int.toNat_natCast, List.take_length]
  (repeat (first | refine st_q rfl rfl rfl ?_ | refine Z8v rfl (st_q rfl rfl rfl ?_) | refine Z8w rfl ?_ | refine Z8x rfl ?_ | (refine Z8y ?_; (repeat (first | refine Z9v rfl ?_ | refine Z9w ?_)); refine Z9u ?_) | refine awp_seq ?_ | refine Zbm (fun _ _ => rfl) ?_ | refine Z8h ?_ | refine Zbn (fun _ _ => rfl) ?_ | refine Zbo (fun _ _ => rfl) ?_ | refine Z8f (t := true) rfl (fun _ => ?_) (fun e => by cases e) | refine Z8f (t := false) rfl (fun e => by cases e) (fun _ => ?_)))
  refine Z8d ?_
  exact ares rfl (HSub.refl _) ⟨rfl, rfl⟩
theorem Zub {v : Z0} {xs : List Z0} {β : Zc} (ho : Zbr 1 v xs β) (σ : Zc) : Z1q Try.prog Zfp [v] (β ++ σ) fun r σ' => r = .slc 1 xs true ∧ σ' = σ := by
  rcases ho with ⟨⟨z, rfl⟩, rfl, rfl⟩ | ⟨b, rfl, rfl⟩
  · exact Z1q.args (VRle.nil_slc z 1 true) (Zua [] true σ)
  refine Z8t rfl Ztd (Nat.le_of_ble_eq_true rfl) ?_
  (repeat (first | refine st_q rfl rfl rfl ?_ | refine Z8v rfl (st_q rfl rfl rfl ?_) | refine Z8w rfl ?_ | refine Z8x rfl ?_ | (refine Z8y ?_; (repeat (first | refine Z9v rfl ?_ | refine Z9w ?_)); refine Z9u ?_) | refine awp_seq ?_ | refine Zbm (fun _ _ => rfl) ?_ | refine Z8h ?_ | refine Zbn (fun _ _ => rfl) ?_ | refine Zbo (fun _ _ => rfl) ?_ | refine Z8f (t := true) rfl (fun _ => ?_) (fun e => by cases e) | refine Z8f (t := false) rfl (fun e => by cases e) (fun _ => ?_)))
  refine Z9q rfl Z8z (by omega) (by omega) (by omega) Z9h ?_
  rw [List.drop_zero, Int.toNat_natCast, List.take_length]
  (repeat (first | refine st_q rfl rfl rfl ?_ | refine Z8v rfl (st_q rfl rfl rfl ?_) | refine Z8w rfl ?_ | refine Z8x rfl ?_ | (refine Z8y ?_; (repeat (first | refine Z9v rfl ?_ | refine Z9w ?_)); refine Z9u ?_) | refine awp_seq ?_ | refine Zbm (fun _ _ => rfl) ?_ | refine Z8h ?_ | refine Zbn (fun _ _ => rfl) ?_ | refine Zbo (fun _ _ => rfl) ?_ | refine Z8f (t := true) rfl (fun _ => ?_) (fun e => by cases e) | refine Z8f (t := false) rfl (fun e => by cases e) (fun _ => ?_)))
  refine Z8d ?_
  exact ares rfl (HSub.refl _) ⟨rfl, rfl⟩
theorem Zuc (xs : List Z0) (f : Bool) (σ : Zc) : Z1q Try.prog Zfr [.slc 5 xs f] σ fun r σ' => r = .slc 5 xs true ∧ σ' = σ := by
  refine Z8t rfl Ztf (Nat.le_of_ble_eq_true rfl) ?_
  (repeat (first | refine st_q rfl rfl rfl ?_ | refine Z8v rfl (st_q rfl rfl rfl ?_) | refine Z8w rfl ?_ | refine Z8x rfl ?_ | (refine Z8y ?_; (repeat (first | refine Z9v rfl ?_ | refine Z9w ?_)); refine Z9u ?_) | refine awp_seq ?_ | refine Zbm (fun _ _ => rfl) ?_ | refine Z8h ?_ | refine Zbn (fun _ _ => rfl) ?_ | refine Zbo (fun _ _ => rfl) ?_ | refine Z8f (t := true) rfl (fun _ => ?_) (fun e => by cases e) | refine Z8f (t := false) rfl (fun e => by cases e) (fun _ => ?_)))
  refine Z9r rfl (by omega) (by omega) ?_
  rw [Int.toNat_natCast, List.take_length]
  (repeat (first | refine st_q rfl rfl rfl ?_ | refine Z8v rfl (st_q rfl rfl rfl ?_) | refine Z8w rfl ?_ | refine Z8x rfl ?_ | (refine Z8y ?_; (repeat (first | refine Z9v rfl ?_ | refine Z9w ?_)); refine Z9u ?_) | refine awp_seq ?_ | refine Zbm (fun _ _ => rfl) ?_ | refine Z8h ?_ | refine Zbn (fun _ _ => rfl) ?_ | refine Zbo (fun _ _ => rfl) ?_ | refine Z8f (t := true) rfl (fun _ => ?_) (fun e => by cases e) | refine Z8f (t := false) rfl (fun e => by cases e) (fun _ => ?_)))
  refine Z8d ?_
  exact ares rfl (HSub.refl _) ⟨rfl, rfl⟩
theorem Zud {v : Z0} {xs : List Z0} {β : Zc} (ho : Zbr 5 v xs β) (σ : Zc) : Z1q Try.prog Zfr [v] (β ++ σ) fun r σ' => r = .slc 5 xs true ∧ σ' = σ := by
  rcases ho with ⟨⟨z, rfl⟩, rfl, rfl⟩ | ⟨b, rfl, rfl⟩
  · exact Z1q.args (VRle.nil_slc z 5 true) (Zuc [] true σ)
  refine Z8t rfl Ztf (Nat.le_of_ble_eq_true rfl) ?_
  (repeat (first | refine st_q rfl rfl rfl ?_ | refine Z8v rfl (st_q rfl rfl rfl ?_) | refine Z8w rfl ?_ | refine Z8x rfl ?_ | (refine Z8y ?_; (repeat (first | refine Z9v rfl ?_ | refine Z9w ?_)); refine Z9u ?_) | refine awp_seq ?_ | refine Zbm (fun _ _ => rfl) ?_ | refine Z8h ?_ | refine Zbn (fun _ _ => rfl) ?_ | refine Zbo (fun _ _ => rfl) ?_ | refine Z8f (t := true) rfl (fun _ => ?_) (fun e => by cases e) | refine Z8f (t := false) rfl (fun e => by cases e) (fun _ => ?_)))
  refine Z9q rfl Z8z (by omega) (by omega) (by omega) Z9h ?_
  rw [List.drop_zero, Int.toNat_natCast, List.take_length]
  (repeat (first | refine st_q rfl rfl rfl ?_ | refine Z8v rfl (st_q rfl rfl rfl ?_) | refine Z8w rfl ?_ | refine Z8x rfl ?_ | (refine Z8y ?_; (repeat (first | refine Z9v rfl ?_ | refine Z9w ?_)); refine Z9u ?_) | refine awp_seq ?_ | refine Zbm (fun _ _ => rfl) ?_ | refine Z8h ?_ | refine Zbn (fun _ _ => rfl) ?_ | refine Zbo (fun _ _ => rfl) ?_ | refine Z8f (t := true) rfl (fun _ => ?_) (fun e => by cases e) | refine Z8f (t := false) rfl (fun e => by cases e) (fun _ => ?_)))
  refine Z8d ?_
  exact ares rfl (HSub.refl _) ⟨rfl, rfl⟩
theorem Zue (xs : List Z0) (f : Bool) (he : ∀ x ∈ xs, x.elem 1) (hb : xs.length * 1 ≤ 140737488355328) (σ : Zc) : Z1q Try.prog Zfq [.slc 1 xs f] σ fun r σ' => r = .slc 1 xs false ∧ σ' = σ := by
  refine Z8t rfl Zte (Nat.le_of_ble_eq_true rfl) ?_
  have key : ∀ t : Bool, (t = true → xs = []) → AWp Try.prog Zsc.n (.cond (.t 4) (.seq (.region Zsa [2]) .ret) .skip) (Z8e Try.prog Zsc.n (Zsc.code.snd 2) (ARet Zsc.res fun r σ' => r = .slc 1 xs false ∧ σ' = σ))
      (fset 0 (some (.slc 1 xs f)) (fset 4 (some (.bool t)) Z27)) σ := by
    intro t ht
    cases t with
    | true =>
      (repeat (first | refine st_q rfl rfl rfl ?_ | refine Z8v rfl (st_q rfl rfl rfl ?_) | refine Z8w rfl ?_ | refine Z8x rfl ?_ | (refine Z8y ?_; (repeat (first | refine Z9v rfl ?_ | refine Z9w ?_)); refine Z9u ?_) | refine awp_seq ?_ | refine Zbm (fun _ _ => rfl) ?_ | refine Z8h ?_ | refine Zbn (fun _ _ => rfl) ?_ | refine Zbo (fun _ _ => rfl) ?_ | refine Z8f (t := true) rfl (fun _ => ?_) (fun e => by cases e) | refine Z8f (t := false) rfl (fun e => by cases e) (fun _ => ?_)))
      refine Z8d ?_
      refine Zau rfl ?_ (HSub.refl _) ⟨rfl, rfl⟩
      rw [ht rfl]
      exact VRle.trans (VRle.nil_slc 0 1 true) VRle.full
    | false =>
      (repeat (first | refine st_q rfl rfl rfl ?_ | refine Z8v rfl (st_q rfl rfl rfl ?_) | refine Z8w rfl ?_ | refine Z8x rfl ?_ | (refine Z8y ?_; (repeat (first | refine Z9v rfl ?_ | refine Z9w ?_)); refine Z9u ?_) | refine awp_seq ?_ | refine Zbm (fun _ _ => rfl) ?_ | refine Z8h ?_ | refine Zbn (fun _ _ => rfl) ?_ | refine Zbo (fun _ _ => rfl) ?_ | refine Z8f (t := true) rfl (fun _ => ?_) (fun e => by cases e) | refine Z8f (t := false) rfl (fun e => by cases e) (fun _ => ?_)))
      refine Z9p rfl (ys := xs) (by simp [Z1m]) (by simpa using hb) fun b hb => ?_
      (repeat (first | refine st_q rfl rfl rfl ?_ | refine Z8v rfl (st_q rfl rfl rfl ?_) | refine Z8w rfl ?_ | refine Z8x rfl ?_ | (refine Z8y ?_; (repeat (first | refine Z9v rfl ?_ | refine Z9w ?_)); refine Z9u ?_) | refine awp_seq ?_ | refine Zbm (fun _ _ => rfl) ?_ | refine Z8h ?_ | refine Zbn (fun _ _ => rfl) ?_ | refine Zbo (fun _ _ => rfl) ?_ | refine Z8f (t := true) rfl (fun _ => ?_) (fun e => by cases e) | refine Z8f (t := false) rfl (fun e => by cases e) (fun _ => ?_)))
      refine Z8d ?_
      exact Zbu rfl (Zb6.one (Zb6.freeze rfl)) ⟨rfl, rfl⟩
  (repeat (first | refine st_q rfl rfl rfl ?_ | refine Z8v rfl (st_q rfl rfl rfl ?_) | refine Z8w rfl ?_ | refine Z8x rfl ?_ | (refine Z8y ?_; (repeat (first | refine Z9v rfl ?_ | refine Z9w ?_)); refine Z9u ?_) | refine awp_seq ?_ | refine Zbm (fun _ _ => rfl) ?_ | refine Z8h ?_ | refine Zbn (fun _ _ => rfl) ?_ | refine Zbo (fun _ _ => rfl) ?_ | refine Z8f (t := true) rfl (fun _ => ?_) (fun e => by cases e) | refine Z8f (t := false) rfl (fun e => by cases e) (fun _ => ?_)))
  refine Z8u rfl ?_
  refine ⟨fun _ => ?_, fun hx t => ?_⟩
  · (refine Z8y ?_; (repeat (first | refine Z9v rfl ?_ | refine Z9w ?_)); refine Z9u ?_)
    exact key false (fun h => by cases h)
  · (refine Z8y ?_; (repeat (first | refine Z9v rfl ?_ | refine Z9w ?_)); refine Z9u ?_)
    exact key t (fun _ => hx)
inductive Vl.Cl : Vl → Prop
  | mk {v : Vl} (h1 : v.b.length ≤ 140737488355328) (h2 : v.kids.length ≤ 1000000000) (h : ∀ k ∈ v.kids, Vl.Cl k) : Vl.Cl v
theorem Zuf (b : List UInt8) : ∀ x ∈ bytes b, x.elem 1 := fun x hx => by
  obtain ⟨c, _, rfl⟩ := List.mem_map.1 hx
  exact ⟨rfl, fun c hc => by rw [List.mem_singleton.1 hc]; rfl⟩
theorem Zug : ∀ (v : Vl), v.Cl → ∀ σ, Z1q Try.prog Zer [encV v] σ fun r σ' => r = encV v ∧ σ' = σ := by
  refine Vl.ind fun nu i n bs ks ih hcl σ => ?_
  cases hcl with
  | mk hb hk hkids =>
  simp only [encV, Vl.b, Vl.kids] at *
  refine Z8t rfl Zt6 (Nat.le_of_ble_eq_true rfl) ?_
  refine Z9z ?_
  refine Z9j rfl (Z0.fit_iff.1 rfl) fun b1 hb1 => ?_
  refine Z9k (by simp [Z0.cells, Z0.one]) fun b2 hb2 => ?_
  have hne : b1 ≠ b2 := fun e => hb2 (by rw [e]; simp [Zh])
  (refine Z8y ?_; (repeat (first | refine Z9v rfl ?_ | refine Z9w ?_)); refine Z9u ?_)
  refine Z8a (FSub.refl _) (HSub.swap _ _ _) ?_
  refine Z9z ?_
  refine st_q rfl rfl rfl ?_
  refine Z92 rfl Z8z rfl rfl ?_
  refine Z9t rfl (Zue (bytes bs) false (Zuf bs) (by rw [Zam]; omega) _) ?_
  refine Z9t rfl (Zua (bytes bs) false _) ?_
  refine st_q rfl rfl rfl ?_
  refine Z9a rfl Z8z rfl (by decide) (Z0.fit_iff.1 rfl) (fun h => by cases h) Z9b ?_
  (refine Z8y ?_; (repeat (first | refine Z9v rfl ?_ | refine Z9w ?_)); refine Z9u ?_)
  change AWp _ _ _ _ _ ((b1, .cells 5 [.agg [.bool nu, .int .i64 i, .int .i64 n, .slc 1 (bytes bs) true, .slc 5 (Zm5 ks) false]]) :: (b2, .cells 5 [.agg [.bool false, .int .i64 0, .int .i64 0, .slc 0 [] true, .slc 0 [] true]]) :: σ)
  refine Z9z ?_
  (repeat (refine st_q rfl rfl rfl ?_))
  (refine Z8y ?_; (repeat (first | refine Z9v rfl ?_ | refine Z9w ?_)); refine Z9u ?_)
  refine awp_seq ?_
  refine awp_seq ?_
  refine Zbm (fun _ _ => rfl) ?_
  refine st_q rfl rfl rfl ?_
  refine Z92 rfl Z8z rfl rfl ?_
  (repeat (refine st_q rfl rfl rfl ?_))
  rw [Zm9]
  (refine Z8y ?_; (repeat (first | refine Z9v rfl ?_ | refine Z9w ?_)); refine Z9u ?_)
  refine Z8h ?_
  generalize hτ : (b1, Zb.cells 5 [.agg [.bool nu, .int .i64 i, .int .i64 n, .slc 1 (bytes bs) true, .slc 5 (Zm5 ks) false]]) :: (b2, Zb.cells 5 [.agg [.bool false, .int .i64 0, .int .i64 0, .slc 0 [] true, .slc 0 [] true]]) :: σ = τ
  refine Zaa (fun m F σ' => ∃ (j : Nat) (vk : Z0) (βk : Zc), F = fset 1 (some (.ptr b1 0 0)) (fset 2 (some (.ptr b2 0 0)) (fset 3 (some vk) (fset 12 (some (.slc 5 (Zm5 ks) false)) (fset 13 (some (.int .i64 (ks.length : Int))) (fset 14 (some (.int .i64 (j : Int))) Z27))))) ∧
    σ' = βk ++ τ ∧ Zbr 5 vk (Zm5 (ks.take j)) βk ∧ j ≤ ks.length ∧ m = ks.length - j) (n := ks.length)
    ⟨0, _, [], rfl, rfl, Zbr.nil 5 0, by omega, rfl⟩ ?_
  rintro m F σ' ⟨j, vk, βk, rfl, rfl, hok, hj, rfl⟩
  (repeat (first | refine st_q rfl rfl rfl ?_ | refine Z8v rfl (st_q rfl rfl rfl ?_) | refine Z8w rfl ?_ | refine Z8x rfl ?_ | (refine Z8y ?_; (repeat (first | refine Z9v rfl ?_ | refine Z9w ?_)); refine Z9u ?_) | refine awp_seq ?_ | refine Zbm (fun _ _ => rfl) ?_ | refine Z8h ?_ | refine Zbn (fun _ _ => rfl) ?_ | refine Zbo (fun _ _ => rfl) ?_ | refine Z8f (t := true) rfl (fun _ => ?_) (fun e => by cases e) | refine Z8f (t := false) rfl (fun e => by cases e) (fun _ => ?_)))
  refine Za3 (p := (j : Int) < (ks.length : Int)) rfl (fun h3 => ?_) (fun h3 => ?_)
  · have hjl : j < ks.length := by omega
    have Zd : ks[j]? = some ks[j] := List.getElem?_eq_getElem hjl
    have hx : (Zm5 ks)[(j : Int).toNat]? = some (encV ks[j]) := Zma (by rw [Int.toNat_natCast, Zd])
    have htk : Zm5 (ks.take (j + 1)) = Zm5 (ks.take j) ++ [encV ks[j]] := by rw [List.take_add_one, Zd, Zm8, Zm8, List.map_append]; rfl
    have hcv := ih ks[j] (List.getElem_mem hjl) (hkids _ (List.getElem_mem hjl))
    rw [Zm7] at hx hcv htk
    (repeat (first | refine st_q rfl rfl rfl ?_ | refine Z8v rfl (st_q rfl rfl rfl ?_) | refine Z8w rfl ?_ | refine Z8x rfl ?_ | (refine Z8y ?_; (repeat (first | refine Z9v rfl ?_ | refine Z9w ?_)); refine Z9u ?_) | refine awp_seq ?_ | refine Zbm (fun _ _ => rfl) ?_ | refine Z8h ?_ | refine Zbn (fun _ _ => rfl) ?_ | refine Zbo (fun _ _ => rfl) ?_ | refine Z8f (t := true) rfl (fun _ => ?_) (fun e => by cases e) | refine Z8f (t := false) rfl (fun e => by cases e) (fun _ => ?_)))
    refine Z93 rfl (by omega) hx ?_
    (repeat (first | refine st_q rfl rfl rfl ?_ | refine Z8v rfl (st_q rfl rfl rfl ?_) | refine Z8w rfl ?_ | refine Z8x rfl ?_ | (refine Z8y ?_; (repeat (first | refine Z9v rfl ?_ | refine Z9w ?_)); refine Z9u ?_) | refine awp_seq ?_ | refine Zbm (fun _ _ => rfl) ?_ | refine Z8h ?_ | refine Zbn (fun _ _ => rfl) ?_ | refine Zbo (fun _ _ => rfl) ?_ | refine Z8f (t := true) rfl (fun _ => ?_) (fun e => by cases e) | refine Z8f (t := false) rfl (fun e => by cases e) (fun _ => ?_)))
    refine Z9k (by simp [Z0.cells, Z0.one]) fun vb hvb => ?_
    refine Z9a rfl Z8z rfl (by decide) (Z0.fit_iff.1 rfl) (fun h => by cases h) Z9b ?_
    (refine Z8y ?_; (repeat (first | refine Z9v rfl ?_ | refine Z9w ?_)); refine Z9u ?_)
    refine Zb3 (d := 5) (cs := Zm6 ks[j]) rfl ?_
    refine awp_region ?_
    (repeat (refine st_q rfl rfl rfl ?_))
    refine Z9t rfl (hcv _) ?_
    (repeat (refine st_q rfl rfl rfl ?_))
    refine Zbs (ys := [.agg (Zm6 ks[j])]) hok rfl rfl (by
      rw [Zm9, List.length_take]; simp only [List.length_cons, List.length_nil]; omega) fun b' hb' => ?_
    (repeat (refine st_q rfl rfl rfl ?_))
    refine Z8y ?_
    refine Z9y (keep := [1, 2, 3, 12, 13, 14]) ?_
    ((repeat (first | refine Z9v rfl ?_ | refine Z9w ?_)); refine Z9u ?_)
    rw [← htk]
    refine Zbp ?_
    (repeat (refine st_q rfl rfl rfl ?_))
    rw [show IntKind.wrap .i64 ((j : Int) + 1) = ((j + 1 : Nat) : Int) by rw [w64 _ (by omega) (by omega)]; omega]
    (refine Z8y ?_; (repeat (first | refine Z9v rfl ?_ | refine Z9w ?_)); refine Z9u ?_)
    exact ⟨_, ks.length - (j + 1), HSub.refl _, ⟨j + 1, _, _, rfl, rfl, Zbr.mk, by omega, rfl⟩, by omega⟩
  · have hje : j = ks.length := by omega
    subst hje
    rw [List.take_length] at hok
    refine Zbo (fun _ _ => rfl) ?_
    refine Z9z ?_
    (repeat (refine st_q rfl rfl rfl ?_))
    refine Z9t rfl (Zud hok τ) ?_
    rw [← hτ]
    refine st_q rfl rfl rfl ?_
    refine Z9a rfl Z8z rfl (by decide) (Z0.fit_iff.1 rfl) (fun h => by cases h) Z9b ?_
    (refine Z8y ?_; (repeat (first | refine Z9v rfl ?_ | refine Z9w ?_)); refine Z9u ?_)
    change AWp _ _ _ _ _ ((b1, .cells 5 [.agg [.bool nu, .int .i64 i, .int .i64 n, .slc 1 (bytes bs) true, .slc 5 (Zm5 ks) true]]) :: (b2, .cells 5 [.agg [.bool false, .int .i64 0, .int .i64 0, .slc 0 [] true, .slc 0 [] true]]) :: σ)
    refine Z9z ?_
    refine Z92 rfl Z8z rfl rfl ?_
    refine Z9a rfl (Z90 hne Z8z) rfl (by decide) (Z0.fit_iff.1 rfl) (fun h => by cases h) (Z9c hne Z9b) ?_
    (refine Z8y ?_; (repeat (first | refine Z9v rfl ?_ | refine Z9w ?_)); refine Z9u ?_)
    refine Z8a (FSub.refl _) (HSub.swap _ _ _) ?_
    refine Zb3 (d := 2) (cs := [.bool nu, .int .i64 i, .int .i64 n, .slc 1 (bytes bs) true, .slc 5 (Zm5 ks) true]) rfl ?_
    refine Z8d ?_
    refine Zau rfl ?_ (HSub.tail _ _) ⟨rfl, rfl⟩
    refine VRle.agg (by simp [Z0.one]) (VRle.same (VRle.same (VRle.same (VRle.cons VRle.full VRle.full))))
end Go.Abs

