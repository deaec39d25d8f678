/- Part F of a proof: merged by program. -/
import Derived.Test.YtgdpmebdoipiaaaPkE
import Derived.Test.YtgdpmebdoipiaaaProg
import Derived.KernelRfl
namespace Go.Abs
open Go
def Zob : List Z2a := [
  ⟨some 8, .mov, [.c (.slc 0 [] true)], none⟩,
  ⟨some 9, .mov, [.c (.int .i64 0)], none⟩]
def Zoc : List Z2a := [
  ⟨some 16, .mov, [.t 1], none⟩,
  ⟨some 17, (.call Zcw), [.t 16], none⟩,
  ⟨some 18, .unot, [.t 17], none⟩,
  ⟨some 15, .mov, [.t 18], none⟩]
def Zod : List Z2a := [
  ⟨some 8, .mov, [.c (.slc 0 [] true)], none⟩,
  ⟨some 9, .mov, [.c (.int .i64 7)], none⟩]
def Zoe : List Z2a := [
  ⟨some 20, .mov, [.t 2], none⟩,
  ⟨some 21, (.bin .lss), [.t 20, .c (.int .i64 1)], none⟩,
  ⟨some 22, .mov, [.t 21], none⟩,
  ⟨some 23, .mov, [.t 2], some (22, false)⟩,
  ⟨some 24, (.bin .gtr), [.t 23, .c (.int .i64 65536)], some (22, false)⟩,
  ⟨some 25, .pick, [.t 22, .c (.bool true), .t 24], none⟩,
  ⟨some 26, .mov, [.t 25], none⟩,
  ⟨some 27, .mov, [.t 3], some (26, false)⟩,
  ⟨some 28, (.bin .lss), [.t 27, .c (.int .i64 0)], some (26, false)⟩,
  ⟨some 29, .pick, [.t 26, .c (.bool true), .t 28], none⟩,
  ⟨some 30, .mov, [.t 29], none⟩,
  ⟨some 31, .mov, [.t 3], some (30, false)⟩,
  ⟨some 32, (.bin .gtr), [.t 31, .c (.int .i64 262144)], some (30, false)⟩,
  ⟨some 33, .pick, [.t 30, .c (.bool true), .t 32], none⟩,
  ⟨some 19, .mov, [.t 33], none⟩]
def Zof : List Z2a := [
  ⟨some 8, .mov, [.c (.slc 0 [] true)], none⟩,
  ⟨some 9, .mov, [.c (.int .i64 1)], none⟩]
def Zog : List Z2a := [
  ⟨some 35, .mov, [.t 1], none⟩,
  ⟨some 36, (.bin .eql), [.t 35, .c (.int .i64 0)], none⟩,
  ⟨some 37, .mov, [.t 36], none⟩,
  ⟨some 38, .mov, [.t 0], some (37, true)⟩,
  ⟨some 39, .lens, [.t 38], some (37, true)⟩,
  ⟨some 40, .mov, [.t 3], some (37, true)⟩,
  ⟨some 41, (.bin .gtr), [.t 39, .t 40], some (37, true)⟩,
  ⟨some 42, .pick, [.t 37, .t 41, .c (.bool false)], none⟩,
  ⟨some 34, .mov, [.t 42], none⟩]
def Zoh : List Z2a := [
  ⟨some 8, .mov, [.c (.slc 0 [] true)], none⟩,
  ⟨some 9, .mov, [.c (.int .i64 4)], none⟩]
def Zoi : List Z2a := [
  ⟨some 44, .mov, [.t 1], none⟩,
  ⟨some 45, (.bin .eql), [.t 44, .c (.int .i64 0)], none⟩,
  ⟨some 43, .mov, [.t 45], none⟩]
def Zoj : List Z2a := [
  ⟨some 46, .mov, [.t 0], none⟩,
  ⟨some 47, (.call Zcy), [.t 46], none⟩,
  ⟨some 48, (.call Zcx), [.t 47], none⟩,
  ⟨some 8, .mov, [.t 48], none⟩,
  ⟨some 9, .mov, [.c (.int .i64 0)], none⟩]
def Zok : List Z2a := [
  ⟨some 10, .mov, [.c (.slc 0 [] true)], none⟩]
def Zol : List Z2a := [
  ⟨some 11, .mov, [.c (.int .i64 0)], none⟩]
def Zom : List Z2a := [
  ⟨some 49, .mov, [.t 11], none⟩,
  ⟨some 50, .mov, [.t 0], none⟩,
  ⟨some 51, .lens, [.t 50], none⟩,
  ⟨some 52, (.bin .lss), [.t 49, .t 51], none⟩]
def Zon : List Z2a := [
  ⟨some 54, .mov, [.t 0], none⟩,
  ⟨some 55, .mov, [.t 11], none⟩,
  ⟨some 56, (.call Zcz), [.t 54, .t 55], none⟩,
  ⟨some 53, .mov, [.t 56], none⟩,
  ⟨some 57, (.ext 0), [.t 53], none⟩,
  ⟨some 58, (.ext 1), [.t 53], none⟩,
  ⟨some 59, (.ext 2), [.t 53], none⟩,
  ⟨some 12, .mov, [.t 57], none⟩,
  ⟨some 13, .mov, [.t 58], none⟩,
  ⟨some 14, .mov, [.t 59], none⟩]
def Zoo : List Z2a := [
  ⟨some 60, .mov, [.t 14], none⟩,
  ⟨some 61, (.bin .neq), [.t 60, .c (.int .i64 0)], none⟩]
def Zop : List Z2a := [
  ⟨some 62, .mov, [.t 14], none⟩,
  ⟨some 8, .mov, [.c (.slc 0 [] true)], none⟩,
  ⟨some 9, .mov, [.t 62], none⟩]
def Zoq : List Z2a := [
  ⟨some 63, .mov, [.t 11], none⟩,
  ⟨some 64, .mov, [.t 12], none⟩,
  ⟨some 65, .lens, [.t 64], none⟩,
  ⟨some 66, (.bin .add), [.c (.int .i64 3), .t 65], none⟩,
  ⟨some 67, (.bin .add), [.t 63, .t 66], none⟩,
  ⟨some 11, .mov, [.t 67], none⟩]
def Zor : List Z2a := [
  ⟨some 68, .mov, [.t 13], none⟩,
  ⟨some 69, .mov, [.t 68], none⟩,
  ⟨some 70, .mov, [.t 12], some (69, true)⟩,
  ⟨some 71, .lens, [.t 70], some (69, true)⟩,
  ⟨some 72, .mov, [.t 2], some (69, true)⟩,
  ⟨some 73, (.bin .gtr), [.t 71, .t 72], some (69, true)⟩,
  ⟨some 74, .pick, [.t 69, .t 73, .c (.bool false)], none⟩]
def Zos : List Z2a := [
  ⟨some 8, .mov, [.c (.slc 0 [] true)], none⟩,
  ⟨some 9, .mov, [.c (.int .i64 4)], none⟩]
def Zot : List Z2a := [
  ⟨some 75, .mov, [.t 13], none⟩,
  ⟨some 76, .unot, [.t 75], none⟩]
def Zou : List Z2a := [
  ⟨some 78, .mov, [.t 12], none⟩,
  ⟨some 79, .mov, [.t 2], none⟩,
  ⟨some 80, (.call Zd0), [.t 78, .t 79], none⟩,
  ⟨some 77, .mov, [.t 80], none⟩,
  ⟨some 81, (.ext 0), [.t 77], none⟩,
  ⟨some 82, (.ext 1), [.t 77], none⟩,
  ⟨some 12, .mov, [.t 81], none⟩,
  ⟨some 14, .mov, [.t 82], none⟩]
def Zov : List Z2a := [
  ⟨some 83, .mov, [.t 14], none⟩,
  ⟨some 84, (.bin .neq), [.t 83, .c (.int .i64 0)], none⟩]
def Zow : List Z2a := [
  ⟨some 85, .mov, [.t 14], none⟩,
  ⟨some 8, .mov, [.c (.slc 0 [] true)], none⟩,
  ⟨some 9, .mov, [.t 85], none⟩]
def Zox : List Z2a := [
  ⟨some 86, .mov, [.t 12], none⟩,
  ⟨some 87, .lens, [.t 86], none⟩,
  ⟨some 88, .mov, [.t 3], none⟩,
  ⟨some 89, .mov, [.t 10], none⟩,
  ⟨some 90, .lens, [.t 89], none⟩,
  ⟨some 91, (.bin .sub), [.t 88, .t 90], none⟩,
  ⟨some 92, (.bin .gtr), [.t 87, .t 91], none⟩]
def Zoy : List Z2a := [
  ⟨some 8, .mov, [.c (.slc 0 [] true)], none⟩,
  ⟨some 9, .mov, [.c (.int .i64 4)], none⟩]
def Zoz : List Z2a := [
  ⟨some 93, .mov, [.t 10], none⟩,
  ⟨some 94, .mov, [.t 12], none⟩,
  ⟨some 95, (.app 1 1), [.t 93, .t 94], none⟩,
  ⟨some 10, .mov, [.t 95], none⟩]
def Zp0 : Z2b := (.seq (.seq (.region Zom [0, 2, 3, 10, 11, 52]) (.cond (.t 52) .skip (.exit 1))) (.block 2 (.seq (.region Zon [0, 2, 3, 10, 11, 12, 13, 14]) (.seq (.seq (.region Zoo [0, 2, 3, 10, 11, 12, 13, 14, 61]) (.cond (.t 61) (.seq (.region Zop [8, 9]) .ret) .skip)) (.seq (.region Zoq [0, 2, 3, 10, 11, 12, 13]) (.seq (.seq (.region Zor [0, 2, 3, 10, 11, 12, 13, 74]) (.cond (.t 74) (.seq (.region Zos [8, 9]) .ret) .skip)) (.seq (.seq (.region Zot [0, 2, 3, 10, 11, 12, 76]) (.cond (.t 76) (.seq (.region Zou [0, 2, 3, 10, 11, 12, 14]) (.seq (.region Zov [0, 2, 3, 10, 11, 12, 14, 84]) (.cond (.t 84) (.seq (.region Zow [8, 9]) .ret) .skip))) .skip)) (.seq (.seq (.region Zox [0, 2, 3, 10, 11, 12, 92]) (.cond (.t 92) (.seq (.region Zoy [8, 9]) .ret) .skip)) (.region Zoz [0, 2, 3, 10, 11])))))))))
def Zp1 : List Z2a := [
  ⟨some 96, .mov, [.t 10], none⟩,
  ⟨some 97, (.call Zcx), [.t 96], none⟩,
  ⟨some 8, .mov, [.t 97], none⟩,
  ⟨some 9, .mov, [.c (.int .i64 0)], none⟩]
def Zp2 : Z2y := ⟨98, (.seq (.region Zob [0, 1, 2, 3]) (.seq (.block 0 (.seq (.region Zoc [0, 1, 2, 3, 15]) (.cond (.t 15) (.seq (.region Zod [8, 9]) .ret) (.seq (.region Zoe [0, 1, 2, 3, 19]) (.cond (.t 19) (.seq (.region Zof [8, 9]) .ret) (.seq (.region Zog [0, 1, 2, 3, 34]) (.cond (.t 34) (.seq (.region Zoh [8, 9]) .ret) (.seq (.region Zoi [0, 2, 3, 43]) (.cond (.t 43) (.seq (.region Zoj [8, 9]) .ret) .skip))))))))) (.seq (.region Zok [0, 2, 3, 10]) (.seq (.seq (.region Zol [0, 2, 3, 10, 11]) (.block 1 (.loop Zp0))) (.seq (.region Zp1 [8, 9]) .ret))))), [.t 8, .t 9]⟩
def Zp3 : List Z2a := [
  ⟨some 8, .mov, [.c (.slc 0 [] true)], none⟩,
  ⟨some 9, .mov, [.c (.int .i64 0)], none⟩]
def Zp4 : List Z2a := [
  ⟨some 18, .mov, [.t 1], none⟩,
  ⟨some 19, (.bin .neq), [.t 18, .c (.int .i64 0)], none⟩,
  ⟨some 20, .mov, [.t 19], none⟩,
  ⟨some 21, .mov, [.t 1], some (20, true)⟩,
  ⟨some 22, (.bin .neq), [.t 21, .c (.int .i64 4)], some (20, true)⟩,
  ⟨some 23, .pick, [.t 20, .t 22, .c (.bool false)], none⟩]
def Zp5 : List Z2a := [
  ⟨some 8, .mov, [.c (.slc 0 [] true)], none⟩,
  ⟨some 9, .mov, [.c (.int .i64 7)], none⟩]
def Zp6 : List Z2a := [
  ⟨some 24, .mov, [.t 2], none⟩,
  ⟨some 25, (.bin .lss), [.t 24, .c (.int .i64 1)], none⟩,
  ⟨some 26, .mov, [.t 25], none⟩,
  ⟨some 27, .mov, [.t 2], some (26, false)⟩,
  ⟨some 28, (.bin .gtr), [.t 27, .c (.int .i64 65536)], some (26, false)⟩,
  ⟨some 29, .pick, [.t 26, .c (.bool true), .t 28], none⟩,
  ⟨some 30, .mov, [.t 29], none⟩,
  ⟨some 31, .mov, [.t 3], some (30, false)⟩,
  ⟨some 32, (.bin .lss), [.t 31, .c (.int .i64 0)], some (30, false)⟩,
  ⟨some 33, .pick, [.t 30, .c (.bool true), .t 32], none⟩,
  ⟨some 34, .mov, [.t 33], none⟩,
  ⟨some 35, .mov, [.t 3], some (34, false)⟩,
  ⟨some 36, (.bin .gtr), [.t 35, .c (.int .i64 262144)], some (34, false)⟩,
  ⟨some 37, .pick, [.t 34, .c (.bool true), .t 36], none⟩]
def Zp7 : List Z2a := [
  ⟨some 8, .mov, [.c (.slc 0 [] true)], none⟩,
  ⟨some 9, .mov, [.c (.int .i64 1)], none⟩]
def Zp8 : List Z2a := [
  ⟨some 38, .mov, [.t 1], none⟩,
  ⟨some 39, (.bin .eql), [.t 38, .c (.int .i64 0)], none⟩]
def Zp9 : List Z2a := [
  ⟨some 40, .mov, [.t 0], none⟩,
  ⟨some 41, .lens, [.t 40], none⟩,
  ⟨some 42, .mov, [.t 3], none⟩,
  ⟨some 43, (.bin .gtr), [.t 41, .t 42], none⟩]
def Zpa : List Z2a := [
  ⟨some 8, .mov, [.c (.slc 0 [] true)], none⟩,
  ⟨some 9, .mov, [.c (.int .i64 4)], none⟩]
def Zpb : List Z2a := [
  ⟨some 44, (.bsl 1), [], none⟩,
  ⟨some 45, .mov, [.t 0], none⟩,
  ⟨some 46, (.app 1 1), [.t 44, .t 45], none⟩,
  ⟨some 8, .mov, [.t 46], none⟩,
  ⟨some 9, .mov, [.c (.int .i64 0)], none⟩]
def Zpc : List Z2a := [
  ⟨some 10, .mov, [.c (.slc 0 [] true)], none⟩]
def Zpd : List Z2a := [
  ⟨some 11, .mov, [.c (.int .i64 0)], none⟩]
def Zpe : List Z2a := [
  ⟨some 47, .mov, [.t 11], none⟩,
  ⟨some 48, .mov, [.t 0], none⟩,
  ⟨some 49, .lens, [.t 48], none⟩,
  ⟨some 50, (.bin .lss), [.t 47, .t 49], none⟩]
def Zpf : List Z2a := [
  ⟨some 52, .mov, [.t 0], none⟩,
  ⟨some 53, .mov, [.t 11], none⟩,
  ⟨some 54, (.call Zcq), [.t 52, .t 53], none⟩,
  ⟨some 51, .mov, [.t 54], none⟩,
  ⟨some 55, (.ext 0), [.t 51], none⟩,
  ⟨some 56, (.ext 1), [.t 51], none⟩,
  ⟨some 57, (.ext 2), [.t 51], none⟩,
  ⟨some 12, .mov, [.t 55], none⟩,
  ⟨some 13, .mov, [.t 56], none⟩,
  ⟨some 14, .mov, [.t 57], none⟩]
def Zpg : List Z2a := [
  ⟨some 58, .mov, [.t 14], none⟩,
  ⟨some 59, (.bin .neq), [.t 58, .c (.int .i64 0)], none⟩]
def Zph : List Z2a := [
  ⟨some 60, .mov, [.t 14], none⟩,
  ⟨some 8, .mov, [.c (.slc 0 [] true)], none⟩,
  ⟨some 9, .mov, [.t 60], none⟩]
def Zpi : List Z2a := [
  ⟨some 61, .mov, [.t 11], none⟩,
  ⟨some 62, (.bin .add), [.t 61, .c (.int .i64 3)], none⟩,
  ⟨some 11, .mov, [.t 62], none⟩]
def Zpj : List Z2a := [
  ⟨some 63, .mov, [.t 12], none⟩,
  ⟨some 64, .mov, [.t 0], none⟩,
  ⟨some 65, .lens, [.t 64], none⟩,
  ⟨some 66, .mov, [.t 11], none⟩,
  ⟨some 67, (.bin .sub), [.t 65, .t 66], none⟩,
  ⟨some 68, (.bin .gtr), [.t 63, .t 67], none⟩]
def Zpk : List Z2a := [
  ⟨some 8, .mov, [.c (.slc 0 [] true)], none⟩,
  ⟨some 9, .mov, [.c (.int .i64 3)], none⟩]
def Zpl : List Z2a := [
  ⟨some 69, .mov, [.t 0], none⟩,
  ⟨some 70, .mov, [.t 11], none⟩,
  ⟨some 71, .mov, [.t 11], none⟩,
  ⟨some 72, .mov, [.t 12], none⟩,
  ⟨some 73, (.bin .add), [.t 71, .t 72], none⟩,
  ⟨some 74, (.slc 1 true true false), [.t 69, .t 70, .t 73], none⟩,
  ⟨some 15, .mov, [.t 74], none⟩]
def Zpm : List Z2a := [
  ⟨some 75, .mov, [.t 13], none⟩,
  ⟨some 76, .mov, [.t 75], none⟩,
  ⟨some 77, .mov, [.t 12], some (76, true)⟩,
  ⟨some 78, .mov, [.t 2], some (76, true)⟩,
  ⟨some 79, (.bin .gtr), [.t 77, .t 78], some (76, true)⟩,
  ⟨some 80, .pick, [.t 76, .t 79, .c (.bool false)], none⟩]
def Zpn : List Z2a := [
  ⟨some 8, .mov, [.c (.slc 0 [] true)], none⟩,
  ⟨some 9, .mov, [.c (.int .i64 4)], none⟩]
def Zpo : List Z2a := [
  ⟨some 81, .mov, [.t 13], none⟩,
  ⟨some 82, .unot, [.t 81], none⟩]
def Zpp : List Z2a := [
  ⟨some 84, .mov, [.t 15], none⟩,
  ⟨some 85, .mov, [.t 2], none⟩,
  ⟨some 86, (.call Zd1), [.t 84, .t 85], none⟩,
  ⟨some 83, .mov, [.t 86], none⟩,
  ⟨some 87, (.ext 0), [.t 83], none⟩,
  ⟨some 88, (.ext 1), [.t 83], none⟩,
  ⟨some 16, .mov, [.t 87], none⟩,
  ⟨some 17, .mov, [.t 88], none⟩]
def Zpq : List Z2a := [
  ⟨some 89, .mov, [.t 17], none⟩,
  ⟨some 90, (.bin .neq), [.t 89, .c (.int .i64 0)], none⟩]
def Zpr : List Z2a := [
  ⟨some 91, .mov, [.t 17], none⟩,
  ⟨some 8, .mov, [.c (.slc 0 [] true)], none⟩,
  ⟨some 9, .mov, [.t 91], none⟩]
def Zps : List Z2a := [
  ⟨some 92, .mov, [.t 16], none⟩,
  ⟨some 15, .mov, [.t 92], none⟩]
def Zpt : List Z2a := [
  ⟨some 93, .mov, [.t 15], none⟩,
  ⟨some 94, .lens, [.t 93], none⟩,
  ⟨some 95, .mov, [.t 3], none⟩,
  ⟨some 96, .mov, [.t 10], none⟩,
  ⟨some 97, .lens, [.t 96], none⟩,
  ⟨some 98, (.bin .sub), [.t 95, .t 97], none⟩,
  ⟨some 99, (.bin .gtr), [.t 94, .t 98], none⟩]
def Zpu : List Z2a := [
  ⟨some 8, .mov, [.c (.slc 0 [] true)], none⟩,
  ⟨some 9, .mov, [.c (.int .i64 4)], none⟩]
def Zpv : List Z2a := [
  ⟨some 100, .mov, [.t 10], none⟩,
  ⟨some 101, .mov, [.t 15], none⟩,
  ⟨some 102, (.app 1 1), [.t 100, .t 101], none⟩,
  ⟨some 10, .mov, [.t 102], none⟩]
def Zpw : List Z2a := [
  ⟨some 103, .mov, [.t 11], none⟩,
  ⟨some 104, .mov, [.t 12], none⟩,
  ⟨some 105, (.bin .add), [.t 103, .t 104], none⟩,
  ⟨some 11, .mov, [.t 105], none⟩]
def Zpx : Z2b := (.seq (.seq (.region Zpe [0, 2, 3, 10, 11, 50]) (.cond (.t 50) .skip (.exit 0))) (.block 1 (.seq (.region Zpf [0, 2, 3, 10, 11, 12, 13, 14]) (.seq (.seq (.region Zpg [0, 2, 3, 10, 11, 12, 13, 14, 59]) (.cond (.t 59) (.seq (.region Zph [8, 9]) .ret) .skip)) (.seq (.region Zpi [0, 2, 3, 10, 11, 12, 13]) (.seq (.seq (.region Zpj [0, 2, 3, 10, 11, 12, 13, 68]) (.cond (.t 68) (.seq (.region Zpk [8, 9]) .ret) .skip)) (.seq (.region Zpl [0, 2, 3, 10, 11, 12, 13, 15]) (.seq (.seq (.region Zpm [0, 2, 3, 10, 11, 12, 13, 15, 80]) (.cond (.t 80) (.seq (.region Zpn [8, 9]) .ret) .skip)) (.seq (.seq (.region Zpo [0, 2, 3, 10, 11, 12, 15, 82]) (.cond (.t 82) (.seq (.region Zpp [0, 2, 3, 10, 11, 12, 16, 17]) (.seq (.seq (.region Zpq [0, 2, 3, 10, 11, 12, 16, 17, 90]) (.cond (.t 90) (.seq (.region Zpr [8, 9]) .ret) .skip)) (.region Zps [0, 2, 3, 10, 11, 12, 15]))) .skip)) (.seq (.seq (.region Zpt [0, 2, 3, 10, 11, 12, 15, 99]) (.cond (.t 99) (.seq (.region Zpu [8, 9]) .ret) .skip)) (.seq (.region Zpv [0, 2, 3, 10, 11, 12]) (.region Zpw [0, 2, 3, 10, 11]))))))))))))
def Zpy : List Z2a := [
  ⟨some 106, .mov, [.t 10], none⟩,
  ⟨some 8, .mov, [.t 106], none⟩,
  ⟨some 9, .mov, [.c (.int .i64 0)], none⟩]
def Zpz : Z2y := ⟨107, (.seq (.region Zp3 [0, 1, 2, 3]) (.seq (.seq (.region Zp4 [0, 1, 2, 3, 23]) (.cond (.t 23) (.seq (.region Zp5 [8, 9]) .ret) .skip)) (.seq (.seq (.region Zp6 [0, 1, 2, 3, 37]) (.cond (.t 37) (.seq (.region Zp7 [8, 9]) .ret) .skip)) (.seq (.seq (.region Zp8 [0, 2, 3, 39]) (.cond (.t 39) (.seq (.seq (.region Zp9 [0, 43]) (.cond (.t 43) (.seq (.region Zpa [8, 9]) .ret) .skip)) (.seq (.region Zpb [8, 9]) .ret)) .skip)) (.seq (.region Zpc [0, 2, 3, 10]) (.seq (.region Zpd [0, 2, 3, 10, 11]) (.seq (.block 0 (.loop Zpx)) (.seq (.region Zpy [8, 9]) .ret)))))))), [.t 8, .t 9]⟩
def Zq0 : List Z2a := [
  ⟨some 4, .mov, [.c (.int .i64 0)], none⟩,
  ⟨some 5, .mov, [.c (.int .i64 0)], none⟩]
def Zq1 : List Z2a := [
  ⟨some 11, .mov, [.t 1], none⟩,
  ⟨some 12, (.call Zcw), [.t 11], none⟩,
  ⟨some 13, .unot, [.t 12], none⟩]
def Zq2 : List Z2a := [
  ⟨some 4, .mov, [.c (.int .i64 0)], none⟩,
  ⟨some 5, .mov, [.c (.int .i64 7)], none⟩]
def Zq3 : List Z2a := [
  ⟨some 14, .mov, [.t 1], none⟩,
  ⟨some 15, (.bin .eql), [.t 14, .c (.int .i64 0)], none⟩]
def Zq4 : List Z2a := [
  ⟨some 4, .mov, [.c (.int .i64 0)], none⟩,
  ⟨some 5, .mov, [.c (.int .i64 0)], none⟩]
def Zq5 : List Z2a := [
  ⟨some 6, .mov, [.c (.int .i64 0)], none⟩]
def Zq6 : List Z2a := [
  ⟨some 7, .mov, [.c (.int .i64 0)], none⟩]
def Zq7 : List Z2a := [
  ⟨some 16, .mov, [.t 7], none⟩,
  ⟨some 17, .mov, [.t 0], none⟩,
  ⟨some 18, .lens, [.t 17], none⟩,
  ⟨some 19, (.bin .lss), [.t 16, .t 18], none⟩]
def Zq8 : List Z2a := [
  ⟨some 23, .mov, [.t 0], none⟩,
  ⟨some 24, .mov, [.t 7], none⟩,
  ⟨some 25, (.call Zcz), [.t 23, .t 24], none⟩,
  ⟨some 22, .mov, [.t 25], none⟩,
  ⟨some 26, (.ext 0), [.t 22], none⟩,
  ⟨some 27, (.ext 1), [.t 22], none⟩,
  ⟨some 28, (.ext 2), [.t 22], none⟩,
  ⟨some 8, .mov, [.t 26], none⟩,
  ⟨some 9, .mov, [.t 27], none⟩,
  ⟨some 10, .mov, [.t 28], none⟩]
def Zq9 : List Z2a := [
  ⟨some 29, .mov, [.t 10], none⟩,
  ⟨some 30, (.bin .neq), [.t 29, .c (.int .i64 0)], none⟩]
def Zqa : List Z2a := [
  ⟨some 31, .mov, [.t 10], none⟩,
  ⟨some 4, .mov, [.c (.int .i64 0)], none⟩,
  ⟨some 5, .mov, [.t 31], none⟩]
def Zqb : List Z2a := [
  ⟨some 32, .mov, [.t 7], none⟩,
  ⟨some 33, .mov, [.t 8], none⟩,
  ⟨some 34, .lens, [.t 33], none⟩,
  ⟨some 35, (.bin .add), [.c (.int .i64 3), .t 34], none⟩,
  ⟨some 36, (.bin .add), [.t 32, .t 35], none⟩,
  ⟨some 7, .mov, [.t 36], none⟩]
def Zqc : List Z2a := [
  ⟨some 20, .mov, [.t 6], none⟩,
  ⟨some 21, (.bin .add), [.t 20, .c (.int .i64 1)], none⟩,
  ⟨some 6, .mov, [.t 21], none⟩]
def Zqd : Z2b := (.seq (.seq (.region Zq7 [0, 6, 7, 19]) (.cond (.t 19) .skip (.exit 0))) (.seq (.block 1 (.seq (.region Zq8 [0, 6, 7, 8, 10]) (.seq (.seq (.region Zq9 [0, 6, 7, 8, 10, 30]) (.cond (.t 30) (.seq (.region Zqa [4, 5]) .ret) .skip)) (.region Zqb [0, 6, 7])))) (.region Zqc [0, 6, 7])))
def Zqe : List Z2a := [
  ⟨some 37, .mov, [.t 6], none⟩,
  ⟨some 4, .mov, [.t 37], none⟩,
  ⟨some 5, .mov, [.c (.int .i64 0)], none⟩]
def Zqf : Z2y := ⟨38, (.seq (.region Zq0 [0, 1]) (.seq (.seq (.region Zq1 [0, 1, 13]) (.cond (.t 13) (.seq (.region Zq2 [4, 5]) .ret) .skip)) (.seq (.seq (.region Zq3 [0, 15]) (.cond (.t 15) (.seq (.region Zq4 [4, 5]) .ret) .skip)) (.seq (.region Zq5 [0, 6]) (.seq (.seq (.region Zq6 [0, 6, 7]) (.block 0 (.loop Zqd))) (.seq (.region Zqe [4, 5]) .ret)))))), [.t 4, .t 5]⟩
def Zqg : List Z2a := [
  ⟨some 4, .mov, [.c (.int .i64 0)], none⟩,
  ⟨some 5, .mov, [.c (.int .i64 0)], none⟩]
def Zqh : List Z2a := [
  ⟨some 11, .mov, [.t 1], none⟩,
  ⟨some 12, (.bin .neq), [.t 11, .c (.int .i64 0)], none⟩,
  ⟨some 13, .mov, [.t 12], none⟩,
  ⟨some 14, .mov, [.t 1], some (13, true)⟩,
  ⟨some 15, (.bin .neq), [.t 14, .c (.int .i64 4)], some (13, true)⟩,
  ⟨some 16, .pick, [.t 13, .t 15, .c (.bool false)], none⟩]
def Zqi : List Z2a := [
  ⟨some 4, .mov, [.c (.int .i64 0)], none⟩,
  ⟨some 5, .mov, [.c (.int .i64 7)], none⟩]
def Zqj : List Z2a := [
  ⟨some 6, .mov, [.c (.int .i64 0)], none⟩]
def Zqk : List Z2a := [
  ⟨some 7, .mov, [.c (.int .i64 0)], none⟩]
def Zql : List Z2a := [
  ⟨some 17, .mov, [.t 1], none⟩,
  ⟨some 18, (.bin .eql), [.t 17, .c (.int .i64 4)], none⟩,
  ⟨some 19, .mov, [.t 18], none⟩,
  ⟨some 20, .mov, [.t 7], some (19, true)⟩,
  ⟨some 21, .mov, [.t 0], some (19, true)⟩,
  ⟨some 22, .lens, [.t 21], some (19, true)⟩,
  ⟨some 23, (.bin .lss), [.t 20, .t 22], some (19, true)⟩,
  ⟨some 24, .pick, [.t 19, .t 23, .c (.bool false)], none⟩]
def Zqm : List Z2a := [
  ⟨some 26, .mov, [.t 0], none⟩,
  ⟨some 27, .mov, [.t 7], none⟩,
  ⟨some 28, (.call Zcq), [.t 26, .t 27], none⟩,
  ⟨some 25, .mov, [.t 28], none⟩,
  ⟨some 29, (.ext 0), [.t 25], none⟩,
  ⟨some 30, (.ext 1), [.t 25], none⟩,
  ⟨some 31, (.ext 2), [.t 25], none⟩,
  ⟨some 8, .mov, [.t 29], none⟩,
  ⟨some 9, .mov, [.t 30], none⟩,
  ⟨some 10, .mov, [.t 31], none⟩]
def Zqn : List Z2a := [
  ⟨some 32, .mov, [.t 10], none⟩,
  ⟨some 33, (.bin .neq), [.t 32, .c (.int .i64 0)], none⟩]
def Zqo : List Z2a := [
  ⟨some 34, .mov, [.t 10], none⟩,
  ⟨some 4, .mov, [.c (.int .i64 0)], none⟩,
  ⟨some 5, .mov, [.t 34], none⟩]
def Zqp : List Z2a := [
  ⟨some 35, .mov, [.t 7], none⟩,
  ⟨some 36, (.bin .add), [.t 35, .c (.int .i64 3)], none⟩,
  ⟨some 7, .mov, [.t 36], none⟩]
def Zqq : List Z2a := [
  ⟨some 37, .mov, [.t 8], none⟩,
  ⟨some 38, .mov, [.t 0], none⟩,
  ⟨some 39, .lens, [.t 38], none⟩,
  ⟨some 40, .mov, [.t 7], none⟩,
  ⟨some 41, (.bin .sub), [.t 39, .t 40], none⟩,
  ⟨some 42, (.bin .gtr), [.t 37, .t 41], none⟩]
def Zqr : List Z2a := [
  ⟨some 4, .mov, [.c (.int .i64 0)], none⟩,
  ⟨some 5, .mov, [.c (.int .i64 3)], none⟩]
def Zqs : List Z2a := [
  ⟨some 43, .mov, [.t 7], none⟩,
  ⟨some 44, .mov, [.t 8], none⟩,
  ⟨some 45, (.bin .add), [.t 43, .t 44], none⟩,
  ⟨some 7, .mov, [.t 45], none⟩]
def Zqt : List Z2a := [
  ⟨some 46, .mov, [.t 6], none⟩,
  ⟨some 47, (.bin .add), [.t 46, .c (.int .i64 1)], none⟩,
  ⟨some 6, .mov, [.t 47], none⟩]
def Zqu : Z2b := (.seq (.seq (.region Zql [0, 1, 6, 7, 24]) (.cond (.t 24) .skip (.exit 0))) (.block 1 (.seq (.region Zqm [0, 1, 6, 7, 8, 10]) (.seq (.seq (.region Zqn [0, 1, 6, 7, 8, 10, 33]) (.cond (.t 33) (.seq (.region Zqo [4, 5]) .ret) .skip)) (.seq (.region Zqp [0, 1, 6, 7, 8]) (.seq (.seq (.region Zqq [0, 1, 6, 7, 8, 42]) (.cond (.t 42) (.seq (.region Zqr [4, 5]) .ret) .skip)) (.seq (.region Zqs [0, 1, 6, 7]) (.region Zqt [0, 1, 6, 7]))))))))
def Zqv : List Z2a := [
  ⟨some 48, .mov, [.t 6], none⟩,
  ⟨some 4, .mov, [.t 48], none⟩,
  ⟨some 5, .mov, [.c (.int .i64 0)], none⟩]
def Zqw : Z2y := ⟨49, (.seq (.region Zqg [0, 1]) (.seq (.seq (.region Zqh [0, 1, 16]) (.cond (.t 16) (.seq (.region Zqi [4, 5]) .ret) .skip)) (.seq (.region Zqj [0, 1, 6]) (.seq (.region Zqk [0, 1, 6, 7]) (.seq (.block 0 (.loop Zqu)) (.seq (.region Zqv [4, 5]) .ret)))))), [.t 4, .t 5]⟩
end Go.Abs
namespace Go.Abs
open Go Go.Proofs
theorem Zqx : Z2z Try.prog [] Zcl = some Zp2.erase := by kernel_rfl
theorem Zqy : Z2z Try.prog [] Zcm = some Zpz.erase := by kernel_rfl
theorem Zqz : Z2z Try.prog [] Zcn = some Zqf.erase := by kernel_rfl
theorem Zr0 : Z2z Try.prog [] Zco = some Zqw.erase := by kernel_rfl
end Go.Abs
namespace Go.Abs
open Go Go.Proofs Go.Abs.Lz
set_option linter.unusedVariables false
set_option linter.unusedSimpArgs false
def decF (b : List UInt8) (codec size most : Int) : Nat × List UInt8 :=
  if ¬ (codec = 0 ∨ codec = 4) then (7, []) else
  if size < 1 ∨ 65536 < size ∨ most < 0 ∨ 262144 < most then (1, []) else
  if codec = 0 then (if most < b.length then (4, []) else (0, b)) else dec size.toNat most.toNat b []
def cntF (b : List UInt8) (codec : Int) : Nat × Nat :=
  if ¬ (codec = 0 ∨ codec = 4) then (0, 7) else if codec = 0 then (0, 0) else cntC b 0
def tupV (x : Nat × List UInt8) : Z0 := .tup [.slc 1 (bytes x.2) true, .int .i64 x.1]
theorem Zr1 (e : Nat) : VRle [.tup [.slc 0 [] true, .int .i64 e]] [tupV (e, [])] := VRle.tup (VRle.cons (VRle.nil_slc 0 1 true) (VRle.refl _))
theorem Zr2 {s m : Nat} {l o : List UInt8} (hl : l ≠ []) (h : Bad l) : dec s m l o = (3, []) := by
  rcases h with h | ⟨n, o', q, h, hn⟩
  · exact Zn1 hl h
  · rw [Zn0 h, if_pos hn]
theorem Zr3 {l : List UInt8} {c : Nat} (hl : l ≠ []) (h : Bad l) : cntC l c = (0, 3) := by
  rcases h with h | ⟨n, o', q, h, hn⟩
  · exact Zn3 hl h
  · rw [Zn2 h, if_pos hn]
theorem Zr4 (l : List UInt8) : Bad l ∨ ∃ n o q, rdH l = some (n, o, q) ∧ n ≤ q.length := by
  cases h : rdH l with
  | none => exact .inl (.inl h)
  | some x =>
    obtain ⟨n, o, q⟩ := x
    by_cases h2 : q.length < n
    · exact .inl (.inr ⟨n, o, q, h, h2⟩)
    · exact .inr ⟨n, o, q, rfl, by omega⟩
def dInv (bs : List UInt8) (f : Bool) (s m : Nat) (σ : Zc) (k : Nat) (F : Z26) (σ' : Zc) : Prop :=
  ∃ (i : Nat) (o : List UInt8) (v : Z0) (β : Zc), F = fset 0 (some (.slc 1 (bytes bs) f)) (fset 2 (some (.int .i64 s)) (fset 3 (some (.int .i64 m)) (fset 10 (some v) (fset 11 (some (.int .i64 i)) Z27)))) ∧ σ' = β ++ σ ∧ Grow v o β ∧ i ≤ bs.length ∧ o.length ≤ m ∧ k = (bs.drop i).length ∧ dec s m (bs.drop i) o = dec s m bs []
theorem Zr5 {most : Nat} : ∀ (n : Nat) (l o : List UInt8), l.length = n → (unpF most l o).2.length ≤ most := by
  intro n
  induction n using Nat.strongRecOn with
  | _ n ih =>
    intro l o hl
    cases hx : seqF most l o with
    | err e => rw [Zfa hx]; simp
    | last o' => rw [Zfb hx]; exact Zff hx
    | go r o' => rw [Zfc hx]; exact ih r.length (by have := Zf9 hx; omega) r o' rfl
theorem Zr6 {s : Nat} {l : List UInt8} : (Zfd s l).2.length ≤ 1048576 := by
  unfold Zfd
  split
  · simp
  · rename_i h
    have := Zr5 (most := (s : Int).toNat) _ l [] rfl
    omega
theorem Zr7 {bs : List UInt8} {f : Bool} {s m : Nat} {σ : Zc} {k i : Nat} {o xs : List UInt8} {v : Z0} {β : Zc} {g : Bool} (hm : m ≤ 262144) (ho : Grow v o β) (hi : i ≤ bs.length) (hom : o.length ≤ m) (hx : xs.length ≤ 140737488000000) (hk : (bs.drop i).length < k)
    (hd : (if m < o.length + xs.length then (4, []) else dec s m (bs.drop i) (o ++ xs)) = dec s m bs []) :
    AWp Try.prog Zp2.n (.seq (.seq (.region Zox [0, 2, 3, 10, 11, 12, 92]) (.cond (.t 92) (.seq (.region Zoy [8, 9]) .ret) .skip)) (.region Zoz [0, 2, 3, 10, 11])) (Z8g 2 (Za9 (dInv bs f s m σ) k (Z8g 1 (Z8e Try.prog Zp2.n (.seq (.region Zp1 [8, 9]) .ret) (ARet Zp2.res fun r σ' => r = tupV (dec s m bs []) ∧ σ' = σ)))))
      (fset 0 (some (.slc 1 (bytes bs) f)) (fset 2 (some (.int .i64 s)) (fset 3 (some (.int .i64 m)) (fset 10 (some v) (fset 11 (some (.int .i64 i)) (fset 12 (some (.slc 1 (bytes xs) g)) Z27)))))) (β ++ σ) := by
  have e1 : IntKind.wrap .i64 ((m : Int) - (o.length : Int)) = ((m - o.length : Nat) : Int) := by rw [w64 _ (by omega) (by omega)]; omega
  refine Za5 ?_
  refine Zad ?_
  (repeat (refine st_q rfl rfl rfl ?_))
  rw [Zam]
  refine Zas rfl ho.lens ?_
  refine st_q rfl rfl rfl ?_
  rw [e1]
  (repeat (refine st_q rfl rfl rfl ?_))
  (refine Z8y ?_; (repeat (first | refine Z9v rfl ?_ | refine Z9w ?_)); refine Z9u ?_)
  refine Za3 (p := (xs.length : Int) > ((m - o.length : Nat) : Int)) rfl (fun h => ?_) (fun h => ?_)
  · refine Z9z ?_
    (repeat (refine st_q rfl rfl rfl ?_))
    (refine Z8y ?_; (repeat (first | refine Z9v rfl ?_ | refine Z9w ?_)); refine Z9u ?_)
    refine Z8d ?_
    rw [if_pos (by omega)] at hd
    rw [← hd]
    exact Zau rfl (Zr1 4) (HSub.of_sublist (List.sublist_append_right _ _)) ⟨rfl, rfl⟩
  · refine Za4 ?_
    rw [if_neg (by omega)] at hd
    refine awp_region ?_
    refine st_q rfl rfl rfl ?_
    refine st_q rfl rfl rfl ?_
    refine Zat ho (ys := xs) rfl rfl (by omega) fun b hbk => ?_
    (repeat (refine st_q rfl rfl rfl ?_))
    refine Z8y ?_
    refine Zac (keep := [0, 2, 3, 10, 11]) ?_
    ((repeat (first | refine Z9v rfl ?_ | refine Z9w ?_)); refine Z9u ?_)
    exact ⟨_, _, HSub.refl _, ⟨i, o ++ xs, _, [(b, .cells 1 (bytes (o ++ xs)))], rfl, rfl, .inr ⟨b, rfl, rfl⟩, hi, by rw [List.length_append]; omega, rfl, hd⟩, hk⟩
theorem Zr8 {σ : Zc} {bs : List UInt8} {f : Bool} {codec size most : Int} (hb : bs.length ≤ 140737488000000) :
    Z1q Try.prog Zcl [.slc 1 (bytes bs) f, .int .i64 codec, .int .i64 size, .int .i64 most] σ fun r σ' => r = tupV (decF bs codec size most) ∧ σ' = σ := by
  refine Z8t rfl Zqx (Nat.le_of_ble_eq_true rfl) ?_
  refine Z9z ?_
  (repeat (refine st_q rfl rfl rfl ?_))
  (refine Z8y ?_; (repeat (first | refine Z9v rfl ?_ | refine Z9w ?_)); refine Z9u ?_)
  refine Za6 ?_
  refine Z9z ?_
  refine st_q rfl rfl rfl ?_
  refine Z9t rfl (Znv codec) ?_
  by_cases hc : codec = 0 ∨ codec = 4
  case neg =>
    rw [decide_eq_false hc, decF, if_pos hc]
    (repeat (refine st_q rfl rfl rfl ?_))
    (refine Z8y ?_; (repeat (first | refine Z9v rfl ?_ | refine Z9w ?_)); refine Z9u ?_)
    refine Z8f (t := true) rfl (fun _ => ?_) (fun e => by cases e)
    refine Z9z ?_
    (repeat (refine st_q rfl rfl rfl ?_))
    (refine Z8y ?_; (repeat (first | refine Z9v rfl ?_ | refine Z9w ?_)); refine Z9u ?_)
    refine Z8d ?_
    exact Zau rfl (Zr1 7) (HSub.refl _) ⟨rfl, rfl⟩
  rw [decide_eq_true hc]
  (repeat (refine st_q rfl rfl rfl ?_))
  (refine Z8y ?_; (repeat (first | refine Z9v rfl ?_ | refine Z9w ?_)); refine Z9u ?_)
  refine Z8f (t := false) rfl (fun e => by cases e) (fun _ => ?_)
  refine Z9z ?_
  by_cases hs : size < 1 ∨ 65536 < size ∨ most < 0 ∨ 262144 < most
  · rw [decF, if_neg (fun hh => hh hc), if_pos hs]
    have hcode : ∀ F, AWp Try.prog Zp2.n (.seq (.region Zof [8, 9]) .ret) (Z8g 0 (Z8e Try.prog Zp2.n (Zp2.code.snd 2) (ARet Zp2.res fun r σ' => r = tupV (1, []) ∧ σ' = σ))) F σ := fun F => by
      refine Z9z ?_
      (repeat (refine st_q rfl rfl rfl ?_))
      (refine Z8y ?_; (repeat (first | refine Z9v rfl ?_ | refine Z9w ?_)); refine Z9u ?_)
      refine Z8d ?_
      exact Zau rfl (Zr1 1) (HSub.refl _) ⟨rfl, rfl⟩
    (repeat (first | refine st_q rfl rfl rfl ?_ | refine Z8v rfl (st_q rfl rfl rfl ?_) | refine Z8w rfl ?_ | refine Z8x rfl ?_))
    by_cases a1 : size < 1
    · (rw [show decide (size < 1) = true from decide_eq_true (by omega)])
      (repeat (first | refine st_q rfl rfl rfl ?_ | refine Z8v rfl (st_q rfl rfl rfl ?_) | refine Z8w rfl ?_ | refine Z8x rfl ?_))
      (refine Z8y ?_; (repeat (first | refine Z9v rfl ?_ | refine Z9w ?_)); refine Z9u ?_)
      exact Z8f rfl (fun _ => hcode _) (fun e => by cases e)
    (rw [show decide (size < 1) = false from decide_eq_false (by omega)])
    (repeat (first | refine st_q rfl rfl rfl ?_ | refine Z8v rfl (st_q rfl rfl rfl ?_) | refine Z8w rfl ?_ | refine Z8x rfl ?_))
    by_cases a2 : size > 65536
    · (rw [show decide (size > 65536) = true from decide_eq_true (by omega)])
      (repeat (first | refine st_q rfl rfl rfl ?_ | refine Z8v rfl (st_q rfl rfl rfl ?_) | refine Z8w rfl ?_ | refine Z8x rfl ?_))
      (refine Z8y ?_; (repeat (first | refine Z9v rfl ?_ | refine Z9w ?_)); refine Z9u ?_)
      exact Z8f rfl (fun _ => hcode _) (fun e => by cases e)
    (rw [show decide (size > 65536) = false from decide_eq_false (by omega)])
    (repeat (first | refine st_q rfl rfl rfl ?_ | refine Z8v rfl (st_q rfl rfl rfl ?_) | refine Z8w rfl ?_ | refine Z8x rfl ?_))
    by_cases a3 : most < 0
    · (rw [show decide (most < 0) = true from decide_eq_true (by omega)])
      (repeat (first | refine st_q rfl rfl rfl ?_ | refine Z8v rfl (st_q rfl rfl rfl ?_) | refine Z8w rfl ?_ | refine Z8x rfl ?_))
      (refine Z8y ?_; (repeat (first | refine Z9v rfl ?_ | refine Z9w ?_)); refine Z9u ?_)
      exact Z8f rfl (fun _ => hcode _) (fun e => by cases e)
    (rw [show decide (most < 0) = false from decide_eq_false (by omega)])
    (repeat (first | refine st_q rfl rfl rfl ?_ | refine Z8v rfl (st_q rfl rfl rfl ?_) | refine Z8w rfl ?_ | refine Z8x rfl ?_))
    (refine Z8y ?_; (repeat (first | refine Z9v rfl ?_ | refine Z9w ?_)); refine Z9u ?_)
    exact Za3 (p := most > 262144) rfl (fun _ => hcode _) (fun e => absurd hs (by omega))
  rw [decF, if_neg (fun hh => hh hc), if_neg hs]
  (repeat (first | refine st_q rfl rfl rfl ?_ | refine Z8v rfl (st_q rfl rfl rfl ?_) | refine Z8w rfl ?_ | refine Z8x rfl ?_))
  (rw [show decide (size < 1) = false from decide_eq_false (by omega)])
  (repeat (first | refine st_q rfl rfl rfl ?_ | refine Z8v rfl (st_q rfl rfl rfl ?_) | refine Z8w rfl ?_ | refine Z8x rfl ?_))
  (rw [show decide (size > 65536) = false from decide_eq_false (by omega)])
  (repeat (first | refine st_q rfl rfl rfl ?_ | refine Z8v rfl (st_q rfl rfl rfl ?_) | refine Z8w rfl ?_ | refine Z8x rfl ?_))
  (rw [show decide (most < 0) = false from decide_eq_false (by omega)])
  (repeat (first | refine st_q rfl rfl rfl ?_ | refine Z8v rfl (st_q rfl rfl rfl ?_) | refine Z8w rfl ?_ | refine Z8x rfl ?_))
  (refine Z8y ?_; (repeat (first | refine Z9v rfl ?_ | refine Z9w ?_)); refine Z9u ?_)
  refine Za3 (p := most > 262144) rfl (fun e => absurd hs (by omega)) (fun _ => ?_)
  refine Z9z ?_
  (repeat (first | refine st_q rfl rfl rfl ?_ | refine Z8v rfl (st_q rfl rfl rfl ?_) | refine Z8w rfl ?_ | refine Z8x rfl ?_))
  by_cases h0 : codec = 0
  · subst h0
    rw [if_pos rfl]
    (repeat (first | refine st_q rfl rfl rfl ?_ | refine Z8v rfl (st_q rfl rfl rfl ?_) | refine Z8w rfl ?_ | refine Z8x rfl ?_))
    rw [Zam]
    (refine Z8y ?_; (repeat (first | refine Z9v rfl ?_ | refine Z9w ?_)); refine Z9u ?_)
    refine Za3 (p := (bs.length : Int) > most) rfl (fun h => ?_) (fun h => ?_)
    · refine Z9z ?_
      (repeat (refine st_q rfl rfl rfl ?_))
      (refine Z8y ?_; (repeat (first | refine Z9v rfl ?_ | refine Z9w ?_)); refine Z9u ?_)
      refine Z8d ?_
      rw [if_pos (by omega)]
      exact Zau rfl (Zr1 4) (HSub.refl _) ⟨rfl, rfl⟩
    rw [if_neg (by omega)]
    refine Z9z ?_
    (repeat (refine st_q rfl rfl rfl ?_))
    (refine Z8y ?_; (repeat (first | refine Z9v rfl ?_ | refine Z9w ?_)); refine Z9u ?_)
    refine Z8f (t := true) rfl (fun _ => ?_) (fun e => by cases e)
    refine Z9z ?_
    refine st_q rfl rfl rfl ?_
    refine Z9s rfl (Zo9 (by omega)) ?_ ?_
    · obtain ⟨gv, gβ, hgr⟩ := Grow.ex bs
      exact ⟨_, _, gβ, hgr, rfl⟩
    rintro r _ ⟨β, ho, rfl⟩
    refine Z9t rfl (ho.clip) ?_
    (repeat (refine st_q rfl rfl rfl ?_))
    (refine Z8y ?_; (repeat (first | refine Z9v rfl ?_ | refine Z9w ?_)); refine Z9u ?_)
    refine Z8d ?_
    exact ares rfl (HSub.refl _) ⟨rfl, rfl⟩
  (rw [show decide (codec = 0) = false from decide_eq_false (by omega)])
  (repeat (first | refine st_q rfl rfl rfl ?_ | refine Z8v rfl (st_q rfl rfl rfl ?_) | refine Z8w rfl ?_ | refine Z8x rfl ?_))
  (refine Z8y ?_; (repeat (first | refine Z9v rfl ?_ | refine Z9w ?_)); refine Z9u ?_)
  refine Z8f (t := false) rfl (fun e => by cases e) (fun _ => ?_)
  refine Z9z ?_
  (repeat (first | refine st_q rfl rfl rfl ?_ | refine Z8v rfl (st_q rfl rfl rfl ?_) | refine Z8w rfl ?_ | refine Z8x rfl ?_))
  (rw [show decide (codec = 0) = false from decide_eq_false (by omega)])
  (repeat (first | refine st_q rfl rfl rfl ?_ | refine Z8v rfl (st_q rfl rfl rfl ?_) | refine Z8w rfl ?_ | refine Z8x rfl ?_))
  (refine Z8y ?_; (repeat (first | refine Z9v rfl ?_ | refine Z9w ?_)); refine Z9u ?_)
  refine Z8f (t := false) rfl (fun e => by cases e) (fun _ => ?_)
  rw [if_neg h0]
  refine Z8b ?_
  obtain ⟨s, rfl⟩ : ∃ s : Nat, size = s := ⟨size.toNat, by omega⟩
  obtain ⟨m, rfl⟩ : ∃ m : Nat, most = m := ⟨most.toNat, by omega⟩
  rw [Int.toNat_natCast, Int.toNat_natCast]
  refine Z9z ?_
  (repeat (refine st_q rfl rfl rfl ?_))
  (refine Z8y ?_; (repeat (first | refine Z9v rfl ?_ | refine Z9w ?_)); refine Z9u ?_)
  refine Za5 ?_
  refine Zad ?_
  (repeat (refine st_q rfl rfl rfl ?_))
  (refine Z8y ?_; (repeat (first | refine Z9v rfl ?_ | refine Z9w ?_)); refine Z9u ?_)
  refine Z8h ?_
  refine Zaa (dInv bs f s m σ) (n := bs.length) ⟨0, [], .slc 0 [] true, [], rfl, rfl, Grow.nil 0, by omega, by simp, by simp, by simp⟩ ?_
  rintro k F σ' ⟨i, o, v, β, rfl, rfl, ho, hi, hom, rfl, hD⟩
  generalize hl : bs.drop i = l at hD ⊢
  have hll := Zgb hl hi
  have hsub : HSub σ (β ++ σ) := HSub.of_sublist (List.sublist_append_right _ _)
  refine Za5 ?_
  refine Zad ?_
  (repeat (refine st_q rfl rfl rfl ?_))
  rw [Zam]
  (refine Z8y ?_; (repeat (first | refine Z9v rfl ?_ | refine Z9w ?_)); refine Z9u ?_)
  refine Za3 (p := (i : Int) < (bs.length : Int)) rfl (fun h => ?_) (fun h => ?_)
  case refine_2 =>
    have e : l = [] := List.length_eq_zero_iff.1 (by omega)
    subst e
    rw [Zmy] at hD
    rw [← hD]
    refine Zbo (fun _ _ => rfl) ?_
    refine Z9z ?_
    refine st_q rfl rfl rfl ?_
    refine Z9t rfl (ho.clip) ?_
    (repeat (refine st_q rfl rfl rfl ?_))
    (refine Z8y ?_; (repeat (first | refine Z9v rfl ?_ | refine Z9w ?_)); refine Z9u ?_)
    refine Z8d ?_
    exact ares rfl (HSub.refl _) ⟨rfl, rfl⟩
  refine Za4 ?_
  have hl0 : l ≠ [] := fun e => by subst e; simp at hll; omega
  refine Z8h ?_
  refine Z9z ?_
  refine st_q rfl rfl rfl ?_
  refine st_q rfl rfl rfl ?_
  rcases Zr4 l with hbad | ⟨n, og, q, hr, hn⟩
  · rw [Zr2 hl0 hbad] at hD
    rw [← hD]
    refine Z9t rfl (Zo7 hi hl (by omega) hbad) ?_
    (repeat (refine st_q rfl rfl rfl ?_))
    (refine Z8y ?_; (repeat (first | refine Z9v rfl ?_ | refine Z9w ?_)); refine Z9u ?_)
    refine Za5 ?_
    refine Zad ?_
    (repeat (refine st_q rfl rfl rfl ?_))
    (refine Z8y ?_; (repeat (first | refine Z9v rfl ?_ | refine Z9w ?_)); refine Z9u ?_)
    refine Z8f (t := true) rfl (fun _ => ?_) (fun e => by cases e)
    refine Z9z ?_
    (repeat (refine st_q rfl rfl rfl ?_))
    (refine Z8y ?_; (repeat (first | refine Z9v rfl ?_ | refine Z9w ?_)); refine Z9u ?_)
    refine Z8d ?_
    exact Zau rfl (Zr1 3) hsub ⟨rfl, rfl⟩
  rw [Zn0 hr, if_neg (by omega)] at hD
  obtain ⟨hn', h3, hq⟩ := Zo5 hr
  have hql : q.length = l.length - 3 := by rw [hq, List.length_drop]
  have htl : (q.take n).length = n := by rw [List.length_take]; omega
  have hdr : bs.drop (i + 3 + n) = q.drop n := by rw [← List.drop_drop, ← List.drop_drop, hl, hq]
  refine Z9s rfl (Zo8 hi hl (by omega) hr hn) ⟨_, _, ⟨true, rfl⟩, rfl⟩ ?_
  rintro _ _ ⟨⟨g, rfl⟩, rfl⟩
  (repeat (refine st_q rfl rfl rfl ?_))
  (refine Z8y ?_; (repeat (first | refine Z9v rfl ?_ | refine Z9w ?_)); refine Z9u ?_)
  refine Za5 ?_
  refine Zad ?_
  (repeat (refine st_q rfl rfl rfl ?_))
  (refine Z8y ?_; (repeat (first | refine Z9v rfl ?_ | refine Z9w ?_)); refine Z9u ?_)
  refine Z8f (t := false) rfl (fun e => by cases e) (fun _ => ?_)
  refine Za4 ?_
  have e1 : IntKind.wrap .i64 (3 + (n : Int)) = ((3 + n : Nat) : Int) := by rw [w64 _ (by omega) (by omega)]; omega
  have e2 : IntKind.wrap .i64 ((i : Int) + ((3 + n : Nat) : Int)) = ((i + 3 + n : Nat) : Int) := by rw [w64 _ (by omega) (by omega)]; omega
  refine Z9z ?_
  (repeat (refine st_q rfl rfl rfl ?_))
  rw [Zam, htl, e1, e2]
  (refine Z8y ?_; (repeat (first | refine Z9v rfl ?_ | refine Z9w ?_)); refine Z9u ?_)
  refine Za5 ?_
  refine Zad ?_
  cases og with
  | true =>
    simp only [true_and, if_true, ne_eq, not_true_eq_false, if_false] at hD
    (repeat (first | refine st_q rfl rfl rfl ?_ | refine Z8v rfl (st_q rfl rfl rfl ?_) | refine Z8w rfl ?_ | refine Z8x rfl ?_))
    rw [Zam, htl]
    (refine Z8y ?_; (repeat (first | refine Z9v rfl ?_ | refine Z9w ?_)); refine Z9u ?_)
    refine Za3 (p := (n : Int) > (s : Int)) rfl (fun h5 => ?_) (fun h5 => ?_)
    · rw [if_pos (by omega)] at hD
      rw [← hD]
      refine Z9z ?_
      (repeat (refine st_q rfl rfl rfl ?_))
      (refine Z8y ?_; (repeat (first | refine Z9v rfl ?_ | refine Z9w ?_)); refine Z9u ?_)
      refine Z8d ?_
      exact Zau rfl (Zr1 4) hsub ⟨rfl, rfl⟩
    rw [if_neg (by omega)] at hD
    refine Za4 ?_
    refine Za5 ?_
    refine Zad ?_
    (repeat (first | refine st_q rfl rfl rfl ?_ | refine Z8v rfl (st_q rfl rfl rfl ?_) | refine Z8w rfl ?_ | refine Z8x rfl ?_))
    (refine Z8y ?_; (repeat (first | refine Z9v rfl ?_ | refine Z9w ?_)); refine Z9u ?_)
    refine Z8f (t := false) rfl (fun e => by cases e) (fun _ => ?_)
    refine Za4 ?_
    (refine Z9y (keep := [0, 2, 3, 10, 11, 12]) ?_; ((repeat (first | refine Z9v rfl ?_ | refine Z9w ?_)); refine Z9u ?_))
    exact Zr7 (by omega) ho (by omega) hom (by omega) (by rw [hdr, List.length_drop]; omega) (by rw [hdr]; exact hD)
  | false =>
    simp only [Bool.false_eq_true, false_and, if_false] at hD
    (repeat (first | refine st_q rfl rfl rfl ?_ | refine Z8v rfl (st_q rfl rfl rfl ?_) | refine Z8w rfl ?_ | refine Z8x rfl ?_))
    (refine Z8y ?_; (repeat (first | refine Z9v rfl ?_ | refine Z9w ?_)); refine Z9u ?_)
    refine Z8f (t := false) rfl (fun e => by cases e) (fun _ => ?_)
    refine Za4 ?_
    refine Za5 ?_
    refine Zad ?_
    (repeat (first | refine st_q rfl rfl rfl ?_ | refine Z8v rfl (st_q rfl rfl rfl ?_) | refine Z8w rfl ?_ | refine Z8x rfl ?_))
    (refine Z8y ?_; (repeat (first | refine Z9v rfl ?_ | refine Z9w ?_)); refine Z9u ?_)
    refine Z8f (t := true) rfl (fun _ => ?_) (fun e => by cases e)
    refine Z9z ?_
    refine st_q rfl rfl rfl ?_
    refine st_q rfl rfl rfl ?_
    refine Z9t rfl (Zgm _ (by omega)) ?_
    have hul := Zr6 (s := s) (l := q.take n)
    generalize hu : Zfd (s : Int) (q.take n) = u at hD hul ⊢
    obtain ⟨e, xs⟩ := u
    (repeat (refine st_q rfl rfl rfl ?_))
    (refine Z8y ?_; (repeat (first | refine Z9v rfl ?_ | refine Z9w ?_)); refine Z9u ?_)
    refine Z9z ?_
    (repeat (refine st_q rfl rfl rfl ?_))
    (refine Z8y ?_; (repeat (first | refine Z9v rfl ?_ | refine Z9w ?_)); refine Z9u ?_)
    refine Za3 (p := (e : Int) ≠ 0) rfl (fun h6 => ?_) (fun h6 => ?_)
    · rw [if_pos (by simpa using (by omega : e ≠ 0))] at hD
      rw [← hD]
      refine Z9z ?_
      (repeat (refine st_q rfl rfl rfl ?_))
      (refine Z8y ?_; (repeat (first | refine Z9v rfl ?_ | refine Z9w ?_)); refine Z9u ?_)
      refine Z8d ?_
      exact Zau rfl (Zr1 e) hsub ⟨rfl, rfl⟩
    rw [if_neg (by simpa using (by omega : e = 0))] at hD
    refine Za4 ?_
    (refine Z9y (keep := [0, 2, 3, 10, 11, 12]) ?_; ((repeat (first | refine Z9v rfl ?_ | refine Z9w ?_)); refine Z9u ?_))
    exact Zr7 (by omega) ho (by omega) hom (by have hul' : xs.length ≤ 1048576 := hul; omega) (by rw [hdr, List.length_drop]; omega) (by rw [hdr]; exact hD)
def cInv (bs : List UInt8) (f : Bool) (σ : Zc) (k : Nat) (F : Z26) (σ' : Zc) : Prop :=
  ∃ (i c : Nat), F = fset 0 (some (.slc 1 (bytes bs) f)) (fset 6 (some (.int .i64 c)) (fset 7 (some (.int .i64 i)) Z27)) ∧ σ' = σ ∧ i ≤ bs.length ∧ c ≤ i ∧ k = (bs.drop i).length ∧ cntC (bs.drop i) c = cntC bs 0
theorem Zr9 {σ : Zc} {bs : List UInt8} {f : Bool} {codec : Int} (hb : bs.length ≤ 140737488000000) :
    Z1q Try.prog Zcn [.slc 1 (bytes bs) f, .int .i64 codec] σ fun r σ' => r = .tup [.int .i64 (cntF bs codec).1, .int .i64 (cntF bs codec).2] ∧ σ' = σ := by
  refine Z8t rfl Zqz (Nat.le_of_ble_eq_true rfl) ?_
  refine Z9z ?_
  (repeat (refine st_q rfl rfl rfl ?_))
  (refine Z8y ?_; (repeat (first | refine Z9v rfl ?_ | refine Z9w ?_)); refine Z9u ?_)
  refine Za5 ?_
  refine Zad ?_
  refine st_q rfl rfl rfl ?_
  refine Z9t rfl (Znv codec) ?_
  by_cases hc : codec = 0 ∨ codec = 4
  case neg =>
    rw [decide_eq_false hc, cntF, if_pos hc]
    (repeat (refine st_q rfl rfl rfl ?_))
    (refine Z8y ?_; (repeat (first | refine Z9v rfl ?_ | refine Z9w ?_)); refine Z9u ?_)
    refine Z8f (t := true) rfl (fun _ => ?_) (fun e => by cases e)
    refine Z9z ?_
    (repeat (refine st_q rfl rfl rfl ?_))
    (refine Z8y ?_; (repeat (first | refine Z9v rfl ?_ | refine Z9w ?_)); refine Z9u ?_)
    refine Z8d ?_
    exact ares rfl (HSub.refl _) ⟨rfl, rfl⟩
  rw [decide_eq_true hc, cntF, if_neg (fun hh => hh hc)]
  (repeat (refine st_q rfl rfl rfl ?_))
  (refine Z8y ?_; (repeat (first | refine Z9v rfl ?_ | refine Z9w ?_)); refine Z9u ?_)
  refine Z8f (t := false) rfl (fun e => by cases e) (fun _ => ?_)
  refine Za4 ?_
  refine Za5 ?_
  refine Zad ?_
  (repeat (refine st_q rfl rfl rfl ?_))
  (refine Z8y ?_; (repeat (first | refine Z9v rfl ?_ | refine Z9w ?_)); refine Z9u ?_)
  refine Za3 (p := codec = 0) rfl (fun h => ?_) (fun h => ?_)
  · refine Z9z ?_
    (repeat (refine st_q rfl rfl rfl ?_))
    (refine Z8y ?_; (repeat (first | refine Z9v rfl ?_ | refine Z9w ?_)); refine Z9u ?_)
    refine Z8d ?_
    rw [if_pos h]
    exact ares rfl (HSub.refl _) ⟨rfl, rfl⟩
  rw [if_neg h]
  refine Za4 ?_
  refine Z9z ?_
  (repeat (refine st_q rfl rfl rfl ?_))
  (refine Z8y ?_; (repeat (first | refine Z9v rfl ?_ | refine Z9w ?_)); refine Z9u ?_)
  refine Za5 ?_
  refine Zad ?_
  (repeat (refine st_q rfl rfl rfl ?_))
  (refine Z8y ?_; (repeat (first | refine Z9v rfl ?_ | refine Z9w ?_)); refine Z9u ?_)
  refine Z8h ?_
  refine Zaa (cInv bs f σ) (n := bs.length) ⟨0, 0, rfl, rfl, by omega, by omega, by simp, by simp⟩ ?_
  rintro k F σ' ⟨i, c, rfl, rfl, hi, hci, rfl, hD⟩
  generalize hl : bs.drop i = l at hD ⊢
  have hll := Zgb hl hi
  refine Za5 ?_
  refine Zad ?_
  (repeat (refine st_q rfl rfl rfl ?_))
  rw [Zam]
  (refine Z8y ?_; (repeat (first | refine Z9v rfl ?_ | refine Z9w ?_)); refine Z9u ?_)
  refine Za3 (p := (i : Int) < (bs.length : Int)) rfl (fun h => ?_) (fun h => ?_)
  case refine_2 =>
    have e : l = [] := List.length_eq_zero_iff.1 (by omega)
    subst e
    rw [Zmz] at hD
    rw [← hD]
    refine Zbo (fun _ _ => rfl) ?_
    refine Z9z ?_
    (repeat (refine st_q rfl rfl rfl ?_))
    (refine Z8y ?_; (repeat (first | refine Z9v rfl ?_ | refine Z9w ?_)); refine Z9u ?_)
    refine Z8d ?_
    exact ares rfl (HSub.refl _) ⟨rfl, rfl⟩
  refine Za4 ?_
  have hl0 : l ≠ [] := fun e => by subst e; simp at hll; omega
  refine Za6 ?_
  refine Z9z ?_
  refine st_q rfl rfl rfl ?_
  refine st_q rfl rfl rfl ?_
  rcases Zr4 l with hbad | ⟨n, og, q, hr, hn⟩
  · rw [Zr3 hl0 hbad] at hD
    rw [← hD]
    refine Z9t rfl (Zo7 hi hl (by omega) hbad) ?_
    (repeat (refine st_q rfl rfl rfl ?_))
    (refine Z8y ?_; (repeat (first | refine Z9v rfl ?_ | refine Z9w ?_)); refine Z9u ?_)
    refine Za5 ?_
    refine Zad ?_
    (repeat (refine st_q rfl rfl rfl ?_))
    (refine Z8y ?_; (repeat (first | refine Z9v rfl ?_ | refine Z9w ?_)); refine Z9u ?_)
    refine Z8f (t := true) rfl (fun _ => ?_) (fun e => by cases e)
    refine Z9z ?_
    (repeat (refine st_q rfl rfl rfl ?_))
    (refine Z8y ?_; (repeat (first | refine Z9v rfl ?_ | refine Z9w ?_)); refine Z9u ?_)
    refine Z8d ?_
    exact ares rfl (HSub.refl _) ⟨rfl, rfl⟩
  rw [Zn2 hr, if_neg (by omega)] at hD
  obtain ⟨hn', h3, hq⟩ := Zo5 hr
  have hql : q.length = l.length - 3 := by rw [hq, List.length_drop]
  have htl : (q.take n).length = n := by rw [List.length_take]; omega
  have hdr : bs.drop (i + 3 + n) = q.drop n := by rw [← List.drop_drop, ← List.drop_drop, hl, hq]
  refine Z9s rfl (Zo8 hi hl (by omega) hr hn) ⟨_, _, ⟨true, rfl⟩, rfl⟩ ?_
  rintro _ _ ⟨⟨g, rfl⟩, rfl⟩
  (repeat (refine st_q rfl rfl rfl ?_))
  (refine Z8y ?_; (repeat (first | refine Z9v rfl ?_ | refine Z9w ?_)); refine Z9u ?_)
  refine Za5 ?_
  refine Zad ?_
  (repeat (refine st_q rfl rfl rfl ?_))
  (refine Z8y ?_; (repeat (first | refine Z9v rfl ?_ | refine Z9w ?_)); refine Z9u ?_)
  refine Z8f (t := false) rfl (fun e => by cases e) (fun _ => ?_)
  refine Za4 ?_
  have e1 : IntKind.wrap .i64 (3 + (n : Int)) = ((3 + n : Nat) : Int) := by rw [w64 _ (by omega) (by omega)]; omega
  have e2 : IntKind.wrap .i64 ((i : Int) + ((3 + n : Nat) : Int)) = ((i + 3 + n : Nat) : Int) := by rw [w64 _ (by omega) (by omega)]; omega
  have e3 : IntKind.wrap .i64 ((c : Int) + 1) = ((c + 1 : Nat) : Int) := by rw [w64 _ (by omega) (by omega)]; omega
  refine Zbm (fun _ _ => rfl) ?_
  (repeat (refine st_q rfl rfl rfl ?_))
  rw [Zam, htl, e1, e2]
  (refine Z8y ?_; (repeat (first | refine Z9v rfl ?_ | refine Z9w ?_)); refine Z9u ?_)
  refine awp_region ?_
  (repeat (refine st_q rfl rfl rfl ?_))
  rw [e3]
  refine Z8y ?_
  refine Zac (keep := [0, 6, 7]) ?_
  ((repeat (first | refine Z9v rfl ?_ | refine Z9w ?_)); refine Z9u ?_)
  exact ⟨_, _, HSub.refl _, ⟨i + 3 + n, c + 1, rfl, rfl, by omega, by omega, rfl, by rw [hdr]; exact hD⟩, by rw [hdr, List.length_drop]; omega⟩
end Go.Abs
namespace Go.Abs
open Go Go.Proofs Go.Abs.Lz
set_option linter.unusedVariables false
set_option linter.unusedSimpArgs false
def tupW (x : Nat × List UInt8) : Z0 := .tup [.slc 1 (bytes x.2) false, .int .i64 x.1]
def OwnR (σ : Zc) (x : Nat × List UInt8) (r : Z0) (σ' : Zc) : Prop := ∃ v β, r = .tup [v, .int .i64 x.1] ∧ Grow v x.2 β ∧ σ' = β ++ σ
theorem OwnR.nil (σ : Zc) (e : Nat) : OwnR σ (e, []) (.tup [.slc 0 [] true, .int .i64 e]) σ := ⟨_, [], rfl, Grow.nil 0, rfl⟩
theorem OwnR.frz {f : FuncId} {args : List Z0} {σ : Zc} {x : Nat × List UInt8} (h : Z1q Try.prog f args σ (OwnR σ x)) : Z1q Try.prog f args σ fun r σ' => r = tupW x ∧ σ' = σ := by
  refine Zb5 h fun r σ' h => ?_
  obtain ⟨v, β, rfl, ho, rfl⟩ := h
  exact ⟨_, _, Zb6.tup (Zb6.first (Zb6.grow ho)), rfl, rfl⟩
theorem Zra {bs : List UInt8} {f : Bool} {s m : Nat} {σ : Zc} {k i n : Nat} {o xs : List UInt8} {v : Z0} {β : Zc} {g : Bool} (hm : m ≤ 262144) (ho : Grow v o β) (hi : i + n ≤ bs.length) (hb : bs.length ≤ 140737488000000) (hom : o.length ≤ m) (hx : xs.length ≤ 140737488000000) (hk : (bs.drop (i + n)).length < k)
    (hd : (if m < o.length + xs.length then (4, []) else dec s m (bs.drop (i + n)) (o ++ xs)) = dec s m bs []) :
    AWp Try.prog Zpz.n (.seq (.seq (.region Zpt [0, 2, 3, 10, 11, 12, 15, 99]) (.cond (.t 99) (.seq (.region Zpu [8, 9]) .ret) .skip)) (.seq (.region Zpv [0, 2, 3, 10, 11, 12]) (.region Zpw [0, 2, 3, 10, 11]))) (Z8g 1 (Za9 (dInv bs f s m σ) k (Z8g 0 (Z8e Try.prog Zpz.n (.seq (.region Zpy [8, 9]) .ret) (ARet Zpz.res (OwnR σ (dec s m bs [])))))))
      (fset 0 (some (.slc 1 (bytes bs) f)) (fset 2 (some (.int .i64 s)) (fset 3 (some (.int .i64 m)) (fset 10 (some v) (fset 11 (some (.int .i64 i)) (fset 12 (some (.int .i64 n)) (fset 15 (some (.slc 1 (bytes xs) g)) Z27))))))) (β ++ σ) := by
  have e1 : IntKind.wrap .i64 ((m : Int) - (o.length : Int)) = ((m - o.length : Nat) : Int) := by rw [w64 _ (by omega) (by omega)]; omega
  have e2 : IntKind.wrap .i64 ((i : Int) + (n : Int)) = ((i + n : Nat) : Int) := by rw [w64 _ (by omega) (by omega)]; omega
  refine Za5 ?_
  refine Zad ?_
  (repeat (refine st_q rfl rfl rfl ?_))
  rw [Zam]
  refine Zas rfl ho.lens ?_
  refine st_q rfl rfl rfl ?_
  rw [e1]
  (repeat (refine st_q rfl rfl rfl ?_))
  (refine Z8y ?_; (repeat (first | refine Z9v rfl ?_ | refine Z9w ?_)); refine Z9u ?_)
  refine Za3 (p := (xs.length : Int) > ((m - o.length : Nat) : Int)) rfl (fun h => ?_) (fun h => ?_)
  · refine Z9z ?_
    (repeat (refine st_q rfl rfl rfl ?_))
    (refine Z8y ?_; (repeat (first | refine Z9v rfl ?_ | refine Z9w ?_)); refine Z9u ?_)
    refine Z8d ?_
    rw [if_pos (by omega)] at hd
    rw [← hd]
    exact ares rfl (HSub.of_sublist (List.sublist_append_right _ _)) (OwnR.nil σ 4)
  · refine Za4 ?_
    rw [if_neg (by omega)] at hd
    refine Z9z ?_
    refine st_q rfl rfl rfl ?_
    refine st_q rfl rfl rfl ?_
    refine Zat ho (ys := xs) rfl rfl (by omega) fun b hbk => ?_
    (repeat (refine st_q rfl rfl rfl ?_))
    (refine Z8y ?_; (repeat (first | refine Z9v rfl ?_ | refine Z9w ?_)); refine Z9u ?_)
    refine awp_region ?_
    (repeat (refine st_q rfl rfl rfl ?_))
    rw [e2]
    (repeat (refine st_q rfl rfl rfl ?_))
    refine Z8y ?_
    refine Zac (keep := [0, 2, 3, 10, 11]) ?_
    ((repeat (first | refine Z9v rfl ?_ | refine Z9w ?_)); refine Z9u ?_)
    exact ⟨_, _, HSub.refl _, ⟨i + n, o ++ xs, _, [(b, .cells 1 (bytes (o ++ xs)))], rfl, rfl, .inr ⟨b, rfl, rfl⟩, hi, by rw [List.length_append]; omega, rfl, hd⟩, hk⟩
theorem Zrb {σ : Zc} {bs : List UInt8} {f : Bool} {codec size most : Int} (hb : bs.length ≤ 140737488000000) :
    Z1q Try.prog Zcm [.slc 1 (bytes bs) f, .int .i64 codec, .int .i64 size, .int .i64 most] σ (OwnR σ (decF bs codec size most)) := by
  refine Z8t rfl Zqy (Nat.le_of_ble_eq_true rfl) ?_
  refine Z9z ?_
  (repeat (refine st_q rfl rfl rfl ?_))
  (refine Z8y ?_; (repeat (first | refine Z9v rfl ?_ | refine Z9w ?_)); refine Z9u ?_)
  refine Za5 ?_
  refine Zad ?_
  (repeat (first | refine st_q rfl rfl rfl ?_ | refine Z8v rfl (st_q rfl rfl rfl ?_) | refine Z8w rfl ?_ | refine Z8x rfl ?_))
  by_cases hc : codec = 0 ∨ codec = 4
  case neg =>
    rw [decF, if_pos hc]
    (rw [show decide (codec ≠ 0) = true from decide_eq_true (by omega)])
    (repeat (first | refine st_q rfl rfl rfl ?_ | refine Z8v rfl (st_q rfl rfl rfl ?_) | refine Z8w rfl ?_ | refine Z8x rfl ?_))
    (refine Z8y ?_; (repeat (first | refine Z9v rfl ?_ | refine Z9w ?_)); refine Z9u ?_)
    refine Za3 (p := codec ≠ 4) rfl (fun _ => ?_) (fun e => absurd hc (by omega))
    refine Z9z ?_
    (repeat (refine st_q rfl rfl rfl ?_))
    (refine Z8y ?_; (repeat (first | refine Z9v rfl ?_ | refine Z9w ?_)); refine Z9u ?_)
    refine Z8d ?_
    exact ares rfl (HSub.refl _) (OwnR.nil σ 7)
  have hgo : ∀ F : Z26, FSub (fset 0 (some (.slc 1 (bytes bs) f)) (fset 1 (some (.int .i64 codec)) (fset 2 (some (.int .i64 size)) (fset 3 (some (.int .i64 most)) Z27)))) F → AWp Try.prog Zpz.n (Zpz.code.snd 2) (ARet Zpz.res (OwnR σ (decF bs codec size most))) F σ := fun F hF => by
    refine Z8a hF (HSub.refl _) ?_
    refine Za5 ?_
    refine Zad ?_
    by_cases hs : size < 1 ∨ 65536 < size ∨ most < 0 ∨ 262144 < most
    · rw [decF, if_neg (fun hh => hh hc), if_pos hs]
      have hcode : ∀ F, AWp Try.prog Zpz.n (.seq (.region Zp7 [8, 9]) .ret) (Z8e Try.prog Zpz.n (Zpz.code.snd 3) (ARet Zpz.res (OwnR σ (1, [])))) F σ := fun F => by
        refine Z9z ?_
        (repeat (refine st_q rfl rfl rfl ?_))
        (refine Z8y ?_; (repeat (first | refine Z9v rfl ?_ | refine Z9w ?_)); refine Z9u ?_)
        refine Z8d ?_
        exact ares rfl (HSub.refl _) (OwnR.nil σ 1)
      (repeat (first | refine st_q rfl rfl rfl ?_ | refine Z8v rfl (st_q rfl rfl rfl ?_) | refine Z8w rfl ?_ | refine Z8x rfl ?_))
      by_cases a1 : size < 1
      · (rw [show decide (size < 1) = true from decide_eq_true (by omega)])
        (repeat (first | refine st_q rfl rfl rfl ?_ | refine Z8v rfl (st_q rfl rfl rfl ?_) | refine Z8w rfl ?_ | refine Z8x rfl ?_))
        (refine Z8y ?_; (repeat (first | refine Z9v rfl ?_ | refine Z9w ?_)); refine Z9u ?_)
        exact Z8f rfl (fun _ => hcode _) (fun e => by cases e)
      (rw [show decide (size < 1) = false from decide_eq_false (by omega)])
      (repeat (first | refine st_q rfl rfl rfl ?_ | refine Z8v rfl (st_q rfl rfl rfl ?_) | refine Z8w rfl ?_ | refine Z8x rfl ?_))
      by_cases a2 : size > 65536
      · (rw [show decide (size > 65536) = true from decide_eq_true (by omega)])
        (repeat (first | refine st_q rfl rfl rfl ?_ | refine Z8v rfl (st_q rfl rfl rfl ?_) | refine Z8w rfl ?_ | refine Z8x rfl ?_))
        (refine Z8y ?_; (repeat (first | refine Z9v rfl ?_ | refine Z9w ?_)); refine Z9u ?_)
        exact Z8f rfl (fun _ => hcode _) (fun e => by cases e)
      (rw [show decide (size > 65536) = false from decide_eq_false (by omega)])
      (repeat (first | refine st_q rfl rfl rfl ?_ | refine Z8v rfl (st_q rfl rfl rfl ?_) | refine Z8w rfl ?_ | refine Z8x rfl ?_))
      by_cases a3 : most < 0
      · (rw [show decide (most < 0) = true from decide_eq_true (by omega)])
        (repeat (first | refine st_q rfl rfl rfl ?_ | refine Z8v rfl (st_q rfl rfl rfl ?_) | refine Z8w rfl ?_ | refine Z8x rfl ?_))
        (refine Z8y ?_; (repeat (first | refine Z9v rfl ?_ | refine Z9w ?_)); refine Z9u ?_)
        exact Z8f rfl (fun _ => hcode _) (fun e => by cases e)
      (rw [show decide (most < 0) = false from decide_eq_false (by omega)])
      (repeat (first | refine st_q rfl rfl rfl ?_ | refine Z8v rfl (st_q rfl rfl rfl ?_) | refine Z8w rfl ?_ | refine Z8x rfl ?_))
      (refine Z8y ?_; (repeat (first | refine Z9v rfl ?_ | refine Z9w ?_)); refine Z9u ?_)
      exact Za3 (p := most > 262144) rfl (fun _ => hcode _) (fun e => absurd hs (by omega))
    rw [decF, if_neg (fun hh => hh hc), if_neg hs]
    (repeat (first | refine st_q rfl rfl rfl ?_ | refine Z8v rfl (st_q rfl rfl rfl ?_) | refine Z8w rfl ?_ | refine Z8x rfl ?_))
    (rw [show decide (size < 1) = false from decide_eq_false (by omega)])
    (repeat (first | refine st_q rfl rfl rfl ?_ | refine Z8v rfl (st_q rfl rfl rfl ?_) | refine Z8w rfl ?_ | refine Z8x rfl ?_))
    (rw [show decide (size > 65536) = false from decide_eq_false (by omega)])
    (repeat (first | refine st_q rfl rfl rfl ?_ | refine Z8v rfl (st_q rfl rfl rfl ?_) | refine Z8w rfl ?_ | refine Z8x rfl ?_))
    (rw [show decide (most < 0) = false from decide_eq_false (by omega)])
    (repeat (first | refine st_q rfl rfl rfl ?_ | refine Z8v rfl (st_q rfl rfl rfl ?_) | refine Z8w rfl ?_ | refine Z8x rfl ?_))
    (refine Z8y ?_; (repeat (first | refine Z9v rfl ?_ | refine Z9w ?_)); refine Z9u ?_)
    refine Za3 (p := most > 262144) rfl (fun e => absurd hs (by omega)) (fun _ => ?_)
    refine Za4 ?_
    refine Za5 ?_
    refine Zad ?_
    (repeat (first | refine st_q rfl rfl rfl ?_ | refine Z8v rfl (st_q rfl rfl rfl ?_) | refine Z8w rfl ?_ | refine Z8x rfl ?_))
    (refine Z8y ?_; (repeat (first | refine Z9v rfl ?_ | refine Z9w ?_)); refine Z9u ?_)
    refine Za3 (p := codec = 0) rfl (fun h0 => ?_) (fun h0 => ?_)
    · rw [if_pos h0]
      refine Za5 ?_
      refine Zad ?_
      (repeat (first | refine st_q rfl rfl rfl ?_ | refine Z8v rfl (st_q rfl rfl rfl ?_) | refine Z8w rfl ?_ | refine Z8x rfl ?_))
      rw [Zam]
      (refine Z8y ?_; (repeat (first | refine Z9v rfl ?_ | refine Z9w ?_)); refine Z9u ?_)
      refine Za3 (p := (bs.length : Int) > most) rfl (fun h => ?_) (fun h => ?_)
      · refine Z9z ?_
        (repeat (refine st_q rfl rfl rfl ?_))
        (refine Z8y ?_; (repeat (first | refine Z9v rfl ?_ | refine Z9w ?_)); refine Z9u ?_)
        refine Z8d ?_
        rw [if_pos (by omega)]
        exact ares rfl (HSub.refl _) (OwnR.nil σ 4)
      rw [if_neg (by omega)]
      refine Za4 ?_
      refine Z9z ?_
      refine st_q rfl rfl rfl ?_
      refine st_q rfl rfl rfl ?_
      refine Zat (β := []) (xs := []) (ys := bs) (Grow.nil 1) rfl rfl (by simp; omega) fun b hbk => ?_
      (repeat (refine st_q rfl rfl rfl ?_))
      (refine Z8y ?_; (repeat (first | refine Z9v rfl ?_ | refine Z9w ?_)); refine Z9u ?_)
      refine Z8d ?_
      exact ares rfl (HSub.refl _) ⟨_, [(b, .cells 1 (bytes ([] ++ bs)))], rfl, .inr ⟨b, rfl, rfl⟩, rfl⟩
    rw [if_neg h0]
    refine Za4 ?_
    obtain ⟨s, rfl⟩ : ∃ s : Nat, size = s := ⟨size.toNat, by omega⟩
    obtain ⟨m, rfl⟩ : ∃ m : Nat, most = m := ⟨most.toNat, by omega⟩
    rw [Int.toNat_natCast, Int.toNat_natCast]
    refine Z9z ?_
    (repeat (refine st_q rfl rfl rfl ?_))
    (refine Z8y ?_; (repeat (first | refine Z9v rfl ?_ | refine Z9w ?_)); refine Z9u ?_)
    refine Z9z ?_
    (repeat (refine st_q rfl rfl rfl ?_))
    (refine Z8y ?_; (repeat (first | refine Z9v rfl ?_ | refine Z9w ?_)); refine Z9u ?_)
    refine Za6 ?_
    refine Zaa (dInv bs f s m σ) (n := bs.length) ⟨0, [], .slc 0 [] true, [], rfl, rfl, Grow.nil 0, by omega, by simp, by simp, by simp⟩ ?_
    rintro k F σ' ⟨i, o, v, β, rfl, rfl, ho, hi, hom, rfl, hD⟩
    generalize hl : bs.drop i = l at hD ⊢
    have hll := Zgb hl hi
    have hsub : HSub σ (β ++ σ) := HSub.of_sublist (List.sublist_append_right _ _)
    refine Za5 ?_
    refine Zad ?_
    (repeat (refine st_q rfl rfl rfl ?_))
    rw [Zam]
    (refine Z8y ?_; (repeat (first | refine Z9v rfl ?_ | refine Z9w ?_)); refine Z9u ?_)
    refine Za3 (p := (i : Int) < (bs.length : Int)) rfl (fun h => ?_) (fun h => ?_)
    case refine_2 =>
      have e : l = [] := List.length_eq_zero_iff.1 (by omega)
      subst e
      rw [Zmy] at hD
      rw [← hD]
      refine Zbo (fun _ _ => rfl) ?_
      refine Z9z ?_
      (repeat (refine st_q rfl rfl rfl ?_))
      (refine Z8y ?_; (repeat (first | refine Z9v rfl ?_ | refine Z9w ?_)); refine Z9u ?_)
      refine Z8d ?_
      exact ares rfl (HSub.refl _) ⟨_, β, rfl, ho, rfl⟩
    refine Za4 ?_
    have hl0 : l ≠ [] := fun e => by subst e; simp at hll; omega
    have hp := Zo4 hi hl
    refine Z8h ?_
    refine Z9z ?_
    refine st_q rfl rfl rfl ?_
    refine st_q rfl rfl rfl ?_
    refine Z9t rfl (Zo2 (i : Int) (by omega)) ?_
    rw [hp]
    cases hr : rdH l with
    | none =>
      rw [Zn1 hl0 hr] at hD
      rw [← hD]
      (repeat (refine st_q rfl rfl rfl ?_))
      (refine Z8y ?_; (repeat (first | refine Z9v rfl ?_ | refine Z9w ?_)); refine Z9u ?_)
      refine Za5 ?_
      refine Zad ?_
      (repeat (refine st_q rfl rfl rfl ?_))
      (refine Z8y ?_; (repeat (first | refine Z9v rfl ?_ | refine Z9w ?_)); refine Z9u ?_)
      refine Z8f (t := true) rfl (fun _ => ?_) (fun e => by cases e)
      refine Z9z ?_
      (repeat (refine st_q rfl rfl rfl ?_))
      (refine Z8y ?_; (repeat (first | refine Z9v rfl ?_ | refine Z9w ?_)); refine Z9u ?_)
      refine Z8d ?_
      exact ares rfl hsub (OwnR.nil σ 3)
    | some x =>
    obtain ⟨n, og, q⟩ := x
    rw [Zn0 hr] at hD
    obtain ⟨hn', h3, hq⟩ := Zo5 hr
    have hql : q.length = l.length - 3 := by rw [hq, List.length_drop]
    (repeat (refine st_q rfl rfl rfl ?_))
    (refine Z8y ?_; (repeat (first | refine Z9v rfl ?_ | refine Z9w ?_)); refine Z9u ?_)
    refine Za5 ?_
    refine Zad ?_
    (repeat (refine st_q rfl rfl rfl ?_))
    (refine Z8y ?_; (repeat (first | refine Z9v rfl ?_ | refine Z9w ?_)); refine Z9u ?_)
    refine Z8f (t := false) rfl (fun e => by cases e) (fun _ => ?_)
    refine Za4 ?_
    have e1 : IntKind.wrap .i64 ((i : Int) + 3) = ((i + 3 : Nat) : Int) := by rw [w64 _ (by omega) (by omega)]; omega
    refine Z9z ?_
    (repeat (refine st_q rfl rfl rfl ?_))
    rw [e1]
    (repeat (refine st_q rfl rfl rfl ?_))
    (refine Z8y ?_; (repeat (first | refine Z9v rfl ?_ | refine Z9w ?_)); refine Z9u ?_)
    refine Za5 ?_
    refine Zad ?_
    have e2 : IntKind.wrap .i64 ((bs.length : Int) - ((i + 3 : Nat) : Int)) = ((q.length : Nat) : Int) := by rw [w64 _ (by omega) (by omega)]; omega
    (repeat (refine st_q rfl rfl rfl ?_))
    rw [Zam, e2]
    (refine Z8y ?_; (repeat (first | refine Z9v rfl ?_ | refine Z9w ?_)); refine Z9u ?_)
    refine Za3 (p := (n : Int) > (q.length : Int)) rfl (fun hn => ?_) (fun hn => ?_)
    · rw [if_pos (by omega)] at hD
      rw [← hD]
      refine Z9z ?_
      (repeat (refine st_q rfl rfl rfl ?_))
      (refine Z8y ?_; (repeat (first | refine Z9v rfl ?_ | refine Z9w ?_)); refine Z9u ?_)
      refine Z8d ?_
      exact ares rfl hsub (OwnR.nil σ 3)
    rw [if_neg (by omega)] at hD
    refine Za4 ?_
    replace hn : n ≤ q.length := by
      have hn2 : ¬ ((n : Int) > (q.length : Int)) := hn
      omega
    have htl : (q.take n).length = n := by rw [List.length_take]; omega
    have hdr : bs.drop (i + 3 + n) = q.drop n := by rw [← List.drop_drop, ← List.drop_drop, hl, hq]
    have e4 : IntKind.wrap .i64 (((i + 3 : Nat) : Int) + (n : Int)) = ((i + 3 + n : Nat) : Int) := by rw [w64 _ (by omega) (by omega)]; omega
    refine Z9z ?_
    (repeat (first | refine st_q rfl rfl rfl ?_ | refine Z8v rfl (st_q rfl rfl rfl ?_) | refine Z8w rfl ?_ | refine Z8x rfl ?_))
    rw [e4]
    refine Z99 (a := ((i + 3 : Nat) : Int)) (b := ((i + 3 + n : Nat) : Int)) rfl rfl (by rw [Zam]; omega) ?_
    have e5 : ((bytes bs).drop ((i + 3 : Nat) : Int).toNat).take (((i + 3 + n : Nat) : Int) - ((i + 3 : Nat) : Int)).toNat = bytes (q.take n) := by
      rw [Int.toNat_natCast, show (((i + 3 + n : Nat) : Int) - ((i + 3 : Nat) : Int)).toNat = n by omega, Zap, Zaq, ← List.drop_drop, hl, hq]
    rw [e5]
    (repeat (refine st_q rfl rfl rfl ?_))
    (refine Z8y ?_; (repeat (first | refine Z9v rfl ?_ | refine Z9w ?_)); refine Z9u ?_)
    refine Za5 ?_
    refine Zad ?_
    cases og with
    | true =>
      simp only [true_and, if_true, ne_eq, not_true_eq_false, if_false] at hD
      (repeat (first | refine st_q rfl rfl rfl ?_ | refine Z8v rfl (st_q rfl rfl rfl ?_) | refine Z8w rfl ?_ | refine Z8x rfl ?_))
      (refine Z8y ?_; (repeat (first | refine Z9v rfl ?_ | refine Z9w ?_)); refine Z9u ?_)
      refine Za3 (p := (n : Int) > (s : Int)) rfl (fun h5 => ?_) (fun h5 => ?_)
      · rw [if_pos (by omega)] at hD
        rw [← hD]
        refine Z9z ?_
        (repeat (refine st_q rfl rfl rfl ?_))
        (refine Z8y ?_; (repeat (first | refine Z9v rfl ?_ | refine Z9w ?_)); refine Z9u ?_)
        refine Z8d ?_
        exact ares rfl hsub (OwnR.nil σ 4)
      rw [if_neg (by omega)] at hD
      refine Za4 ?_
      refine Za5 ?_
      refine Zad ?_
      (repeat (first | refine st_q rfl rfl rfl ?_ | refine Z8v rfl (st_q rfl rfl rfl ?_) | refine Z8w rfl ?_ | refine Z8x rfl ?_))
      (refine Z8y ?_; (repeat (first | refine Z9v rfl ?_ | refine Z9w ?_)); refine Z9u ?_)
      refine Z8f (t := false) rfl (fun e => by cases e) (fun _ => ?_)
      refine Za4 ?_
      (refine Z9y (keep := [0, 2, 3, 10, 11, 12, 15]) ?_; ((repeat (first | refine Z9v rfl ?_ | refine Z9w ?_)); refine Z9u ?_))
      exact Zra (i := i + 3) (n := n) (by omega) ho (by omega) hb hom (by omega) (by rw [hdr, List.length_drop]; omega) (by rw [hdr]; exact hD)
    | false =>
      simp only [Bool.false_eq_true, false_and, if_false] at hD
      (repeat (first | refine st_q rfl rfl rfl ?_ | refine Z8v rfl (st_q rfl rfl rfl ?_) | refine Z8w rfl ?_ | refine Z8x rfl ?_))
      (refine Z8y ?_; (repeat (first | refine Z9v rfl ?_ | refine Z9w ?_)); refine Z9u ?_)
      refine Z8f (t := false) rfl (fun e => by cases e) (fun _ => ?_)
      refine Za4 ?_
      refine Za5 ?_
      refine Zad ?_
      (repeat (first | refine st_q rfl rfl rfl ?_ | refine Z8v rfl (st_q rfl rfl rfl ?_) | refine Z8w rfl ?_ | refine Z8x rfl ?_))
      (refine Z8y ?_; (repeat (first | refine Z9v rfl ?_ | refine Z9w ?_)); refine Z9u ?_)
      refine Z8f (t := true) rfl (fun _ => ?_) (fun e => by cases e)
      refine Z9z ?_
      refine st_q rfl rfl rfl ?_
      refine st_q rfl rfl rfl ?_
      refine Z9t rfl (Zoa _ (by omega)) ?_
      have hul := Zr6 (s := s) (l := q.take n)
      generalize hu : Zfd (s : Int) (q.take n) = u at hD hul ⊢
      obtain ⟨e, xs⟩ := u
      (repeat (refine st_q rfl rfl rfl ?_))
      (refine Z8y ?_; (repeat (first | refine Z9v rfl ?_ | refine Z9w ?_)); refine Z9u ?_)
      refine Za5 ?_
      refine Zad ?_
      (repeat (refine st_q rfl rfl rfl ?_))
      (refine Z8y ?_; (repeat (first | refine Z9v rfl ?_ | refine Z9w ?_)); refine Z9u ?_)
      refine Za3 (p := (e : Int) ≠ 0) rfl (fun h6 => ?_) (fun h6 => ?_)
      · rw [if_pos (by simpa using (by omega : e ≠ 0))] at hD
        rw [← hD]
        refine Z9z ?_
        (repeat (refine st_q rfl rfl rfl ?_))
        (refine Z8y ?_; (repeat (first | refine Z9v rfl ?_ | refine Z9w ?_)); refine Z9u ?_)
        refine Z8d ?_
        exact ares rfl hsub (OwnR.nil σ e)
      rw [if_neg (by simpa using (by omega : e = 0))] at hD
      refine Za4 ?_
      refine Zad ?_
      (repeat (refine st_q rfl rfl rfl ?_))
      (refine Z8y ?_; (repeat (first | refine Z9v rfl ?_ | refine Z9w ?_)); refine Z9u ?_)
      (refine Z9y (keep := [0, 2, 3, 10, 11, 12, 15]) ?_; ((repeat (first | refine Z9v rfl ?_ | refine Z9w ?_)); refine Z9u ?_))
      exact Zra (i := i + 3) (n := n) (by omega) ho (by omega) hb hom (by have hul' : xs.length ≤ 1048576 := hul; omega) (by rw [hdr, List.length_drop]; omega) (by rw [hdr]; exact hD)
  by_cases h0 : codec = 0
  · (rw [show decide (codec ≠ 0) = false from decide_eq_false (by omega)])
    (repeat (first | refine st_q rfl rfl rfl ?_ | refine Z8v rfl (st_q rfl rfl rfl ?_) | refine Z8w rfl ?_ | refine Z8x rfl ?_))
    (refine Z8y ?_; (repeat (first | refine Z9v rfl ?_ | refine Z9w ?_)); refine Z9u ?_)
    refine Z8f (t := false) rfl (fun e => by cases e) (fun _ => ?_)
    refine Za4 ?_
    (refine Z9y (keep := [0, 1, 2, 3]) ?_; ((repeat (first | refine Z9v rfl ?_ | refine Z9w ?_)); refine Z9u ?_))
    exact hgo _ (FSub.refl _)
  · (rw [show decide (codec ≠ 0) = true from decide_eq_true (by omega)])
    (repeat (first | refine st_q rfl rfl rfl ?_ | refine Z8v rfl (st_q rfl rfl rfl ?_) | refine Z8w rfl ?_ | refine Z8x rfl ?_))
    (rw [show decide (codec ≠ 4) = false from decide_eq_false (by omega)])
    (repeat (first | refine st_q rfl rfl rfl ?_ | refine Z8v rfl (st_q rfl rfl rfl ?_) | refine Z8w rfl ?_ | refine Z8x rfl ?_))
    (refine Z8y ?_; (repeat (first | refine Z9v rfl ?_ | refine Z9w ?_)); refine Z9u ?_)
    refine Z8f (t := false) rfl (fun e => by cases e) (fun _ => ?_)
    refine Za4 ?_
    (refine Z9y (keep := [0, 1, 2, 3]) ?_; ((repeat (first | refine Z9v rfl ?_ | refine Z9w ?_)); refine Z9u ?_))
    exact hgo _ (FSub.refl _)
theorem Zrc {σ : Zc} {bs : List UInt8} {f : Bool} {codec size most : Int} (hb : bs.length ≤ 140737488000000) :
    Z1q Try.prog Zcm [.slc 1 (bytes bs) f, .int .i64 codec, .int .i64 size, .int .i64 most] σ fun r σ' => r = tupW (decF bs codec size most) ∧ σ' = σ := OwnR.frz (Zrb hb)
def Zrd (bs : List UInt8) (f : Bool) (codec : Int) (σ : Zc) (k : Nat) (F : Z26) (σ' : Zc) : Prop :=
  ∃ (i c : Nat), F = fset 0 (some (.slc 1 (bytes bs) f)) (fset 1 (some (.int .i64 codec)) (fset 6 (some (.int .i64 c)) (fset 7 (some (.int .i64 i)) Z27))) ∧ σ' = σ ∧ i ≤ bs.length ∧ c ≤ i ∧ k = (bs.drop i).length ∧ (codec = 0 → c = 0 ∧ i = 0) ∧ (codec = 4 → cntC (bs.drop i) c = cntC bs 0)
theorem Zre {σ : Zc} {bs : List UInt8} {f : Bool} {codec : Int} (hb : bs.length ≤ 140737488000000) :
    Z1q Try.prog Zco [.slc 1 (bytes bs) f, .int .i64 codec] σ fun r σ' => r = .tup [.int .i64 (cntF bs codec).1, .int .i64 (cntF bs codec).2] ∧ σ' = σ := by
  refine Z8t rfl Zr0 (Nat.le_of_ble_eq_true rfl) ?_
  refine Z9z ?_
  (repeat (refine st_q rfl rfl rfl ?_))
  (refine Z8y ?_; (repeat (first | refine Z9v rfl ?_ | refine Z9w ?_)); refine Z9u ?_)
  refine Za5 ?_
  refine Zad ?_
  (repeat (first | refine st_q rfl rfl rfl ?_ | refine Z8v rfl (st_q rfl rfl rfl ?_) | refine Z8w rfl ?_ | refine Z8x rfl ?_))
  by_cases hc : codec = 0 ∨ codec = 4
  case neg =>
    rw [cntF, if_pos hc]
    (rw [show decide (codec ≠ 0) = true from decide_eq_true (by omega)])
    (repeat (first | refine st_q rfl rfl rfl ?_ | refine Z8v rfl (st_q rfl rfl rfl ?_) | refine Z8w rfl ?_ | refine Z8x rfl ?_))
    (refine Z8y ?_; (repeat (first | refine Z9v rfl ?_ | refine Z9w ?_)); refine Z9u ?_)
    refine Za3 (p := codec ≠ 4) rfl (fun _ => ?_) (fun e => absurd hc (by omega))
    refine Z9z ?_
    (repeat (refine st_q rfl rfl rfl ?_))
    (refine Z8y ?_; (repeat (first | refine Z9v rfl ?_ | refine Z9w ?_)); refine Z9u ?_)
    refine Z8d ?_
    exact ares rfl (HSub.refl _) ⟨rfl, rfl⟩
  have hgo : ∀ F : Z26, FSub (fset 0 (some (.slc 1 (bytes bs) f)) (fset 1 (some (.int .i64 codec)) Z27)) F → AWp Try.prog Zqw.n (Zqw.code.snd 2) (ARet Zqw.res fun r σ' => r = .tup [.int .i64 (cntF bs codec).1, .int .i64 (cntF bs codec).2] ∧ σ' = σ) F σ := fun F hF => by
    refine Z8a hF (HSub.refl _) ?_
    rw [cntF, if_neg (fun hh => hh hc)]
    refine Z9z ?_
    (repeat (refine st_q rfl rfl rfl ?_))
    (refine Z8y ?_; (repeat (first | refine Z9v rfl ?_ | refine Z9w ?_)); refine Z9u ?_)
    refine Z9z ?_
    (repeat (refine st_q rfl rfl rfl ?_))
    (refine Z8y ?_; (repeat (first | refine Z9v rfl ?_ | refine Z9w ?_)); refine Z9u ?_)
    refine Za6 ?_
    refine Zaa (Zrd bs f codec σ) (n := bs.length) ⟨0, 0, rfl, rfl, by omega, by omega, by simp, fun _ => ⟨rfl, rfl⟩, fun _ => by simp⟩ ?_
    rintro k F σ' ⟨i, c, rfl, rfl, hi, hci, rfl, hZ, hD⟩
    refine Za5 ?_
    refine Zad ?_
    (repeat (first | refine st_q rfl rfl rfl ?_ | refine Z8v rfl (st_q rfl rfl rfl ?_) | refine Z8w rfl ?_ | refine Z8x rfl ?_))
    by_cases h0 : codec = 0
    · (rw [show decide (codec = 4) = false from decide_eq_false (by omega)])
      (repeat (first | refine st_q rfl rfl rfl ?_ | refine Z8v rfl (st_q rfl rfl rfl ?_) | refine Z8w rfl ?_ | refine Z8x rfl ?_))
      (refine Z8y ?_; (repeat (first | refine Z9v rfl ?_ | refine Z9w ?_)); refine Z9u ?_)
      refine Z8f (t := false) rfl (fun e => by cases e) (fun _ => ?_)
      refine Zbo (fun _ _ => rfl) ?_
      refine Z9z ?_
      (repeat (refine st_q rfl rfl rfl ?_))
      (refine Z8y ?_; (repeat (first | refine Z9v rfl ?_ | refine Z9w ?_)); refine Z9u ?_)
      refine Z8d ?_
      rw [if_pos h0]
      refine ares rfl (HSub.refl _) ⟨?_, rfl⟩
      rw [(hZ h0).1]; rfl
    have h4 : codec = 4 := by omega
    have hD := hD h4
    rw [if_neg h0]
    (rw [show decide (codec = 4) = true from decide_eq_true (by omega)])
    (repeat (first | refine st_q rfl rfl rfl ?_ | refine Z8v rfl (st_q rfl rfl rfl ?_) | refine Z8w rfl ?_ | refine Z8x rfl ?_))
    rw [Zam]
    (repeat (first | refine st_q rfl rfl rfl ?_ | refine Z8v rfl (st_q rfl rfl rfl ?_) | refine Z8w rfl ?_ | refine Z8x rfl ?_))
    generalize hl : bs.drop i = l at hD ⊢
    have hll := Zgb hl hi
    (refine Z8y ?_; (repeat (first | refine Z9v rfl ?_ | refine Z9w ?_)); refine Z9u ?_)
    refine Za3 (p := (i : Int) < (bs.length : Int)) rfl (fun h => ?_) (fun h => ?_)
    case refine_2 =>
      have e : l = [] := List.length_eq_zero_iff.1 (by omega)
      subst e
      rw [Zmz] at hD
      rw [← hD]
      refine Zbo (fun _ _ => rfl) ?_
      refine Z9z ?_
      (repeat (refine st_q rfl rfl rfl ?_))
      (refine Z8y ?_; (repeat (first | refine Z9v rfl ?_ | refine Z9w ?_)); refine Z9u ?_)
      refine Z8d ?_
      exact ares rfl (HSub.refl _) ⟨rfl, rfl⟩
    refine Za4 ?_
    have hl0 : l ≠ [] := fun e => by subst e; simp at hll; omega
    have hp := Zo4 hi hl
    refine Z8h ?_
    refine Z9z ?_
    refine st_q rfl rfl rfl ?_
    refine st_q rfl rfl rfl ?_
    refine Z9t rfl (Zo2 (i : Int) (by omega)) ?_
    rw [hp]
    cases hr : rdH l with
    | none =>
      rw [Zn3 hl0 hr] at hD
      rw [← hD]
      (repeat (refine st_q rfl rfl rfl ?_))
      (refine Z8y ?_; (repeat (first | refine Z9v rfl ?_ | refine Z9w ?_)); refine Z9u ?_)
      refine Za5 ?_
      refine Zad ?_
      (repeat (refine st_q rfl rfl rfl ?_))
      (refine Z8y ?_; (repeat (first | refine Z9v rfl ?_ | refine Z9w ?_)); refine Z9u ?_)
      refine Z8f (t := true) rfl (fun _ => ?_) (fun e => by cases e)
      refine Z9z ?_
      (repeat (refine st_q rfl rfl rfl ?_))
      (refine Z8y ?_; (repeat (first | refine Z9v rfl ?_ | refine Z9w ?_)); refine Z9u ?_)
      refine Z8d ?_
      exact ares rfl (HSub.refl _) ⟨rfl, rfl⟩
    | some x =>
    obtain ⟨n, og, q⟩ := x
    rw [Zn2 hr] at hD
    obtain ⟨hn', h3, hq⟩ := Zo5 hr
    have hql : q.length = l.length - 3 := by rw [hq, List.length_drop]
    (repeat (refine st_q rfl rfl rfl ?_))
    (refine Z8y ?_; (repeat (first | refine Z9v rfl ?_ | refine Z9w ?_)); refine Z9u ?_)
    refine Za5 ?_
    refine Zad ?_
    (repeat (refine st_q rfl rfl rfl ?_))
    (refine Z8y ?_; (repeat (first | refine Z9v rfl ?_ | refine Z9w ?_)); refine Z9u ?_)
    refine Z8f (t := false) rfl (fun e => by cases e) (fun _ => ?_)
    refine Za4 ?_
    have e1 : IntKind.wrap .i64 ((i : Int) + 3) = ((i + 3 : Nat) : Int) := by rw [w64 _ (by omega) (by omega)]; omega
    refine Z9z ?_
    (repeat (refine st_q rfl rfl rfl ?_))
    rw [e1]
    (repeat (refine st_q rfl rfl rfl ?_))
    (refine Z8y ?_; (repeat (first | refine Z9v rfl ?_ | refine Z9w ?_)); refine Z9u ?_)
    refine Za5 ?_
    refine Zad ?_
    have e2 : IntKind.wrap .i64 ((bs.length : Int) - ((i + 3 : Nat) : Int)) = ((q.length : Nat) : Int) := by rw [w64 _ (by omega) (by omega)]; omega
    (repeat (refine st_q rfl rfl rfl ?_))
    rw [Zam, e2]
    (refine Z8y ?_; (repeat (first | refine Z9v rfl ?_ | refine Z9w ?_)); refine Z9u ?_)
    refine Za3 (p := (n : Int) > (q.length : Int)) rfl (fun hn => ?_) (fun hn => ?_)
    · rw [if_pos (by omega)] at hD
      rw [← hD]
      refine Z9z ?_
      (repeat (refine st_q rfl rfl rfl ?_))
      (refine Z8y ?_; (repeat (first | refine Z9v rfl ?_ | refine Z9w ?_)); refine Z9u ?_)
      refine Z8d ?_
      exact ares rfl (HSub.refl _) ⟨rfl, rfl⟩
    rw [if_neg (by omega)] at hD
    refine Za4 ?_
    have hdr : bs.drop (i + 3 + n) = q.drop n := by rw [← List.drop_drop, ← List.drop_drop, hl, hq]
    have e4 : IntKind.wrap .i64 (((i + 3 : Nat) : Int) + (n : Int)) = ((i + 3 + n : Nat) : Int) := by rw [w64 _ (by omega) (by omega)]; omega
    have e3 : IntKind.wrap .i64 ((c : Int) + 1) = ((c + 1 : Nat) : Int) := by rw [w64 _ (by omega) (by omega)]; omega
    refine Z9z ?_
    (repeat (refine st_q rfl rfl rfl ?_))
    rw [e4]
    (repeat (refine st_q rfl rfl rfl ?_))
    (refine Z8y ?_; (repeat (first | refine Z9v rfl ?_ | refine Z9w ?_)); refine Z9u ?_)
    refine awp_region ?_
    (repeat (refine st_q rfl rfl rfl ?_))
    rw [e3]
    (repeat (refine st_q rfl rfl rfl ?_))
    refine Z8y ?_
    refine Zac (keep := [0, 1, 6, 7]) ?_
    ((repeat (first | refine Z9v rfl ?_ | refine Z9w ?_)); refine Z9u ?_)
    exact ⟨_, _, HSub.refl _, ⟨i + 3 + n, c + 1, rfl, rfl, by omega, by omega, rfl, fun h => absurd h h0, fun _ => by rw [hdr]; exact hD⟩, by rw [hdr, List.length_drop]; omega⟩
  by_cases h0 : codec = 0
  · (rw [show decide (codec ≠ 0) = false from decide_eq_false (by omega)])
    (repeat (first | refine st_q rfl rfl rfl ?_ | refine Z8v rfl (st_q rfl rfl rfl ?_) | refine Z8w rfl ?_ | refine Z8x rfl ?_))
    (refine Z8y ?_; (repeat (first | refine Z9v rfl ?_ | refine Z9w ?_)); refine Z9u ?_)
    refine Z8f (t := false) rfl (fun e => by cases e) (fun _ => ?_)
    refine Za4 ?_
    (refine Z9y (keep := [0, 1]) ?_; ((repeat (first | refine Z9v rfl ?_ | refine Z9w ?_)); refine Z9u ?_))
    exact hgo _ (FSub.refl _)
  · (rw [show decide (codec ≠ 0) = true from decide_eq_true (by omega)])
    (repeat (first | refine st_q rfl rfl rfl ?_ | refine Z8v rfl (st_q rfl rfl rfl ?_) | refine Z8w rfl ?_ | refine Z8x rfl ?_))
    (rw [show decide (codec ≠ 4) = false from decide_eq_false (by omega)])
    (repeat (first | refine st_q rfl rfl rfl ?_ | refine Z8v rfl (st_q rfl rfl rfl ?_) | refine Z8w rfl ?_ | refine Z8x rfl ?_))
    (refine Z8y ?_; (repeat (first | refine Z9v rfl ?_ | refine Z9w ?_)); refine Z9u ?_)
    refine Z8f (t := false) rfl (fun e => by cases e) (fun _ => ?_)
    refine Za4 ?_
    (refine Z9y (keep := [0, 1]) ?_; ((repeat (first | refine Z9v rfl ?_ | refine Z9w ?_)); refine Z9u ?_))
    exact hgo _ (FSub.refl _)
end Go.Abs

