/- Part Q of a proof: merged by program. -/
import Derived.Test.YtgmefkhincnajaaPkL
import Derived.Test.YtgmefkhincnajaaProg
import Derived.KernelRfl
namespace Go.Abs
open Go
def Z1m8 : List Z2a := [
  ⟨some 3, (.box 6), [.t 0], none⟩,
  ⟨some 6, .mov, [.c (.bool false)], none⟩]
def Z1m9 : List Z2a := [
  ⟨some 16, (.call Zd5), [], none⟩,
  ⟨some 17, .unot, [.t 16], none⟩]
def Z1ma : List Z2a := [
  ⟨some 6, .mov, [.c (.bool false)], none⟩]
def Z1mb : List Z2a := [
  ⟨some 18, (.load true 6), [.t 3], none⟩,
  ⟨some 19, .mov, [.t 2], none⟩,
  ⟨some 20, (.call Zcp), [.t 18, .t 19], none⟩,
  ⟨some 21, .unot, [.t 20], none⟩,
  ⟨some 22, .mov, [.t 21], none⟩,
  ⟨some 23, .mov, [.t 1], some (22, false)⟩,
  ⟨some 24, (.call Zd6), [.t 23], some (22, false)⟩,
  ⟨some 25, .unot, [.t 24], some (22, false)⟩,
  ⟨some 26, .pick, [.t 22, .c (.bool true), .t 25], none⟩,
  ⟨some 27, .mov, [.t 26], none⟩,
  ⟨some 28, (.load true 6), [.t 3], some (27, false)⟩,
  ⟨some 29, (.call Zd7), [.t 28], some (27, false)⟩,
  ⟨some 30, (.bin .neq), [.t 29, .c (.int .i64 0)], some (27, false)⟩,
  ⟨some 31, .pick, [.t 27, .c (.bool true), .t 30], none⟩]
def Z1mc : List Z2a := [
  ⟨some 6, .mov, [.c (.bool true)], none⟩]
def Z1md : List Z2a := [
  ⟨some 32, (.load true 6), [.t 3], none⟩,
  ⟨some 33, (.call Zcr), [.t 32], none⟩,
  ⟨some 7, .mov, [.t 33], none⟩]
def Z1me : List Z2a := [
  ⟨some 34, (.load true 6), [.t 3], none⟩,
  ⟨some 35, (.call Zcs), [.t 34], none⟩,
  ⟨some 8, .mov, [.t 35], none⟩]
def Z1mf : List Z2a := [
  ⟨some 37, (.load true 6), [.t 3], none⟩,
  ⟨some 38, .mov, [.t 2], none⟩,
  ⟨some 39, (.call Zcq), [.t 37, .t 38], none⟩,
  ⟨some 36, .mov, [.t 39], none⟩,
  ⟨some 40, (.ext 0), [.t 36], none⟩,
  ⟨some 41, (.ext 1), [.t 36], none⟩,
  ⟨some 9, .mov, [.t 40], none⟩,
  ⟨some 10, .mov, [.t 41], none⟩]
def Z1mg : List Z2a := [
  ⟨some 42, .mov, [.t 10], none⟩,
  ⟨some 43, (.bin .neq), [.t 42, .c (.int .i64 0)], none⟩,
  ⟨some 44, .mov, [.t 43], none⟩,
  ⟨some 45, .mov, [.t 7], some (44, false)⟩,
  ⟨some 46, .mov, [.t 1], some (44, false)⟩,
  ⟨some 47, (.call Zd9), [.t 46], some (44, false)⟩,
  ⟨some 48, (.call Zd8), [.t 45, .t 47], some (44, false)⟩,
  ⟨some 49, (.bin .neq), [.t 48, .c (.int .i64 0)], some (44, false)⟩,
  ⟨some 50, .pick, [.t 44, .c (.bool true), .t 49], none⟩]
def Z1mh : List Z2a := [
  ⟨some 6, .mov, [.c (.bool true)], none⟩]
def Z1mi : List Z2a := [
  ⟨some 11, .mov, [.c (.slc 0 [] true)], none⟩]
def Z1mj : List Z2a := [
  ⟨some 12, .mov, [.c (.slc 0 [] true)], none⟩]
def Z1mk : List Z2a := [
  ⟨some 13, .mov, [.c (.int .i64 0)], none⟩]
def Z1ml : List Z2a := [
  ⟨some 51, .mov, [.t 13], none⟩,
  ⟨some 52, .mov, [.t 7], none⟩,
  ⟨some 53, .lens, [.t 52], none⟩,
  ⟨some 54, (.bin .lss), [.t 51, .t 53], none⟩]
def Z1mm : List Z2a := [
  ⟨some 57, .mov, [.t 11], none⟩,
  ⟨some 58, .mov, [.t 7], none⟩,
  ⟨some 59, .mov, [.t 13], none⟩,
  ⟨some 60, (.iad 9), [.t 58, .t 59], none⟩,
  ⟨some 61, (.fad 0), [.t 60], none⟩,
  ⟨some 62, (.load true 6), [.t 61], none⟩,
  ⟨some 63, .mov, [.t 9], none⟩,
  ⟨some 64, .mov, [.t 13], none⟩,
  ⟨some 65, (.iad 5), [.t 63, .t 64], none⟩,
  ⟨some 66, (.load true 5), [.t 65], none⟩,
  ⟨some 67, (.call Zcx), [.t 62, .t 66], none⟩,
  ⟨some 68, (.bsl 15), [.t 67], none⟩,
  ⟨some 69, (.app 15 176), [.t 57, .t 68], none⟩,
  ⟨some 11, .mov, [.t 69], none⟩]
def Z1mn : List Z2a := [
  ⟨some 70, .mov, [.t 12], none⟩,
  ⟨some 71, .mov, [.t 11], none⟩,
  ⟨some 72, .mov, [.t 13], none⟩,
  ⟨some 73, (.iad 15), [.t 71, .t 72], none⟩,
  ⟨some 74, (.load true 15), [.t 73], none⟩,
  ⟨some 75, (.call Zda), [.t 74], none⟩,
  ⟨some 76, (.bsl 15), [.t 75], none⟩,
  ⟨some 77, (.app 15 176), [.t 70, .t 76], none⟩,
  ⟨some 12, .mov, [.t 77], none⟩]
def Z1mo : List Z2a := [
  ⟨some 55, .mov, [.t 13], none⟩,
  ⟨some 56, (.bin .add), [.t 55, .c (.int .i64 1)], none⟩,
  ⟨some 13, .mov, [.t 56], none⟩]
def Z1mp : Z2b := (.seq (.seq (.region Z1ml [1, 2, 7, 8, 9, 11, 12, 13, 54]) (.cond (.t 54) .skip (.exit 0))) (.seq (.block 1 (.seq (.region Z1mm [1, 2, 7, 8, 9, 11, 12, 13]) (.region Z1mn [1, 2, 7, 8, 9, 11, 12, 13]))) (.region Z1mo [1, 2, 7, 8, 9, 11, 12, 13])))
def Z1mq : List Z2a := [
  ⟨some 78, .mov, [.t 8], none⟩,
  ⟨some 79, .mov, [.t 1], none⟩,
  ⟨some 80, .mov, [.t 12], none⟩,
  ⟨some 81, (.call Zdb), [.t 78, .t 79, .t 80], none⟩,
  ⟨some 14, .mov, [.t 81], none⟩]
def Z1mr : List Z2a := [
  ⟨some 82, .mov, [.t 14], none⟩,
  ⟨some 83, .mov, [.t 7], none⟩,
  ⟨some 84, .mov, [.t 1], none⟩,
  ⟨some 85, (.call Zd9), [.t 84], none⟩,
  ⟨some 86, .mov, [.t 11], none⟩,
  ⟨some 87, (.call Zdc), [.t 83, .t 85, .t 86], none⟩,
  ⟨some 88, (.binb .neq), [.t 82, .t 87], none⟩]
def Z1ms : List Z2a := [
  ⟨some 6, .mov, [.c (.bool false)], none⟩]
def Z1mt : List Z2a := [
  ⟨some 15, .mov, [.c (.int .i64 0)], none⟩]
def Z1mu : List Z2a := [
  ⟨some 89, .mov, [.t 15], none⟩,
  ⟨some 90, .mov, [.t 2], none⟩,
  ⟨some 91, .lens, [.t 90], none⟩,
  ⟨some 92, (.bin .lss), [.t 89, .t 91], none⟩,
  ⟨some 93, .mov, [.t 92], none⟩,
  ⟨some 94, .mov, [.t 14], some (93, true)⟩,
  ⟨some 95, .unot, [.t 94], some (93, true)⟩,
  ⟨some 96, .pick, [.t 93, .t 95, .c (.bool false)], none⟩]
def Z1mv : List Z2a := [
  ⟨some 99, .mov, [.t 8], none⟩,
  ⟨some 100, .mov, [.t 1], none⟩,
  ⟨some 101, .mov, [.t 2], none⟩,
  ⟨some 102, .mov, [.t 15], none⟩,
  ⟨some 103, (.iad 5), [.t 101, .t 102], none⟩,
  ⟨some 104, (.load true 5), [.t 103], none⟩,
  ⟨some 105, (.call Zdd), [.t 99, .t 100, .t 104], none⟩,
  ⟨some 106, (.bin .eql), [.t 105, .c (.int .i64 1)], none⟩]
def Z1mw : List Z2a := [
  ⟨some 6, .mov, [.c (.bool false)], none⟩]
def Z1mx : List Z2a := [
  ⟨some 97, .mov, [.t 15], none⟩,
  ⟨some 98, (.bin .add), [.t 97, .c (.int .i64 1)], none⟩,
  ⟨some 15, .mov, [.t 98], none⟩]
def Z1my : Z2b := (.seq (.seq (.region Z1mu [1, 2, 8, 14, 15, 96]) (.cond (.t 96) .skip (.exit 2))) (.seq (.block 3 (.seq (.region Z1mv [1, 2, 8, 14, 15, 106]) (.cond (.t 106) (.seq (.region Z1mw [6]) .ret) .skip))) (.region Z1mx [1, 2, 8, 14, 15])))
def Z1mz : List Z2a := [
  ⟨some 6, .mov, [.c (.bool true)], none⟩]
def Z1n0 : Z2y := ⟨107, (.seq (.region Z1m8 [1, 2, 3]) (.seq (.seq (.region Z1m9 [1, 2, 3, 17]) (.cond (.t 17) (.seq (.region Z1ma [6]) .ret) .skip)) (.seq (.seq (.region Z1mb [1, 2, 3, 31]) (.cond (.t 31) (.seq (.region Z1mc [6]) .ret) .skip)) (.seq (.region Z1md [1, 2, 3, 7]) (.seq (.region Z1me [1, 2, 3, 7, 8]) (.seq (.region Z1mf [1, 2, 7, 8, 9, 10]) (.seq (.seq (.region Z1mg [1, 2, 7, 8, 9, 50]) (.cond (.t 50) (.seq (.region Z1mh [6]) .ret) .skip)) (.seq (.region Z1mi [1, 2, 7, 8, 9, 11]) (.seq (.region Z1mj [1, 2, 7, 8, 9, 11, 12]) (.seq (.seq (.region Z1mk [1, 2, 7, 8, 9, 11, 12, 13]) (.block 0 (.loop Z1mp))) (.seq (.region Z1mq [1, 2, 7, 8, 11, 14]) (.seq (.seq (.region Z1mr [1, 2, 8, 14, 88]) (.cond (.t 88) (.seq (.region Z1ms [6]) .ret) .skip)) (.seq (.seq (.region Z1mt [1, 2, 8, 14, 15]) (.block 2 (.loop Z1my))) (.seq (.region Z1mz [6]) .ret)))))))))))))), [.t 6]⟩
def Z1n1 : List Z2a := [
  ⟨some 1, (.box 15), [.t 0], none⟩,
  ⟨some 2, (.alloc (.agg [(.int .i64 0), (.bool false), (.bool false), (.bool false), (.int .i64 0), (.int .i64 0), (.slc 0 [] true), (.slc 0 [] true), (.bool false), (.int .i64 0), (.int .i64 0), (.slc 0 [] true), (.slc 0 [] true), (.bool false), (.int .i64 0)])), [], none⟩]
def Z1n2 : List Z2a := [
  ⟨some 3, (.fad 0), [.t 1], none⟩,
  ⟨some 4, (.load false 1), [.t 3], none⟩,
  ⟨some 5, (.fad 1), [.t 1], none⟩,
  ⟨some 6, (.load false 1), [.t 5], none⟩,
  ⟨some 7, (.fad 2), [.t 1], none⟩,
  ⟨some 8, (.load false 1), [.t 7], none⟩,
  ⟨some 9, (.fad 3), [.t 1], none⟩,
  ⟨some 10, (.load true 5), [.t 9], none⟩,
  ⟨some 11, (.fad 8), [.t 1], none⟩,
  ⟨some 12, (.load true 5), [.t 11], none⟩,
  ⟨some 13, (.fad 13), [.t 1], none⟩,
  ⟨some 14, (.load false 1), [.t 13], none⟩,
  ⟨some 15, (.fad 14), [.t 1], none⟩,
  ⟨some 16, (.load false 1), [.t 15], none⟩,
  ⟨some 17, (.bld [(.int .i64 0), (.bool false), (.bool false), (.bool false), (.int .i64 0), (.int .i64 0), (.slc 0 [] true), (.slc 0 [] true), (.bool false), (.int .i64 0), (.int .i64 0), (.slc 0 [] true), (.slc 0 [] true), (.bool false), (.int .i64 0)] [(0, 1), (1, 1), (2, 1), (3, 5), (8, 5), (13, 1), (14, 1)]), [.t 4, .t 6, .t 8, .t 10, .t 12, .t 14, .t 16], none⟩,
  ⟨none, (.store 15), [.t 2, .t 17], none⟩]
def Z1n3 : Z2y := ⟨18, (.seq (.region Z1n1 [1, 2]) (.seq (.region Z1n2 [2]) .ret)), [.cell 2 true 15]⟩
def Z1ia : List Z2a := [
  ⟨some 2, (.box 6), [.t 0], none⟩,
  ⟨some 3, (.box 5), [.t 1], none⟩,
  ⟨some 4, (.alloc (.agg [(.int .i64 0), (.bool false), (.bool false), (.bool false), (.int .i64 0), (.int .i64 0), (.slc 0 [] true), (.slc 0 [] true), (.bool false), (.int .i64 0), (.int .i64 0), (.slc 0 [] true), (.slc 0 [] true), (.bool false), (.int .i64 0)])), [], none⟩]
def Z1ib : List Z2a := [
  ⟨some 14, (.load true 5), [.t 3], none⟩,
  ⟨some 15, (.callp Zdm), [.t 14], none⟩,
  ⟨some 16, (.fad 0), [.t 2], none⟩,
  ⟨some 17, (.load false 1), [.t 16], none⟩,
  ⟨some 18, (.callp Ze9), [.t 17], none⟩,
  ⟨some 19, (.bld [(.int .i64 0), (.bool false), (.bool false), (.bool false), (.int .i64 0), (.int .i64 0), (.slc 0 [] true), (.slc 0 [] true), (.bool false), (.int .i64 0), (.int .i64 0), (.slc 0 [] true), (.slc 0 [] true), (.bool false), (.int .i64 0)] [(1, 1), (13, 1)]), [.t 15, .t 18], none⟩,
  ⟨some 5, (.alloc (.agg [(.int .i64 0), (.bool false), (.bool false), (.bool false), (.int .i64 0), (.int .i64 0), (.slc 0 [] true), (.slc 0 [] true), (.bool false), (.int .i64 0), (.int .i64 0), (.slc 0 [] true), (.slc 0 [] true), (.bool false), (.int .i64 0)])), [], none⟩,
  ⟨none, (.store 15), [.t 5, .t 19], none⟩]
def Z1ic : List Z2a := [
  ⟨some 6, .mov, [.c (.int .i64 0)], none⟩]
def Z1id : List Z2a := [
  ⟨some 7, .mov, [.c (.int .i64 0)], none⟩]
def Z1ie : List Z2a := [
  ⟨some 20, .mov, [.t 7], none⟩,
  ⟨some 21, (.fad 0), [.t 3], none⟩,
  ⟨some 22, (.load false 1), [.t 21], none⟩,
  ⟨some 23, .lens, [.t 22], none⟩,
  ⟨some 24, (.bin .lss), [.t 20, .t 23], none⟩]
def Z1if : List Z2a := [
  ⟨some 27, (.fad 0), [.t 3], none⟩,
  ⟨some 28, (.load false 1), [.t 27], none⟩,
  ⟨some 29, .mov, [.t 7], none⟩,
  ⟨some 30, (.iad 1), [.t 28, .t 29], none⟩,
  ⟨some 31, (.load false 1), [.t 30], none⟩,
  ⟨some 32, .unot, [.t 31], none⟩]
def Z1ig : List Z2a := [
  ⟨some 33, (.bld [(.bool false), (.int .i64 0), (.int .i64 0), (.slc 0 [] true), (.slc 0 [] true)] []), [], none⟩,
  ⟨some 8, (.alloc (.agg [(.bool false), (.int .i64 0), (.int .i64 0), (.slc 0 [] true), (.slc 0 [] true)])), [], none⟩,
  ⟨none, (.store 5), [.t 8, .t 33], none⟩]
def Z1ih : List Z2a := [
  ⟨some 9, .mov, [.c (.int .i64 0)], none⟩]
def Z1ii : List Z2a := [
  ⟨some 35, (.fad 0), [.t 2], none⟩,
  ⟨some 36, (.load false 1), [.t 35], none⟩,
  ⟨some 37, (.call Zea), [.t 36], none⟩,
  ⟨some 34, .mov, [.t 37], none⟩]
def Z1ij : List Z2a := [
  ⟨some 38, (.fad 3), [.t 3], none⟩,
  ⟨some 39, (.load false 1), [.t 38], none⟩,
  ⟨some 40, .mov, [.t 6], none⟩,
  ⟨some 41, (.iad 1), [.t 39, .t 40], none⟩,
  ⟨some 42, (.load false 1), [.t 41], none⟩,
  ⟨some 43, (.fad 3), [.t 8], none⟩,
  ⟨none, (.store 1), [.t 43, .t 42], none⟩]
def Z1ik : List Z2a := [
  ⟨some 44, (.fad 3), [.t 8], none⟩,
  ⟨some 45, (.load false 1), [.t 44], none⟩,
  ⟨some 46, .lens, [.t 45], none⟩,
  ⟨some 9, .mov, [.t 46], none⟩]
def Z1il : List Z2a := [
  ⟨some 48, (.fad 0), [.t 2], none⟩,
  ⟨some 49, (.load false 1), [.t 48], none⟩,
  ⟨some 50, (.call Zeb), [.t 49], none⟩,
  ⟨some 47, .mov, [.t 50], none⟩]
def Z1im : List Z2a := [
  ⟨some 51, (.fad 1), [.t 3], none⟩,
  ⟨some 52, (.load false 1), [.t 51], none⟩,
  ⟨some 53, .mov, [.t 6], none⟩,
  ⟨some 54, (.iad 1), [.t 52, .t 53], none⟩,
  ⟨some 55, (.load false 1), [.t 54], none⟩,
  ⟨some 56, (.fad 1), [.t 8], none⟩,
  ⟨none, (.store 1), [.t 56, .t 55], none⟩]
def Z1in : List Z2a := [
  ⟨some 57, (.fad 1), [.t 8], none⟩,
  ⟨some 58, (.load false 1), [.t 57], none⟩,
  ⟨some 9, .mov, [.t 58], none⟩]
def Z1io : List Z2a := [
  ⟨some 59, (.fad 0), [.t 2], none⟩,
  ⟨some 60, (.load false 1), [.t 59], none⟩,
  ⟨some 61, (.bin .eql), [.t 60, .c (.int .i64 9)], none⟩]
def Z1ip : List Z2a := [
  ⟨some 62, (.fad 2), [.t 3], none⟩,
  ⟨some 63, (.load false 1), [.t 62], none⟩,
  ⟨some 64, .mov, [.t 6], none⟩,
  ⟨some 65, (.iad 1), [.t 63, .t 64], none⟩,
  ⟨some 66, (.load false 1), [.t 65], none⟩,
  ⟨some 67, (.fad 2), [.t 8], none⟩,
  ⟨none, (.store 1), [.t 67, .t 66], none⟩]
def Z1iq : List Z2a := [
  ⟨some 68, .mov, [.t 6], none⟩,
  ⟨some 69, (.bin .add), [.t 68, .c (.int .i64 1)], none⟩,
  ⟨some 6, .mov, [.t 69], none⟩]
def Z1ir : List Z2a := [
  ⟨some 70, (.fad 0), [.t 5], none⟩,
  ⟨some 71, (.load false 1), [.t 70], none⟩,
  ⟨some 72, (.bin .add), [.t 71, .c (.int .i64 1)], none⟩,
  ⟨some 73, (.fad 0), [.t 5], none⟩,
  ⟨none, (.store 1), [.t 73, .t 72], none⟩]
def Z1is : List Z2a := [
  ⟨some 74, (.fad 0), [.t 2], none⟩,
  ⟨some 75, (.load false 1), [.t 74], none⟩,
  ⟨some 76, (.call Zec), [.t 75], none⟩]
def Z1it : List Z2a := [
  ⟨some 78, (.load true 6), [.t 2], none⟩,
  ⟨some 79, (.load true 5), [.t 8], none⟩,
  ⟨some 80, (.fad 3), [.t 5], none⟩,
  ⟨some 81, (.load true 5), [.t 80], none⟩,
  ⟨some 82, (.call Zed), [.t 78, .t 79, .t 81], none⟩,
  ⟨some 77, .mov, [.t 82], none⟩,
  ⟨some 83, (.ext 0), [.t 77], none⟩,
  ⟨some 84, (.ext 1), [.t 77], none⟩,
  ⟨some 10, .mov, [.t 83], none⟩,
  ⟨some 11, .mov, [.t 84], none⟩]
def Z1iu : List Z2a := [
  ⟨some 86, (.load true 6), [.t 2], none⟩,
  ⟨some 87, (.load true 5), [.t 8], none⟩,
  ⟨some 88, (.fad 8), [.t 5], none⟩,
  ⟨some 89, (.load true 5), [.t 88], none⟩,
  ⟨some 90, (.call Zed), [.t 86, .t 87, .t 89], none⟩,
  ⟨some 85, .mov, [.t 90], none⟩,
  ⟨some 91, (.ext 0), [.t 85], none⟩,
  ⟨some 92, (.ext 1), [.t 85], none⟩,
  ⟨some 12, .mov, [.t 91], none⟩,
  ⟨some 13, .mov, [.t 92], none⟩]
def Z1iv : List Z2a := [
  ⟨some 93, (.fad 2), [.t 5], none⟩,
  ⟨some 94, (.load false 1), [.t 93], none⟩,
  ⟨some 95, .unot, [.t 94], none⟩,
  ⟨some 96, .mov, [.t 95], none⟩,
  ⟨some 97, .mov, [.t 10], some (96, false)⟩,
  ⟨some 98, (.bin .lss), [.t 97, .c (.int .i64 0)], some (96, false)⟩,
  ⟨some 99, .pick, [.t 96, .c (.bool true), .t 98], none⟩]
def Z1iw : List Z2a := [
  ⟨some 100, (.load true 5), [.t 8], none⟩,
  ⟨some 101, (.fad 3), [.t 5], none⟩,
  ⟨none, (.store 5), [.t 101, .t 100], none⟩]
def Z1ix : List Z2a := [
  ⟨some 102, (.fad 2), [.t 5], none⟩,
  ⟨some 103, (.load false 1), [.t 102], none⟩,
  ⟨some 104, .unot, [.t 103], none⟩,
  ⟨some 105, .mov, [.t 104], none⟩,
  ⟨some 106, .mov, [.t 12], some (105, false)⟩,
  ⟨some 107, (.bin .gtr), [.t 106, .c (.int .i64 0)], some (105, false)⟩,
  ⟨some 108, .pick, [.t 105, .c (.bool true), .t 107], none⟩]
def Z1iy : List Z2a := [
  ⟨some 109, (.load true 5), [.t 8], none⟩,
  ⟨some 110, (.fad 8), [.t 5], none⟩,
  ⟨none, (.store 5), [.t 110, .t 109], none⟩]
def Z1iz : List Z2a := [
  ⟨some 111, (.fad 2), [.t 5], none⟩,
  ⟨none, (.store 1), [.t 111, .c (.bool true)], none⟩]
def Z1j0 : List Z2a := [
  ⟨some 112, (.fad 13), [.t 5], none⟩,
  ⟨some 113, (.load false 1), [.t 112], none⟩]
def Z1j1 : List Z2a := [
  ⟨some 115, (.fad 14), [.t 5], none⟩,
  ⟨some 116, (.load false 1), [.t 115], none⟩,
  ⟨some 117, .mov, [.t 9], none⟩,
  ⟨some 118, (.call Zd4), [.t 116, .t 117], none⟩,
  ⟨some 114, .mov, [.t 118], none⟩,
  ⟨some 119, (.ext 0), [.t 114], none⟩,
  ⟨some 120, (.ext 1), [.t 114], none⟩,
  ⟨some 121, (.fad 14), [.t 5], none⟩,
  ⟨none, (.store 1), [.t 121, .t 119], none⟩,
  ⟨some 122, (.fad 13), [.t 5], none⟩,
  ⟨none, (.store 1), [.t 122, .t 120], none⟩]
def Z1j2 : List Z2a := [
  ⟨some 25, .mov, [.t 7], none⟩,
  ⟨some 26, (.bin .add), [.t 25, .c (.int .i64 1)], none⟩,
  ⟨some 7, .mov, [.t 26], none⟩]
def Z1j3 : Z2b := (.seq (.seq (.region Z1ie [2, 3, 4, 5, 6, 7, 24]) (.cond (.t 24) .skip (.exit 0))) (.seq (.block 1 (.seq (.seq (.region Z1if [2, 3, 4, 5, 6, 7, 32]) (.cond (.t 32) (.exit 1) .skip)) (.seq (.region Z1ig [2, 3, 4, 5, 6, 7, 8]) (.seq (.region Z1ih [2, 3, 4, 5, 6, 7, 8, 9]) (.seq (.block 2 (.seq (.region Z1ii [2, 3, 4, 5, 6, 7, 8, 9, 34]) (.cond (.t 34) (.seq (.region Z1ij [2, 3, 4, 5, 6, 7, 8]) (.region Z1ik [2, 3, 4, 5, 6, 7, 8, 9])) (.seq (.region Z1il [2, 3, 4, 5, 6, 7, 8, 9, 47]) (.cond (.t 47) (.seq (.region Z1im [2, 3, 4, 5, 6, 7, 8]) (.seq (.region Z1in [2, 3, 4, 5, 6, 7, 8, 9]) (.seq (.region Z1io [2, 3, 4, 5, 6, 7, 8, 9, 61]) (.cond (.t 61) (.region Z1ip [2, 3, 4, 5, 6, 7, 8, 9]) .skip)))) .skip))))) (.seq (.region Z1iq [2, 3, 4, 5, 6, 7, 8, 9]) (.seq (.region Z1ir [2, 3, 4, 5, 6, 7, 8, 9]) (.seq (.seq (.region Z1is [2, 3, 4, 5, 6, 7, 8, 9, 76]) (.cond (.t 76) (.seq (.region Z1it [2, 3, 4, 5, 6, 7, 8, 9, 10]) (.seq (.region Z1iu [2, 3, 4, 5, 6, 7, 8, 9, 10, 12]) (.seq (.seq (.region Z1iv [2, 3, 4, 5, 6, 7, 8, 9, 12, 99]) (.cond (.t 99) (.region Z1iw [2, 3, 4, 5, 6, 7, 8, 9, 12]) .skip)) (.seq (.seq (.region Z1ix [2, 3, 4, 5, 6, 7, 8, 9, 108]) (.cond (.t 108) (.region Z1iy [2, 3, 4, 5, 6, 7, 9]) .skip)) (.region Z1iz [2, 3, 4, 5, 6, 7, 9]))))) .skip)) (.seq (.region Z1j0 [2, 3, 4, 5, 6, 7, 9, 113]) (.cond (.t 113) (.region Z1j1 [2, 3, 4, 5, 6, 7]) .skip)))))))))) (.region Z1j2 [2, 3, 4, 5, 6, 7])))
def Z1j4 : List Z2a := [
  ⟨some 123, (.load true 15), [.t 5], none⟩,
  ⟨none, (.store 15), [.t 4, .t 123], none⟩]
def Z1j5 : Z2y := ⟨124, (.seq (.region Z1ia [2, 3, 4]) (.seq (.region Z1ib [2, 3, 4, 5]) (.seq (.region Z1ic [2, 3, 4, 5, 6]) (.seq (.seq (.region Z1id [2, 3, 4, 5, 6, 7]) (.block 0 (.loop Z1j3))) (.seq (.region Z1j4 [4]) .ret))))), [.cell 4 true 15]⟩
end Go.Abs
namespace Go.Abs
open Go Go.Proofs
theorem Z1oq : Z2z Try.prog [] Zcd = some Z1n0.erase := by kernel_rfl
theorem Z1or : Z2z Try.prog [] Zda = some Z1n3.erase := by kernel_rfl
theorem Z1jo : Z2z Try.prog [(1, 4), (1, 1)] Zcx = some Z1j5.erase := by kernel_rfl
end Go.Abs
namespace Go.Abs
open Go Go.Proofs
set_option linter.unusedVariables false
set_option linter.unusedSimpArgs false
set_option maxHeartbeats 4000000
attribute [local irreducible] AWp aops KP
theorem HSub.of_eq {σ τ : Zc} (h : σ = τ) : HSub τ σ := h ▸ HSub.refl _
theorem Z1la {c : Z2b} {R R' : Z87} (hR : ∀ F σ, R .normal F σ = AWp Try.prog Z1j5.n c R' F σ) (s : Stt) (A : Int) (hs : -9223372036854775808 ≤ s.sum ∧ s.sum ≤ 9223372036854775807) (hA : -9223372036854775808 ≤ A ∧ A ≤ 9223372036854775807)
    (T C : Z0) (j i b4 b5 : Nat) (z : Zb) (σ : Zc)
    (h : AWp Try.prog Z1j5.n c R' (fset 2 (some T) (fset 3 (some C) (fset 4 (some (.ptr b4 0 0)) (fset 5 (some (.ptr b5 0 0)) (fset 6 (some (.int .i64 (j : Int))) (fset 7 (some (.int .i64 (i : Int))) Z27)))))) ((b5, .cells 15 [encS (Zxq s A)]) :: (b4, z) :: σ)) :
    AWp Try.prog Z1j5.n (((Z1j3.snd 1).fst.body).snd 7) R (fset 2 (some T) (fset 3 (some C) (fset 4 (some (.ptr b4 0 0)) (fset 5 (some (.ptr b5 0 0)) (fset 6 (some (.int .i64 (j : Int))) (fset 7 (some (.int .i64 (i : Int))) (fset 9 (some (.int .i64 A)) Z27))))))) ((b5, .cells 15 [encS s]) :: (b4, z) :: σ) := by
  obtain ⟨cnt, nul, has, mi, ma, su, sm⟩ := s
  refine awp_seq ?_
  refine Zbm (fun _ _ => rfl) ?_
  (repeat (refine st_q rfl rfl rfl ?_))
  refine Z92 rfl Z8z rfl rfl ?_
  (refine Z8y ?_; (repeat (first | refine Z9v rfl ?_ | refine Z9w ?_)); refine Z9u ?_)
  cases su with
  | false =>
    refine Z8f (t := false) rfl (fun e => by cases e) (fun _ => ?_)
    refine Zbn hR ?_
    (refine Z9y (keep := [2, 3, 4, 5, 6, 7]) ?_; ((repeat (first | refine Z9v rfl ?_ | refine Z9w ?_)); refine Z9u ?_))
    exact h
  | true =>
    refine Z8f (t := true) rfl (fun _ => ?_) (fun e => by cases e)
    refine Zbm hR ?_
    (repeat (refine st_q rfl rfl rfl ?_))
    refine Z92 rfl Z8z rfl rfl ?_
    (repeat (refine st_q rfl rfl rfl ?_))
    (first | refine Z9t rfl ((Zxo sm A hs hA) _) ?_ | refine Z8v rfl (Z9t rfl ((Zxo sm A hs hA) _) ?_) | refine Zbw rfl (Zxo sm A hs hA) ?_ | refine Z8v rfl (Zbw rfl (Zxo sm A hs hA) ?_))
    (repeat (refine st_q rfl rfl rfl ?_))
    (first | refine Z9a rfl Z8z rfl (by decide) (Z0.fit_iff.1 rfl) (fun h => by cases h) Z9b ?_ | refine Z8v rfl (Z9a rfl Z8z rfl (by decide) (Z0.fit_iff.1 rfl) (fun h => by cases h) Z9b ?_))
    (repeat (refine st_q rfl rfl rfl ?_))
    (first | refine Z9a rfl Z8z rfl (by decide) (Z0.fit_iff.1 rfl) (fun h => by cases h) Z9b ?_ | refine Z8v rfl (Z9a rfl Z8z rfl (by decide) (Z0.fit_iff.1 rfl) (fun h => by cases h) Z9b ?_))
    (refine Z8y ?_; (repeat (first | refine Z9v rfl ?_ | refine Z9w ?_)); refine Z9u ?_)
    exact h
theorem Z1lb {c : Z2b} {R R' : Z87} (hR : ∀ F σ, R .normal F σ = AWp Try.prog Z1j5.n c R' F σ) (s : Stt) (V : Vl) (A k : Int) (t1 t2 t3 t4 t5 : Z0) (ht1 : ∀ c ∈ [Z0.int .i64 k, t1, t2, t3, t4, t5], c.one = true)
    (hs : -9223372036854775808 ≤ s.sum ∧ s.sum ≤ 9223372036854775807) (hA : -9223372036854775808 ≤ A ∧ A ≤ 9223372036854775807) (hcnt : 0 ≤ s.count ∧ s.count ≤ 4000000000000000000) (C : Z0) (j i b4 b5 : Nat) (hj : j ≤ 4000000000000000000) (z : Zb) (σ : Zc)
    (h : AWp Try.prog Z1j5.n c R' (fset 2 (some (.iptr [.int .i64 k, t1, t2, t3, t4, t5])) (fset 3 (some C) (fset 4 (some (.ptr b4 0 0)) (fset 5 (some (.ptr b5 0 0)) (fset 6 (some (.int .i64 ((j + 1 : Nat) : Int))) (fset 7 (some (.int .i64 (i : Int))) Z27)))))) ((b5, .cells 15 [encS (stepR k V A s)]) :: (b4, z) :: σ)) :
    AWp Try.prog Z1j5.n (((Z1j3.snd 1).fst.body).snd 4) R (fset 2 (some (.iptr [.int .i64 k, t1, t2, t3, t4, t5])) (fset 3 (some C) (fset 4 (some (.ptr b4 0 0)) (fset 5 (some (.ptr b5 0 0)) (fset 6 (some (.int .i64 (j : Int))) (fset 7 (some (.int .i64 (i : Int))) (fset 8 (some (.iptr (Zm6 V))) (fset 9 (some (.int .i64 A)) Z27)))))))) ((b5, .cells 15 [encS s]) :: (b4, z) :: σ) := by
  obtain ⟨cnt, nul, has, mi, ma, su, sm⟩ := s
  have hcnt' : 0 ≤ cnt ∧ cnt ≤ 4000000000000000000 := hcnt
  have hs' : -9223372036854775808 ≤ sm ∧ sm ≤ 9223372036854775807 := hs
  have hc1 := Z1oy [.int .i64 k, t1, t2, t3, t4, t5] k rfl rfl ht1 V mi
  have hc2 := Z1oy [.int .i64 k, t1, t2, t3, t4, t5] k rfl rfl ht1 V ma
  simp only [Zm7] at hc1 hc2
  refine awp_seq ?_
  refine Zbm (fun _ _ => rfl) ?_
  (repeat (refine st_q rfl rfl rfl ?_))
  rw [show IntKind.wrap .i64 ((j : Int) + 1) = ((j + 1 : Nat) : Int) by rw [w64 _ (by omega) (by omega)]; omega]
  (refine Z8y ?_; (repeat (first | refine Z9v rfl ?_ | refine Z9w ?_)); refine Z9u ?_)
  refine awp_seq ?_
  refine Zbm (fun _ _ => rfl) ?_
  (repeat (refine st_q rfl rfl rfl ?_))
  refine Z92 rfl Z8z rfl rfl ?_
  (repeat (refine st_q rfl rfl rfl ?_))
  (first | refine Z9a rfl Z8z rfl (by decide) (Z0.fit_iff.1 rfl) (fun h => by cases h) Z9b ?_ | refine Z8v rfl (Z9a rfl Z8z rfl (by decide) (Z0.fit_iff.1 rfl) (fun h => by cases h) Z9b ?_))
  (refine Z8y ?_; (repeat (first | refine Z9v rfl ?_ | refine Z9w ?_)); refine Z9u ?_)
  refine Z8a (FSub.refl _) (τ := (b5, .cells 15 [encS ⟨cnt + 1, nul, has, mi, ma, su, sm⟩]) :: (b4, z) :: σ) (HSub.of_eq (by
    show (b5, Zb.cells 15 [encS ⟨IntKind.wrap .i64 (cnt + 1), nul, has, mi, ma, su, sm⟩]) :: (b4, z) :: σ = _
    rw [w64 _ (by omega) (by omega)])) ?_
  refine awp_seq ?_
  refine awp_seq ?_
  refine Zbm (fun _ _ => rfl) ?_
  (repeat (refine st_q rfl rfl rfl ?_))
  refine Z9t rfl (Z1l8 k _) ?_
  (refine Z8y ?_; (repeat (first | refine Z9v rfl ?_ | refine Z9w ?_)); refine Z9u ?_)
  cases hr : Zxk k with
  | false =>
    have e : stepR k V A ⟨cnt, nul, has, mi, ma, su, sm⟩ = Zxq ⟨cnt + 1, nul, has, mi, ma, su, sm⟩ A := by simp [stepR, Zy1, hr]
    rw [e] at h
    refine Z8f (t := false) rfl (fun e => by cases e) (fun _ => ?_)
    refine Zbn (fun _ _ => rfl) ?_
    (refine Z9y (keep := [2, 3, 4, 5, 6, 7, 9]) ?_; ((repeat (first | refine Z9v rfl ?_ | refine Z9w ?_)); refine Z9u ?_))
    exact Z1la hR ⟨cnt + 1, nul, has, mi, ma, su, sm⟩ A hs' hA _ _ _ _ _ _ _ _ h
  | true =>
    refine Z8f (t := true) rfl (fun _ => ?_) (fun e => by cases e)
    refine awp_seq ?_
    refine Zbm (fun _ _ => rfl) ?_
    (repeat (refine st_q rfl rfl rfl ?_))
    refine Z92 rfl Z8z rfl rfl ?_
    (first | refine Z9t rfl (hc1 _) ?_ | refine Z8v rfl (Z9t rfl (hc1 _) ?_) | refine Zbw rfl hc1 ?_ | refine Z8v rfl (Zbw rfl hc1 ?_))
    (repeat (refine st_q rfl rfl rfl ?_))
    (refine Z8y ?_; (repeat (first | refine Z9v rfl ?_ | refine Z9w ?_)); refine Z9u ?_)
    refine awp_seq ?_
    refine Zbm (fun _ _ => rfl) ?_
    (repeat (refine st_q rfl rfl rfl ?_))
    refine Z92 rfl Z8z rfl rfl ?_
    (first | refine Z9t rfl (hc2 _) ?_ | refine Z8v rfl (Z9t rfl (hc2 _) ?_) | refine Zbw rfl hc2 ?_ | refine Z8v rfl (Zbw rfl hc2 ?_))
    (repeat (refine st_q rfl rfl rfl ?_))
    (refine Z8y ?_; (repeat (first | refine Z9v rfl ?_ | refine Z9w ?_)); refine Z9u ?_)
    have fin : ∀ (mi' ma' : Vl), stepR k V A ⟨cnt, nul, has, mi, ma, su, sm⟩ = Zxq ⟨cnt + 1, nul, true, mi', ma', su, sm⟩ A → AWp Try.prog Z1j5.n (.region Z1iz [2, 3, 4, 5, 6, 7, 9]) (Z8e Try.prog Z1j5.n (((Z1j3.snd 1).fst.body).snd 7) R)
        (fset 2 (some (.iptr [.int .i64 k, t1, t2, t3, t4, t5])) (fset 3 (some C) (fset 4 (some (.ptr b4 0 0)) (fset 5 (some (.ptr b5 0 0)) (fset 6 (some (.int .i64 ((j + 1 : Nat) : Int))) (fset 7 (some (.int .i64 (i : Int))) (fset 9 (some (.int .i64 A)) Z27))))))) ((b5, .cells 15 [encS ⟨cnt + 1, nul, has, mi', ma', su, sm⟩]) :: (b4, z) :: σ) := by
      intro mi' ma' e
      rw [e] at h
      refine Zbm (fun _ _ => rfl) ?_
      (repeat (refine st_q rfl rfl rfl ?_))
      (first | refine Z9a rfl Z8z rfl (by decide) (Z0.fit_iff.1 rfl) (fun h => by cases h) Z9b ?_ | refine Z8v rfl (Z9a rfl Z8z rfl (by decide) (Z0.fit_iff.1 rfl) (fun h => by cases h) Z9b ?_))
      (refine Z8y ?_; (repeat (first | refine Z9v rfl ?_ | refine Z9w ?_)); refine Z9u ?_)
      exact Z1la hR ⟨cnt + 1, nul, true, mi', ma', su, sm⟩ A hs' hA _ _ _ _ _ _ _ _ h
    have second : ∀ (mi' : Vl), (∀ ma', (ma' = if has = false ∨ 0 < (cmpV k V ma).1 then V else ma) → stepR k V A ⟨cnt, nul, has, mi, ma, su, sm⟩ = Zxq ⟨cnt + 1, nul, true, mi', ma', su, sm⟩ A) →
        AWp Try.prog Z1j5.n (.seq (.seq (.region Z1ix [2, 3, 4, 5, 6, 7, 8, 9, 108]) (.cond (.t 108) (.region Z1iy [2, 3, 4, 5, 6, 7, 9]) .skip)) (.region Z1iz [2, 3, 4, 5, 6, 7, 9])) (Z8e Try.prog Z1j5.n (((Z1j3.snd 1).fst.body).snd 7) R)
        (fset 2 (some (.iptr [.int .i64 k, t1, t2, t3, t4, t5])) (fset 3 (some C) (fset 4 (some (.ptr b4 0 0)) (fset 5 (some (.ptr b5 0 0)) (fset 6 (some (.int .i64 ((j + 1 : Nat) : Int))) (fset 7 (some (.int .i64 (i : Int))) (fset 8 (some (.iptr (Zm6 V))) (fset 9 (some (.int .i64 A)) (fset 12 (some (.int .i64 (cmpV k V ma).1)) Z27))))))))) ((b5, .cells 15 [encS ⟨cnt + 1, nul, has, mi', ma, su, sm⟩]) :: (b4, z) :: σ) := by
      intro mi' hm
      refine awp_seq ?_
      refine awp_seq ?_
      refine Zbm (fun _ _ => rfl) ?_
      (repeat (refine st_q rfl rfl rfl ?_))
      refine Z92 rfl Z8z rfl rfl ?_
      cases has with
      | false =>
        (repeat (first | refine st_q rfl rfl rfl ?_ | refine Z8w rfl ?_))
        (refine Z8y ?_; (repeat (first | refine Z9v rfl ?_ | refine Z9w ?_)); refine Z9u ?_)
        refine Z8f (t := true) rfl (fun _ => ?_) (fun e => by cases e)
        refine Zbm (fun _ _ => rfl) ?_
        (repeat (refine st_q rfl rfl rfl ?_))
        (first | refine Z9a rfl Z8z rfl (by decide) (Z0.fit_iff.1 rfl) (fun h => by cases h) Z9b ?_ | refine Z8v rfl (Z9a rfl Z8z rfl (by decide) (Z0.fit_iff.1 rfl) (fun h => by cases h) Z9b ?_))
        (refine Z8y ?_; (repeat (first | refine Z9v rfl ?_ | refine Z9w ?_)); refine Z9u ?_)
        exact fin mi' V (hm _ (by simp))
      | true =>
        (repeat (first | refine st_q rfl rfl rfl ?_ | refine Z8v rfl (st_q rfl rfl rfl ?_)))
        (refine Z8y ?_; (repeat (first | refine Z9v rfl ?_ | refine Z9w ?_)); refine Z9u ?_)
        refine Za3 (p := 0 < (cmpV k V ma).1) rfl (fun h1 => ?_) (fun h1 => ?_)
        · refine Zbm (fun _ _ => rfl) ?_
          (repeat (refine st_q rfl rfl rfl ?_))
          (first | refine Z9a rfl Z8z rfl (by decide) (Z0.fit_iff.1 rfl) (fun h => by cases h) Z9b ?_ | refine Z8v rfl (Z9a rfl Z8z rfl (by decide) (Z0.fit_iff.1 rfl) (fun h => by cases h) Z9b ?_))
          (refine Z8y ?_; (repeat (first | refine Z9v rfl ?_ | refine Z9w ?_)); refine Z9u ?_)
          exact fin mi' V (hm _ (by simp [h1]))
        · refine Zbn (fun _ _ => rfl) ?_
          (refine Z9y (keep := [2, 3, 4, 5, 6, 7, 9]) ?_; ((repeat (first | refine Z9v rfl ?_ | refine Z9w ?_)); refine Z9u ?_))
          exact fin mi' ma (hm _ (by simp [h1]))
    refine awp_seq ?_
    refine awp_seq ?_
    refine Zbm (fun _ _ => rfl) ?_
    (repeat (refine st_q rfl rfl rfl ?_))
    refine Z92 rfl Z8z rfl rfl ?_
    cases has with
    | false =>
      (repeat (first | refine st_q rfl rfl rfl ?_ | refine Z8w rfl ?_))
      (refine Z8y ?_; (repeat (first | refine Z9v rfl ?_ | refine Z9w ?_)); refine Z9u ?_)
      refine Z8f (t := true) rfl (fun _ => ?_) (fun e => by cases e)
      refine Zbm (fun _ _ => rfl) ?_
      (repeat (refine st_q rfl rfl rfl ?_))
      (first | refine Z9a rfl Z8z rfl (by decide) (Z0.fit_iff.1 rfl) (fun h => by cases h) Z9b ?_ | refine Z8v rfl (Z9a rfl Z8z rfl (by decide) (Z0.fit_iff.1 rfl) (fun h => by cases h) Z9b ?_))
      (refine Z8y ?_; (repeat (first | refine Z9v rfl ?_ | refine Z9w ?_)); refine Z9u ?_)
      exact second V (fun ma' e => by rw [e]; simp [stepR, Zy1, hr, Zxr])
    | true =>
      (repeat (first | refine st_q rfl rfl rfl ?_ | refine Z8v rfl (st_q rfl rfl rfl ?_)))
      (refine Z8y ?_; (repeat (first | refine Z9v rfl ?_ | refine Z9w ?_)); refine Z9u ?_)
      refine Za3 (p := (cmpV k V mi).1 < 0) rfl (fun h1 => ?_) (fun h1 => ?_)
      · refine Zbm (fun _ _ => rfl) ?_
        (repeat (refine st_q rfl rfl rfl ?_))
        (first | refine Z9a rfl Z8z rfl (by decide) (Z0.fit_iff.1 rfl) (fun h => by cases h) Z9b ?_ | refine Z8v rfl (Z9a rfl Z8z rfl (by decide) (Z0.fit_iff.1 rfl) (fun h => by cases h) Z9b ?_))
        (refine Z8y ?_; (repeat (first | refine Z9v rfl ?_ | refine Z9w ?_)); refine Z9u ?_)
        exact second V (fun ma' e => by rw [e]; simp [stepR, Zy1, hr, Zxr, h1])
      · refine Zbn (fun _ _ => rfl) ?_
        (refine Z9y (keep := [2, 3, 4, 5, 6, 7, 8, 9, 12]) ?_; ((repeat (first | refine Z9v rfl ?_ | refine Z9w ?_)); refine Z9u ?_))
        exact second mi (fun ma' e => by rw [e]; simp [stepR, Zy1, hr, Zxr, h1])
theorem Z1lc (k : Int) (c : Col) (bs : List Bool) (i j : Nat) (s : Stt) (hi : i < bs.length) : Z1k3 k c (bs.drop i) j s = if bs[i] = true then Z1k3 k c (bs.drop (i + 1)) (j + 1) (stepR k (getR k c j) (getRA k c j) s) else Z1k3 k c (bs.drop (i + 1)) j s := by
  rw [List.drop_eq_getElem_cons hi]
  cases bs[i] <;> rfl
theorem Z1ld (k : Int) (V : Vl) (A : Int) (s : Stt) (hs : -9223372036854775808 ≤ s.sum ∧ s.sum ≤ 9223372036854775807) : -9223372036854775808 ≤ (stepR k V A s).sum ∧ (stepR k V A s).sum ≤ 9223372036854775807 := Zy3 k V A { s with count := s.count + 1 } hs
theorem Z1le (k : Int) (V : Vl) (A : Int) (s : Stt) : (stepR k V A s).count = s.count + 1 := Z1k5 k V A { s with count := s.count + 1 }
theorem Z1lf (t : List Z0) (k : Int) (ht : t.length = 6) (hk : t[0]? = some (.int .i64 k)) (ht1 : ∀ c ∈ t, c.one = true) (C : Col) (hC : C.Fit) (hG : C.Good k) (σ : Zc) :
    Z1q Try.prog Zcx [.agg t, encC C] σ fun r σ' => r = encS (refOf k C) ∧ σ' = σ := by
  match t, ht with
  | [t0, t1, t2, t3, t4, t5], _ =>
  simp only [List.getElem?_cons_zero, Option.some.injEq] at hk
  subst hk
  obtain ⟨hhere, hints, hns, htexts, hlens, hint, htext⟩ := hC
  obtain ⟨g1, g2, g3, g4⟩ := hG
  have hcl : C.here.count true ≤ C.here.length := List.count_le_length
  refine Z8t rfl Z1jo (Nat.le_of_ble_eq_true rfl) ?_
  refine Z9z ?_
  refine Z9j rfl ⟨rfl, ht1⟩ fun b2 hb2 => ?_
  refine Z9j rfl (Z0.fit_iff.1 rfl) fun b3 hb3 => ?_
  refine Z9k (by simp [Z0.cells, Z0.one]) fun b4 hb4 => ?_
  (refine Z8y ?_; (repeat (first | refine Z9v rfl ?_ | refine Z9w ?_)); refine Z9u ?_)
  refine Z8a (FSub.refl _) (HSub.swap _ _ _) ?_
  refine Zb3 (d := 3) (cs := Zxu C) rfl ?_
  refine Z8a (FSub.refl _) (HSub.swap _ _ _) ?_
  refine Zb3 (d := 2) (cs := [.int .i64 k, t1, t2, t3, t4, t5]) rfl ?_
  have main : ∀ z : Zb, z = .cells 15 [.agg [.int .i64 0, .bool false, .bool false, .bool false, .int .i64 0, .int .i64 0, .slc 0 [] true, .slc 0 [] true, .bool false, .int .i64 0, .int .i64 0, .slc 0 [] true, .slc 0 [] true, .bool false, .int .i64 0]] →
      AWp Try.prog Z1j5.n (Z1j5.code.snd 1) (ARet Z1j5.res fun r σ' => r = encS (refOf k C) ∧ σ' = σ)
        (fset 2 (some (.iptr [.int .i64 k, t1, t2, t3, t4, t5])) (fset 3 (some (.iptr (Zxu C))) (fset 4 (some (.ptr b4 0 0)) Z27))) ((b4, z) :: σ) := by
    intro z hz
    have hHas := Zy0 C (by omega)
    refine Z9z ?_
    (repeat (refine st_q rfl rfl rfl ?_))
    (first | refine Z9t rfl (hHas _) ?_ | refine Z8v rfl (Z9t rfl (hHas _) ?_) | refine Zbw rfl hHas ?_ | refine Z8v rfl (Zbw rfl hHas ?_))
    (repeat (refine st_q rfl rfl rfl ?_))
    (first | refine Z9t rfl ((Z1l7 k) _) ?_ | refine Z8v rfl (Z9t rfl ((Z1l7 k) _) ?_) | refine Zbw rfl (Z1l7 k) ?_ | refine Z8v rfl (Zbw rfl (Z1l7 k) ?_))
    (repeat (refine st_q rfl rfl rfl ?_))
    refine Z9k (by simp [Z0.cells, Z0.one]) fun b5 hb5 => ?_
    (first | refine Z9a rfl Z8z rfl (by decide) (Z0.fit_iff.1 rfl) (fun h => by cases h) Z9b ?_ | refine Z8v rfl (Z9a rfl Z8z rfl (by decide) (Z0.fit_iff.1 rfl) (fun h => by cases h) Z9b ?_))
    (refine Z8y ?_; (repeat (first | refine Z9v rfl ?_ | refine Z9w ?_)); refine Z9u ?_)
    refine Zby (Zbx.view (ys := [encS (of0 k C 0)]) rfl rfl (by (repeat (first | exact VRle.refl _ | exact Zc5 | refine Zc6 rfl rfl ?_ | refine Zc7 rfl ?_ | refine Zc4 ?_ ?_)))) ?_
    generalize hX : refOf k C = X
    unfold refOf at hX
    (repeat (first | refine st_q rfl rfl rfl ?_ | (refine Z8y ?_; (repeat (first | refine Z9v rfl ?_ | refine Z9w ?_)); refine Z9u ?_) | refine awp_seq ?_ | refine Zbm (fun _ _ => rfl) ?_ | refine Z8h ?_))
    refine Zaa (fun m F σ' => ∃ (i j : Nat) (s : Stt), F = fset 2 (some (.iptr [.int .i64 k, t1, t2, t3, t4, t5])) (fset 3 (some (.iptr (Zxu C))) (fset 4 (some (.ptr b4 0 0)) (fset 5 (some (.ptr b5 0 0)) (fset 6 (some (.int .i64 (j : Int))) (fset 7 (some (.int .i64 (i : Int))) Z27))))) ∧
      (b5, Zb.cells 15 [encS s]) :: (b4, z) :: σ = σ' ∧ i ≤ C.here.length ∧ j + (C.here.drop i).count true = C.here.count true ∧ s.count = j ∧ (-9223372036854775808 ≤ s.sum ∧ s.sum ≤ 9223372036854775807) ∧ Z1k3 k C (C.here.drop i) j s = X ∧ m = C.here.length - i) (n := C.here.length)
      ⟨0, 0, of0 k C 0, rfl, rfl, by omega, by simp, rfl, by simp [of0], by simpa using hX, rfl⟩ ?_
    rintro m F σ' ⟨i, j, s, rfl, rfl, hi, hj, hc, hs, hXi, rfl⟩
    (repeat (first | refine st_q rfl rfl rfl ?_ | (refine Z8y ?_; (repeat (first | refine Z9v rfl ?_ | refine Z9w ?_)); refine Z9u ?_) | refine awp_seq ?_ | refine Zbm (fun _ _ => rfl) ?_))
    rw [List.length_map]
    refine Za3 (p := (i : Int) < (C.here.length : Int)) rfl (fun h5 => ?_) (fun h5 => ?_)
    · have hil : i < C.here.length := by omega
      rw [Z1lc k C _ i j s hil] at hXi
      have hj' := hj
      rw [List.drop_eq_getElem_cons hil, List.count_cons] at hj'
      have hg := Zxw (f := Z0.bool) hil
      generalize C.here[i] = b at hXi hg hj'
      have round : ∀ (j' : Nat) (s' : Stt), j' + (C.here.drop (i + 1)).count true = C.here.count true → s'.count = j' → (-9223372036854775808 ≤ s'.sum ∧ s'.sum ≤ 9223372036854775807) → Z1k3 k C (C.here.drop (i + 1)) j' s' = X →
          AWp Try.prog Z1j5.n (.region Z1j2 [2, 3, 4, 5, 6, 7]) (Za9 (fun m F σ' => ∃ (i j : Nat) (s : Stt), F = fset 2 (some (.iptr [.int .i64 k, t1, t2, t3, t4, t5])) (fset 3 (some (.iptr (Zxu C))) (fset 4 (some (.ptr b4 0 0)) (fset 5 (some (.ptr b5 0 0)) (fset 6 (some (.int .i64 (j : Int))) (fset 7 (some (.int .i64 (i : Int))) Z27))))) ∧
            (b5, Zb.cells 15 [encS s]) :: (b4, z) :: σ = σ' ∧ i ≤ C.here.length ∧ j + (C.here.drop i).count true = C.here.count true ∧ s.count = j ∧ (-9223372036854775808 ≤ s.sum ∧ s.sum ≤ 9223372036854775807) ∧ Z1k3 k C (C.here.drop i) j s = X ∧ m = C.here.length - i) (C.here.length - i)
            (Z8g 0 (Z8e Try.prog Z1j5.n (Z1j5.code.snd 4) (ARet Z1j5.res fun r σ' => r = encS X ∧ σ' = σ))))
          (fset 2 (some (.iptr [.int .i64 k, t1, t2, t3, t4, t5])) (fset 3 (some (.iptr (Zxu C))) (fset 4 (some (.ptr b4 0 0)) (fset 5 (some (.ptr b5 0 0)) (fset 6 (some (.int .i64 (j' : Int))) (fset 7 (some (.int .i64 (i : Int))) Z27)))))) ((b5, .cells 15 [encS s']) :: (b4, z) :: σ) := by
        intro j' s' e1 e2 e3 e4
        refine Zbp ?_
        (repeat (refine st_q rfl rfl rfl ?_))
        rw [show IntKind.wrap .i64 ((i : Int) + 1) = ((i + 1 : Nat) : Int) by rw [w64 _ (by omega) (by omega)]; omega]
        (refine Z8y ?_; (repeat (first | refine Z9v rfl ?_ | refine Z9w ?_)); refine Z9u ?_)
        exact ⟨_, C.here.length - (i + 1), HSub.refl _, ⟨i + 1, j', s', rfl, rfl, by omega, e1, e2, e3, e4, rfl⟩, by omega⟩
      (repeat (first | refine st_q rfl rfl rfl ?_ | refine awp_seq ?_ | refine Zbm (fun _ _ => rfl) ?_ | refine Z8h ?_ | refine Zbn (fun _ _ => rfl) ?_))
      refine Z93 rfl (by omega) hg ?_
      cases b with
      | false =>
        (repeat (first | refine st_q rfl rfl rfl ?_ | (refine Z8y ?_; (repeat (first | refine Z9v rfl ?_ | refine Z9w ?_)); refine Z9u ?_) | refine Zbo (fun _ _ => rfl) ?_ | refine Z8f (t := true) rfl (fun _ => ?_) (fun e => by cases e)))
        (refine Z9y (keep := [2, 3, 4, 5, 6, 7]) ?_; ((repeat (first | refine Z9v rfl ?_ | refine Z9w ?_)); refine Z9u ?_))
        exact round j s (by simpa using hj') hc hs (by simpa using hXi)
      | true =>
        simp only [beq_self_eq_true, if_true] at hj' hXi
        (repeat (first | refine st_q rfl rfl rfl ?_ | (refine Z8y ?_; (repeat (first | refine Z9v rfl ?_ | refine Z9w ?_)); refine Z9u ?_) | refine awp_seq ?_ | refine Zbm (fun _ _ => rfl) ?_ | refine Zbn (fun _ _ => rfl) ?_ | refine Z8f (t := false) rfl (fun e => by cases e) (fun _ => ?_)))
        refine Z9k (by simp [Z0.cells, Z0.one]) fun b8 hb8 => ?_
        (first | refine Z9a rfl Z8z rfl (by decide) (Z0.fit_iff.1 rfl) (fun h => by cases h) Z9b ?_ | refine Z8v rfl (Z9a rfl Z8z rfl (by decide) (Z0.fit_iff.1 rfl) (fun h => by cases h) Z9b ?_))
        (refine Z8y ?_; (repeat (first | refine Z9v rfl ?_ | refine Z9w ?_)); refine Z9u ?_)
        have r := fun (V : Vl) (A : Int) (e1 : getR k C j = V) (e2 : getRA k C j = A) => round (j + 1) (stepR k V A s) (by omega) (by rw [Z1le, hc]; omega) (Z1ld k V A s hs) (by rw [← e1, ← e2]; exact hXi)
        have hjc : j < C.here.count true := by omega
        cases htx : Zmb k with
        | true =>
          rw [if_pos htx] at g1
          have hjt : j < C.texts.length := by omega
          have htl := htext _ (List.getElem_mem hjt)
          have hgt := Zxw (f := fun b => Z0.slc 1 (bytes b) false) hjt
          have e1 : getR k C j = .mk false 0 0 C.texts[j] [] := by rw [getR, if_pos htx, List.getD_eq_getElem?_getD, List.getElem?_eq_getElem hjt]; rfl
          have e2 : getRA k C j = (C.texts[j].length : Int) := by rw [getRA, if_pos htx, List.getD_eq_getElem?_getD, List.getElem?_eq_getElem hjt]; rfl
          generalize C.texts[j] = tx at hgt htl e1 e2
          (repeat (first | refine st_q rfl rfl rfl ?_ | (refine Z8y ?_; (repeat (first | refine Z9v rfl ?_ | refine Z9w ?_)); refine Z9u ?_) | refine awp_seq ?_ | refine Zbm (fun _ _ => rfl) ?_ | refine Z8h ?_))
          (first | refine Z9t rfl ((Ztl k) _) ?_ | refine Z8v rfl (Z9t rfl ((Ztl k) _) ?_) | refine Zbw rfl (Ztl k) ?_ | refine Z8v rfl (Zbw rfl (Ztl k) ?_))
          rw [htx]
          (repeat (first | refine st_q rfl rfl rfl ?_ | (refine Z8y ?_; (repeat (first | refine Z9v rfl ?_ | refine Z9w ?_)); refine Z9u ?_) | refine awp_seq ?_ | refine Zbm (fun _ _ => rfl) ?_ | refine Z8f (t := true) rfl (fun _ => ?_) (fun e => by cases e)))
          refine Z93 rfl (by omega) hgt ?_
          (repeat refine st_q rfl rfl rfl ?_)
          (first | refine Z9a rfl Z8z rfl (by decide) (Z0.fit_iff.1 rfl) (fun h => by cases h) Z9b ?_ | refine Z8v rfl (Z9a rfl Z8z rfl (by decide) (Z0.fit_iff.1 rfl) (fun h => by cases h) Z9b ?_))
          (refine Z8y ?_; (repeat (first | refine Z9v rfl ?_ | refine Z9w ?_)); refine Z9u ?_)
          refine Zbm (fun _ _ => rfl) ?_
          (repeat (refine st_q rfl rfl rfl ?_))
          refine Z92 rfl Z8z rfl rfl ?_
          (repeat (refine st_q rfl rfl rfl ?_))
          rw [Zam]
          (refine Z8y ?_; (repeat (first | refine Z9v rfl ?_ | refine Z9w ?_)); refine Z9u ?_)
          refine Zby (Zbx.view (ys := [.agg (Zm6 (.mk false 0 0 tx []))]) rfl rfl (by (repeat (first | exact VRle.refl _ | exact Zc5 | refine Zc6 rfl rfl ?_ | refine Zc7 rfl ?_ | refine Zc4 ?_ ?_)))) ?_
          refine Zb3 (d := 8) (cs := Zm6 (.mk false 0 0 tx [])) rfl ?_
          (refine Z9y (keep := [2, 3, 4, 5, 6, 7, 8, 9]) ?_; ((repeat (first | refine Z9v rfl ?_ | refine Z9w ?_)); refine Z9u ?_))
          exact Z1lb (by intro _ _; rfl) s (.mk false 0 0 tx []) (tx.length : Int) k t1 t2 t3 t4 t5 ht1 hs (by omega) (by omega) _ j i b4 b5 (by omega) z σ (r _ _ e1 e2)
        | false =>
          have hf : ¬ Zmb k = true := by simp [htx]
          cases hl : Zlt k with
          | false =>
            have e1 : getR k C j = vl0 := by rw [getR, if_neg hf, if_neg (by simp [hl])]
            have e2 : getRA k C j = 0 := by rw [getRA, if_neg hf, if_neg (by simp [hl])]
            (repeat (first | refine st_q rfl rfl rfl ?_ | (refine Z8y ?_; (repeat (first | refine Z9v rfl ?_ | refine Z9w ?_)); refine Z9u ?_) | refine awp_seq ?_ | refine Zbm (fun _ _ => rfl) ?_ | refine Z8h ?_))
            (first | refine Z9t rfl ((Ztl k) _) ?_ | refine Z8v rfl (Z9t rfl ((Ztl k) _) ?_) | refine Zbw rfl (Ztl k) ?_ | refine Z8v rfl (Zbw rfl (Ztl k) ?_))
            rw [htx]
            (repeat (first | refine st_q rfl rfl rfl ?_ | (refine Z8y ?_; (repeat (first | refine Z9v rfl ?_ | refine Z9w ?_)); refine Z9u ?_) | refine awp_seq ?_ | refine Zbm (fun _ _ => rfl) ?_ | refine Z8f (t := false) rfl (fun e => by cases e) (fun _ => ?_)))
            (first | refine Z9t rfl ((Ztm k) _) ?_ | refine Z8v rfl (Z9t rfl ((Ztm k) _) ?_) | refine Zbw rfl (Ztm k) ?_ | refine Z8v rfl (Zbw rfl (Ztm k) ?_))
            rw [hl]
            (repeat (refine st_q rfl rfl rfl ?_))
            (refine Z8y ?_; (repeat (first | refine Z9v rfl ?_ | refine Z9w ?_)); refine Z9u ?_)
            refine Z8f (t := false) rfl (fun e => by cases e) (fun _ => ?_)
            refine Zbn (fun _ _ => rfl) ?_
            (refine Z9y (keep := [2, 3, 4, 5, 6, 7, 8, 9]) ?_; ((repeat (first | refine Z9v rfl ?_ | refine Z9w ?_)); refine Z9u ?_))
            refine Zby (Zbx.view (ys := [.agg (Zm6 vl0)]) rfl rfl (by (repeat (first | exact VRle.refl _ | exact Zc5 | refine Zc6 rfl rfl ?_ | refine Zc7 rfl ?_ | refine Zc4 ?_ ?_)))) ?_
            refine Zb3 (d := 8) (cs := Zm6 vl0) rfl ?_
            (refine Z9y (keep := [2, 3, 4, 5, 6, 7, 8, 9]) ?_; ((repeat (first | refine Z9v rfl ?_ | refine Z9w ?_)); refine Z9u ?_))
            exact Z1lb (by intro _ _; rfl) s vl0 0 k t1 t2 t3 t4 t5 ht1 hs (by omega) (by omega) _ j i b4 b5 (by omega) z σ (r _ _ e1 e2)
          | true =>
            have hk3 : k ≠ 10 ∧ k ≠ 11 ∧ k ≠ 12 := by
              refine ⟨?_, ?_, ?_⟩ <;> (intro e; subst e; simp [Zlt] at hl)
            rw [if_neg (by rw [htx]; simp; omega)] at g2
            have hji : j < C.ints.length := by omega
            have hir := hint _ (List.getElem_mem hji)
            have hgi := Zxw (f := Z0.int .i64) hji
            have e1 : getR k C j = .mk false C.ints[j] (if k = 9 then C.ns.getD j 0 else 0) [] [] := by rw [getR, if_neg hf, if_pos hl, List.getD_eq_getElem?_getD, List.getElem?_eq_getElem hji]; rfl
            have e2 : getRA k C j = C.ints[j] := by rw [getRA, if_neg hf, if_pos hl, List.getD_eq_getElem?_getD, List.getElem?_eq_getElem hji]; rfl
            generalize C.ints[j] = x at hgi hir e1 e2
            (repeat (first | refine st_q rfl rfl rfl ?_ | (refine Z8y ?_; (repeat (first | refine Z9v rfl ?_ | refine Z9w ?_)); refine Z9u ?_) | refine awp_seq ?_ | refine Zbm (fun _ _ => rfl) ?_ | refine Z8h ?_))
            (first | refine Z9t rfl ((Ztl k) _) ?_ | refine Z8v rfl (Z9t rfl ((Ztl k) _) ?_) | refine Zbw rfl (Ztl k) ?_ | refine Z8v rfl (Zbw rfl (Ztl k) ?_))
            rw [htx]
            (repeat (first | refine st_q rfl rfl rfl ?_ | (refine Z8y ?_; (repeat (first | refine Z9v rfl ?_ | refine Z9w ?_)); refine Z9u ?_) | refine awp_seq ?_ | refine Zbm (fun _ _ => rfl) ?_ | refine Z8f (t := false) rfl (fun e => by cases e) (fun _ => ?_)))
            (first | refine Z9t rfl ((Ztm k) _) ?_ | refine Z8v rfl (Z9t rfl ((Ztm k) _) ?_) | refine Zbw rfl (Ztm k) ?_ | refine Z8v rfl (Zbw rfl (Ztm k) ?_))
            rw [hl]
            (repeat (first | refine st_q rfl rfl rfl ?_ | (refine Z8y ?_; (repeat (first | refine Z9v rfl ?_ | refine Z9w ?_)); refine Z9u ?_) | refine awp_seq ?_ | refine Zbm (fun _ _ => rfl) ?_ | refine Z8f (t := true) rfl (fun _ => ?_) (fun e => by cases e)))
            refine Z93 rfl (by omega) hgi ?_
            (repeat refine st_q rfl rfl rfl ?_)
            (first | refine Z9a rfl Z8z rfl (by decide) (Z0.fit_iff.1 rfl) (fun h => by cases h) Z9b ?_ | refine Z8v rfl (Z9a rfl Z8z rfl (by decide) (Z0.fit_iff.1 rfl) (fun h => by cases h) Z9b ?_))
            (repeat (first | refine st_q rfl rfl rfl ?_ | refine Z92 rfl Z8z rfl rfl ?_ | (refine Z8y ?_; (repeat (first | refine Z9v rfl ?_ | refine Z9w ?_)); refine Z9u ?_) | refine awp_seq ?_ | refine Zbm (fun _ _ => rfl) ?_))
            refine Za3 (p := k = 9) rfl (fun h9 => ?_) (fun h9 => ?_)
            · rw [if_pos h9] at g3 e1
              have hjn : j < C.ns.length := by omega
              have hgn := Zxw (f := Z0.int .i64) hjn
              rw [List.getD_eq_getElem?_getD, List.getElem?_eq_getElem hjn, Option.getD_some] at e1
              generalize C.ns[j] = y at hgn e1
              refine Zbm (fun _ _ => rfl) ?_
              (repeat (refine st_q rfl rfl rfl ?_))
              refine Z93 rfl (by omega) hgn ?_
              (repeat (refine st_q rfl rfl rfl ?_))
              (first | refine Z9a rfl Z8z rfl (by decide) (Z0.fit_iff.1 rfl) (fun h => by cases h) Z9b ?_ | refine Z8v rfl (Z9a rfl Z8z rfl (by decide) (Z0.fit_iff.1 rfl) (fun h => by cases h) Z9b ?_))
              (refine Z8y ?_; (repeat (first | refine Z9v rfl ?_ | refine Z9w ?_)); refine Z9u ?_)
              refine Zby (Zbx.view (ys := [.agg (Zm6 (.mk false x y [] []))]) rfl rfl (by (repeat (first | exact VRle.refl _ | exact Zc5 | refine Zc6 rfl rfl ?_ | refine Zc7 rfl ?_ | refine Zc4 ?_ ?_)))) ?_
              refine Zb3 (d := 8) (cs := Zm6 (.mk false x y [] [])) rfl ?_
              (refine Z9y (keep := [2, 3, 4, 5, 6, 7, 8, 9]) ?_; ((repeat (first | refine Z9v rfl ?_ | refine Z9w ?_)); refine Z9u ?_))
              exact Z1lb (by intro _ _; rfl) s (.mk false x y [] []) x k t1 t2 t3 t4 t5 ht1 hs hir (by omega) _ j i b4 b5 (by omega) z σ (r _ _ e1 e2)
            · rw [if_neg h9] at e1
              refine Zbn (fun _ _ => rfl) ?_
              (refine Z9y (keep := [2, 3, 4, 5, 6, 7, 8, 9]) ?_; ((repeat (first | refine Z9v rfl ?_ | refine Z9w ?_)); refine Z9u ?_))
              refine Zby (Zbx.view (ys := [.agg (Zm6 (.mk false x 0 [] []))]) rfl rfl (by (repeat (first | exact VRle.refl _ | exact Zc5 | refine Zc6 rfl rfl ?_ | refine Zc7 rfl ?_ | refine Zc4 ?_ ?_)))) ?_
              refine Zb3 (d := 8) (cs := Zm6 (.mk false x 0 [] [])) rfl ?_
              (refine Z9y (keep := [2, 3, 4, 5, 6, 7, 8, 9]) ?_; ((repeat (first | refine Z9v rfl ?_ | refine Z9w ?_)); refine Z9u ?_))
              exact Z1lb (by intro _ _; rfl) s (.mk false x 0 [] []) x k t1 t2 t3 t4 t5 ht1 hs hir (by omega) _ j i b4 b5 (by omega) z σ (r _ _ e1 e2)
    · rw [List.drop_of_length_le (by omega), Z1k3] at hXi
      subst hXi
      (repeat (first | refine Z92 rfl Z8z rfl rfl ?_ | refine awp_seq ?_ | refine Zbm (fun _ _ => rfl) ?_ | refine Zbo (fun _ _ => rfl) ?_))
      subst hz
      refine Z9a rfl (Z90 (fun e => hb5 (by rw [e]; simp [Zh])) Z8z) rfl (by decide) (Z0.fit_iff.1 rfl) (fun h => by cases h) (Z9c (fun e => hb5 (by rw [e]; simp [Zh])) Z9b) ?_
      (refine Z8y ?_; (repeat (first | refine Z9v rfl ?_ | refine Z9w ?_)); refine Z9u ?_)
      refine Z8a (FSub.refl _) (HSub.tail _ _) ?_
      refine Z8d ?_
      exact ares (vs := [encS s]) (Zy4 rfl Z8z rfl) (HSub.tail _ _) ⟨rfl, rfl⟩
  (refine Z9y (keep := [2, 3, 4]) ?_; ((repeat (first | refine Z9v rfl ?_ | refine Z9w ?_)); refine Z9u ?_))
  exact main _ rfl
end Go.Abs
namespace Go.Abs
open Go Go.Proofs
set_option linter.unusedVariables false
set_option linter.unusedSimpArgs false
set_option maxHeartbeats 4000000
attribute [local irreducible] AWp aops KP
def tA (k : Int) : Ty := .mk 12 [[97]] [.mk k [] [] 0 0 0] 0 0 0
def vA (i : Int) : Vl := .mk false 0 0 [] [.mk false i 0 [] []]
def vN : Vl := .mk false 0 0 [] [.mk true 0 0 [] []]
def Z1lg : List Vl := [vA 5, vN, vA (-2)]
def col16 : Col := ⟨[true, false, true], [5, -2], [], [], []⟩
def st16 : Stt := ⟨2, true, true, .mk false (-2) 0 [] [], .mk false 5 0 [] [], true, 3⟩
end Go.Abs
namespace Go.Abs
open Go Go.Proofs
set_option linter.unusedVariables false
set_option linter.unusedSimpArgs false
set_option maxHeartbeats 4000000
attribute [local irreducible] AWp aops KP
theorem Z1lh {k : Int} (h : Zxk k = false) : ∀ (l : List Vl) (s : Sp), s.has = false → (l.foldl (Z1ko k) s).has = false
  | [], s, hs => hs
  | v :: l, s, hs => by
    rw [List.foldl_cons]
    refine Z1lh h l _ ?_
    rw [Z1ko, if_neg (by simp [h])]
    exact hs
theorem Z1li (t : Ty) : (Zm4 t).length ≤ 100 := by
  unfold Zm4
  split
  · rename_i h
    have := (Znd t 1 0 h).2.2
    rw [Zm1]; omega
  · simp
theorem Z1lj {L : List Nd} {i : Nat} (h : i < L.length) : Zyh L i = (L[i]).t.kind := by
  unfold Zyh; rw [List.getElem?_eq_getElem h]
theorem Z1lk (t : Ty) : ∀ c ∈ Zlo t, c.one = true := by simp [Zlo, Z0.one]
end Go.Abs
namespace Go.Abs
open Go Go.Proofs
set_option linter.unusedVariables false
set_option linter.unusedSimpArgs false
end Go.Abs
namespace Go.Abs
open Go Go.Proofs
set_option linter.unusedVariables false
set_option linter.unusedSimpArgs false
set_option maxHeartbeats 4000000
attribute [local irreducible] AWp aops KP
theorem Z1ll {k : Int} {c : Col} (h : (smC k c).2 = true) : (smC k c).1 = ((valsC c).map (·.2)).sum := by
  have := (Z1ky _ _ h).2
  rw [smC, this]; simp
end Go.Abs
namespace Go.Abs
open Go Go.Proofs
set_option linter.unusedVariables false
set_option linter.unusedSimpArgs false
theorem Z1p3 : ∀ (ks : List Nat) (c i : Nat), (∃ j : Nat, ks[j]? = some c) → ∃ j : Nat, idxF ks (c : Int) i = ((i + j : Nat) : Int) ∧ ks[j]? = some c
  | [], c, i, h => by obtain ⟨j, hj⟩ := h; simp at hj
  | k :: ks, c, i, h => by
    rw [idxF]
    by_cases e : (k : Int) = (c : Int)
    · rw [if_pos e]
      exact ⟨0, rfl, by rw [List.getElem?_cons_zero, Int.ofNat.inj e]⟩
    · rw [if_neg e]
      obtain ⟨j, hj⟩ := h
      cases j with
      | zero => simp only [List.getElem?_cons_zero, Option.some.injEq] at hj; exact absurd (by rw [hj]) e
      | succ j =>
        obtain ⟨m, h1, h2⟩ := Z1p3 ks c (i + 1) ⟨j, by simpa using hj⟩
        exact ⟨m + 1, by rw [h1]; omega, by simpa using h2⟩
theorem Z1p4 : ∀ (ks : List Ty) (j m : Nat), j < m → m ≤ ks.length → cntL (ks.take j) < cntL (ks.take m)
  | [], j, m, h1, h2 => by simp at h2; omega
  | t :: ts, j, 0, h1, _ => by omega
  | t :: ts, 0, m + 1, _, _ => by
    have := Z1ly t
    rw [List.take_succ_cons, cntL, List.take_zero, cntL]; omega
  | t :: ts, j + 1, m + 1, h1, h2 => by
    have := Z1p4 ts j m (by omega) (by simpa using h2)
    rw [List.take_succ_cons, cntL, List.take_succ_cons, cntL]; omega
theorem Nok.inj {l : List Nd} {i : Nat} {n : Nd} (h : Nok l i n) {j m x : Nat} (h1 : n.kids[j]? = some x) (h2 : n.kids[m]? = some x) : j = m := by
  obtain ⟨_, _, _, a2, _⟩ := h.kids j x h1
  obtain ⟨_, _, _, b2, _⟩ := h.kids m x h2
  have l1 := (List.getElem?_eq_some_iff.1 h1).1
  have l2 := (List.getElem?_eq_some_iff.1 h2).1
  have := h.len
  rcases Nat.lt_trichotomy j m with e | e | e
  · have := Z1p4 n.t.kids j m e (by omega); omega
  · exact e
  · have := Z1p4 n.t.kids m j e (by omega); omega
theorem Z1p5 {l : List Nd} (hw : WfN l) (hT : TreeN l) (hokA : ∀ n ∈ l, n.t.Ok) {row : Vl} {n0 : Nd} (h0 : l[0]? = some n0) (hr : vchk n0.t row = 0) (c : Nat) : ∀ (f col : Nat) (n : Nd), col < f → l[col]? = some n → upF l (n.parent + 1).toNat n.parent = true → Anc l col c →
    (pcon l 0 c row = pcon l col c (getF l f col row) ∧ vchk n.t (getF l f col row) = 0) ∨ (pcon l 0 c row = col0 ∧ getF l f col row = nullV) := by
  intro f
  induction f with
  | zero => intro col n h; omega
  | succ f ih =>
    intro col n hf hn hup hanc
    rw [getF, Int.toNat_natCast]
    simp only [hn]
    by_cases hp : n.parent < 0
    · have hc0 : col = 0 := by
        by_cases e : col = 0
        · exact e
        · obtain ⟨⟨p, q, j, e1, _⟩⟩ := hT.par col n hn (by omega)
          omega
      subst hc0
      rw [h0] at hn
      cases hn
      rw [if_pos hp]
      exact .inl ⟨rfl, hr⟩
    rw [if_neg hp]
    have hcpos : 0 < col := by
      by_cases e : col = 0
      · subst e
        have := (hT.root n hn).1
        omega
      · omega
    obtain ⟨⟨p, q, j, e1, e2, e3, e4, e5⟩⟩ := hT.par col n hn hcpos
    have hpl := (List.getElem?_eq_some_iff.1 e3).1
    have hqp := (hw.up p q e3).2
    rw [e1, Int.toNat_natCast]
    simp only [e3]
    have hup' : q.t.kind = 12 ∧ upF l (q.parent + 1).toNat q.parent = true := by
      rw [e1, show ((p : Int) + 1).toNat = p + 1 by omega, upF, if_neg (by omega), Int.toNat_natCast, e3] at hup
      simp only at hup
      split at hup
      · rename_i h12
        refine ⟨h12, ?_⟩
        rw [← hup]
        exact Z1fn hw _ _ _ (Nat.le_refl _) (by omega) (by omega)
      · cases hup
    obtain ⟨h12, hup'⟩ := hup'
    have hcp : c ≠ p := by
      have := hanc.le hT
      omega
    rcases ih p q (by omega) e3 hup' (hanc.over hn e1) with ⟨k1, k2⟩ | ⟨k1, k2⟩
    · generalize getF l f (p : Int) row = w at k1 k2
      obtain ⟨nu, i, m, b, ks⟩ := w
      cases nu with
      | true =>
        refine .inr ⟨by rw [k1, pcon, if_pos rfl, if_neg hcp], ?_⟩
        simp [stepG, Vl.null]
      | false =>
        obtain ⟨j', hj1, hj2⟩ := Z1p3 q.kids col 0 ⟨j, e4⟩
        rw [Nat.zero_add] at hj1
        have hkl : ks.length = q.kids.length := by
          have ho := (Z1m3 k2).1
          have hl := (hT.nok p q e3).len
          unfold ownV at ho
          (repeat' split at ho) <;> first | omega | (exfalso; omega)
        have hjl : j' < ks.length := by
          have := (List.getElem?_eq_some_iff.1 hj2).1
          omega
        have hjk := List.getElem?_eq_getElem hjl
        have hka : ∀ m : Nat, Zmf q.t.kind i m = m := fun m => by simp [Zmf, h12]
        have hokq := hokA q (List.mem_of_getElem? e3)
        obtain ⟨x, r, x1, x2, x3, x4, x5, x6, x7⟩ := Z1m4 hT e3 hokq k2 hjk
        rw [hka, hj2] at x1
        cases x1
        rw [hn] at x3
        cases x3
        have hst : stepG (.mk false i m b ks) (idxF q.kids (col : Int) 0) = ks[j'] := by
          rw [hj1, stepG, if_pos ⟨rfl, by omega, by simp only [Vl.kids]; omega⟩, Int.toNat_natCast]
          simp only [Vl.kids]
          rw [List.getD_eq_getElem?_getD, hjk]; rfl
        rw [hst]
        refine .inl ⟨?_, x7⟩
        rw [k1, pcon, if_neg (by simp), if_neg hcp, Z1lo]
        have := Z1m6 (l := l) (a := p) (c := c) (i := i) ks 0 j' ks[j'] hjk (fun m' v hm hv => by
          obtain ⟨y, s, y1, y2, y3, y4, y5, y6, y7⟩ := Z1m4 hT e3 hokq k2 hv
          rw [Nat.zero_add, y2]
          refine Z1m7 hT v y s y3 y6 y7 fun hh => ?_
          have hyc := hh.sib hT y3 y4 hn e1 hanc
          rw [hka, hyc] at y1
          exact hm ((hT.nok p q e3).inj y1 hj2))
        rw [this, Nat.zero_add, x2]
    · rw [k2]
      exact .inr ⟨k1, by simp [stepG, nullV, Vl.null]⟩
theorem Z1p6 {l : List Nd} (hw : WfN l) (hT : TreeN l) (hokA : ∀ n ∈ l, n.t.Ok) {row : Vl} {n0 : Nd} (h0 : l[0]? = some n0) (hr : vchk n0.t row = 0) {col : Nat} {n : Nd} (hn : l[col]? = some n) (hg : goodF l (col : Int) = true) :
    ((getF l (col + 1) col row).null = true ∧ (pcon l 0 col row = Zyg false col0 ∨ pcon l 0 col row = col0)) ∨
    ((getF l (col + 1) col row).null = false ∧ pcon l 0 col row = addC n.t.kind (getF l (col + 1) col row) col0 ∧ vchk n.t (getF l (col + 1) col row) = 0 ∧ (getF l (col + 1) col row).kids = [] ∧ Zlt n.t.kind = true) := by
  rw [goodF] at hg
  split at hg
  · cases hg
  rw [Int.toNat_natCast, hn] at hg
  simp only [Bool.and_eq_true] at hg
  obtain ⟨hleaf, hup⟩ := hg
  rcases Z1p5 hw hT hokA h0 hr col (col + 1) col n (by omega) hn hup .refl with ⟨k1, k2⟩ | ⟨k1, k2⟩
  · generalize getF l (col + 1) (col : Int) row = w at k1 k2
    obtain ⟨nu, i, m, b, ks⟩ := w
    cases nu with
    | true =>
      refine .inl ⟨rfl, .inl ?_⟩
      rw [k1, pcon, if_pos rfl, if_pos rfl]
    | false =>
      have hks : ks = [] := by
        have ho := (Z1m3 k2).1
        unfold ownV at ho
        split at ho
        · cases ho
        · rename_i h1
          simp only [not_or, not_and] at h1
          cases ks with
          | nil => rfl
          | cons a b => exact absurd hleaf (h1.2.2 (by simp))
      subst hks
      refine .inr ⟨rfl, ?_, k2, rfl, hleaf⟩
      rw [k1, pcon, if_neg (by simp), if_pos rfl, pconL, Z1ln, Zyh, hn]
  · rw [k2]
    exact .inl ⟨rfl, .inr k1⟩
theorem Z1p7 {k : Int} {a b : Col} (ha : a.Good k) (hb : b.Good k) : (appC a b).Good k := by
  obtain ⟨a1, a2, a3, a4⟩ := ha
  obtain ⟨b1, b2, b3, b4⟩ := hb
  constructor <;> simp only [appC, List.length_append, List.count_append] <;> split <;> simp_all
def addOf (k : Int) (w : Vl) : Int := if Zmb k = true then (w.b.length : Int) else w.i
theorem Z1p8 {t : Ty} {w : Vl} (hn : w.null = false) (hv : vchk t w = 0) (hk : w.kids = []) (hl : Zlt t.kind = true) : valsC (addC t.kind w col0) = [(w, addOf t.kind w)] := by
  obtain ⟨nu, i, m, b, ks⟩ := w
  simp only [Vl.null, Vl.kids] at hn hk
  subst hn hk
  have ho := (Z1m3 hv).1
  unfold ownV at ho
  split at ho
  · cases ho
  rename_i h1
  simp only [not_or, not_and, Bool.not_eq_false] at h1
  obtain ⟨c1, c2, _⟩ := h1
  have hlk : ¬ t.kind = 10 ∧ ¬ t.kind = 11 ∧ ¬ t.kind = 12 ∧ ¬ t.kind = 13 := by
    simp only [Zlt, Bool.not_eq_true', Bool.or_eq_false_iff, decide_eq_false_iff_not] at hl
    omega
  generalize t.kind = k at *
  have hm : m ≠ 0 → k = 9 := fun e => by
    rw [Zme] at c1
    split at c1
    · cases c1
    · rename_i h; simp only [not_and, Decidable.not_not] at h; exact h e
  cases ht : Zmb k with
  | true =>
    have hk := Z1jz ht
    have hm0 : m = 0 := by
      by_cases e : m = 0
      · exact e
      · have := hm e; omega
    have hi0 : i = 0 := by
      rw [Zme] at c1
      rw [if_neg (by omega), if_neg (by omega), if_neg (by omega), if_neg (by omega), if_neg (by omega), if_neg (by omega), if_neg (by omega), if_neg (by omega), if_neg (by omega)] at c1
      exact of_decide_eq_true c1
    subst hm0 hi0
    have e : addC k (.mk false 0 0 b []) col0 = ⟨[true], [], [], [b], []⟩ := by rw [addC, Zyf, if_neg (by omega), Zye, if_pos ht]; rfl
    rw [e, addOf, if_pos ht]
    rfl
  | false =>
    have hb0 : b = [] := by
      by_cases e : b = []
      · exact e
      · have := c2 e; rw [ht] at this; cases this
    subst hb0
    rw [addOf, if_neg (by simp [ht])]
    by_cases h9 : k = 9
    · have e : addC k (.mk false i m [] []) col0 = ⟨[true], [i], [m], [], []⟩ := by rw [addC, Zyf, if_pos h9, Zye, if_neg (by simp [ht]), if_neg hlk.1, if_neg hlk.2.1, if_pos hlk.2.2.1]; rfl
      rw [e]; rfl
    · have hm0 : m = 0 := by
        by_cases e : m = 0
        · exact e
        · exact absurd (hm e) h9
      subst hm0
      have e : addC k (.mk false i 0 [] []) col0 = ⟨[true], [i], [], [], []⟩ := by rw [addC, Zyf, if_neg h9, Zye, if_neg (by simp [ht]), if_neg hlk.1, if_neg hlk.2.1, if_pos hlk.2.2.1]; rfl
      rw [e]; rfl
def getsF (l : List Nd) (col : Nat) (rows : List Vl) : List Vl := (rows.map (getF l (col + 1) col)).filter fun v => !v.null
theorem Z1p9 (k : Int) (w : Vl) : (addC k w col0).here.count true = 1 := by
  unfold addC Zyf Zye Zyg
  (repeat' split) <;> rfl
theorem Z1pa {l : List Nd} (hw : WfN l) (hT : TreeN l) (hokA : ∀ n ∈ l, n.t.Ok) {n0 : Nd} (h0 : l[0]? = some n0) {col : Nat} {n : Nd} (hn : l[col]? = some n) (hg : goodF l (col : Int) = true) : ∀ (rows : List Vl), (∀ v ∈ rows, vchk n0.t v = 0) →
    (Z1lm l col rows).Good n.t.kind ∧ valsC (Z1lm l col rows) = (getsF l col rows).map (fun w => (w, addOf n.t.kind w)) ∧ (Z1lm l col rows).here.count true = (getsF l col rows).length ∧ ∀ w ∈ getsF l col rows, vchk n.t w = 0 ∧ Zlt n.t.kind = true
  | [], _ => ⟨by rw [Z1lm]; exact Z1k2 _, rfl, rfl, fun w hw => by cases hw⟩
  | v :: vs, h => by
    obtain ⟨i1, i2, i3, i4⟩ := Z1pa hw hT hokA h0 hn hg vs fun v hv => h v (List.mem_cons_of_mem _ hv)
    rw [Z1lm]
    rcases Z1p6 hw hT hokA h0 (h v (by simp)) hn hg with ⟨k1, k2⟩ | ⟨k1, k2, k3, k4, k5⟩
    · have eg : getsF l col (v :: vs) = getsF l col vs := by simp [getsF, k1]
      have key : (pcon l 0 col v).Good n.t.kind ∧ valsC (pcon l 0 col v) = [] ∧ (pcon l 0 col v).here.count true = 0 := by
        rcases k2 with e | e
        · rw [e]; exact ⟨Z1k0 (Z1k2 _), rfl, rfl⟩
        · rw [e]; exact ⟨Z1k2 _, rfl, rfl⟩
      refine ⟨Z1p7 key.1 i1, ?_, ?_, ?_⟩
      · rw [Z1l5 key.1 i1, key.2.1, eg, i2]; rfl
      · simp only [appC, List.count_append]
        rw [key.2.2, i3, eg]; omega
      · rw [eg]; exact i4
    · have eg : getsF l col (v :: vs) = getF l (col + 1) col v :: getsF l col vs := by simp [getsF, k1]
      have gA : (addC n.t.kind (getF l (col + 1) col v) col0).Good n.t.kind := Z1k1 (Z1k2 _)
      rw [k2]
      refine ⟨Z1p7 gA i1, ?_, ?_, ?_⟩
      · rw [Z1l5 gA i1, Z1p8 k1 k3 k4 k5, eg, i2]; rfl
      · simp only [appC, List.count_append]
        rw [Z1p9, i3, eg, List.length_cons]; omega
      · rw [eg]
        intro w hw
        rcases List.mem_cons.1 hw with e | e
        · rw [e]; exact ⟨k3, k5⟩
        · exact i4 w e
theorem Z1pb {l : List Nd} (hT : TreeN l) (hokA : ∀ n ∈ l, n.t.Ok) {n0 : Nd} (h0 : l[0]? = some n0) : ∀ (rows : List Vl), (∀ v ∈ rows, vchk n0.t v = 0 ∧ v.null = false) → (Z1lm l 0 rows).here.count true = rows.length
  | [], _ => rfl
  | v :: vs, h => by
    rw [Z1lm]
    simp only [appC, List.count_append]
    rw [Z1pb hT hokA h0 vs fun v hv => h v (List.mem_cons_of_mem _ hv), List.length_cons]
    obtain ⟨h1, h2⟩ := h v (by simp)
    obtain ⟨nu, i, m, b, ks⟩ := v
    simp only [Vl.null] at h2
    subst h2
    have hz : pconL l 0 0 i 0 ks = col0 := Z1m5 ks 0 fun j w hj => by
      rw [Nat.zero_add]
      obtain ⟨x, q, e1, e2, e3, e4, e5, e6, e7⟩ := Z1m4 hT h0 (hokA n0 (List.mem_of_getElem? h0)) h1 hj
      rw [e2]
      refine Z1m7 hT w x q e3 e6 e7 fun hh => ?_
      have a1 := hh.le hT
      have a2 := hT.up e3 e4
      omega
    rw [pcon, if_neg (by simp), if_pos rfl, hz, Z1ln, Z1p9]
    omega
theorem Z1pc {k : Int} (hk : Zlt k = true) {op : Int} (hop : 1 ≤ op ∧ op ≤ 6) {w v lo hi : Vl} (hw : w.null = false) (hv : v.null = false) (hlo : lo.null = false) (hhi : hi.null = false) (h1 : 0 ≤ (cmpV k w lo).1) (h2 : (cmpV k w hi).1 ≤ 0) (hn : Z17z k op v lo hi = true) : Z17x op (cmpV k w v).1 = false := by
  have a1 := Z1ki hk w v hw hv
  have a2 := Z1ki hk w lo hw hlo
  have a3 := Z1ki hk w hi hw hhi
  have a4 := Z1ki hk v lo hv hlo
  have a5 := Z1ki hk v hi hv hhi
  have t1 := Z1kl hk w v lo hw hv hlo
  have t2 := Z1km hk w v lo hw hv hlo
  have t3 := Z1kl hk hi v w hhi hv hw
  have t4 := Z1km hk hi v w hhi hv hw
  have t5 := Z1kl hk v lo w hv hlo hw
  have t6 := Z1km hk w hi v hw hhi hv
  unfold Z17z at hn
  unfold Z17x
  have h6 : op = 1 ∨ op = 2 ∨ op = 3 ∨ op = 4 ∨ op = 5 ∨ op = 6 := by omega
  rcases h6 with rfl | rfl | rfl | rfl | rfl | rfl
  · rw [if_pos rfl] at hn ⊢
    have hn := of_decide_eq_true hn
    refine decide_eq_false fun e => ?_
    rcases hn with hn | hn
    · have := t5 hn (by omega); omega
    · have := t6 h2 (by omega); omega
  · rw [if_neg (by decide), if_pos rfl] at hn ⊢
    obtain ⟨n1, n2⟩ := of_decide_eq_true hn
    refine decide_eq_false fun e => ?_
    by_cases e2 : (cmpV k w v).1 < 0
    · have := t1 e2 (by omega); omega
    · have := t4 (by omega) (by omega); omega
  · rw [if_neg (by decide), if_neg (by decide), if_pos rfl] at hn ⊢
    have hn := of_decide_eq_true hn
    refine decide_eq_false fun e => ?_
    have := t1 e hn; omega
  · rw [if_neg (by decide), if_neg (by decide), if_neg (by decide), if_pos rfl] at hn ⊢
    have hn := of_decide_eq_true hn
    refine decide_eq_false fun e => ?_
    have := t2 e hn; omega
  · rw [if_neg (by decide), if_neg (by decide), if_neg (by decide), if_neg (by decide), if_pos rfl] at hn ⊢
    have hn := of_decide_eq_true hn
    refine decide_eq_false fun e => ?_
    have := t4 (by omega) (by omega); omega
  · rw [if_neg (by decide), if_neg (by decide), if_neg (by decide), if_neg (by decide), if_neg (by decide)] at hn ⊢
    have hn := of_decide_eq_true hn
    refine decide_eq_false fun e => ?_
    have := t3 (by omega) (by omega); omega
theorem sum01 : ∀ (l : List Int), (∀ x ∈ l, x = 0 ∨ x = 1) → 0 ≤ l.sum ∧ l.sum ≤ l.length ∧ (l.sum = l.length → ∀ x ∈ l, x = 1) ∧ (l.sum = 0 → ∀ x ∈ l, x = 0)
  | [], _ => ⟨by simp, by simp, fun _ x hx => (by cases hx), fun _ x hx => (by cases hx)⟩
  | a :: l, h => by
    obtain ⟨i1, i2, i3, i4⟩ := sum01 l fun x hx => h x (List.mem_cons_of_mem _ hx)
    have ha := h a (by simp)
    rw [List.sum_cons, List.length_cons]
    refine ⟨by omega, by omega, fun e x hx => ?_, fun e x hx => ?_⟩
    · rcases List.mem_cons.1 hx with r | r
      · omega
      · exact i3 (by omega) x r
    · rcases List.mem_cons.1 hx with r | r
      · omega
      · exact i4 (by omega) x r
theorem Z1pd {l : List Nd} {p : List Tm} (h : Z1fr l p = 0) : ∀ t ∈ p, t.v.null = false := by
  intro t ht
  rw [Z1fr] at h
  split at h
  · cases h
  · split at h
    · rename_i h2
      have := List.all_eq_true.1 h2 t ht
      simp only [okR, Bool.and_eq_true, Bool.not_eq_true'] at this
      exact this.2.2.1
    · cases h
theorem cmp_b {w : Vl} {x : Int} (h : w.null = false) (hn : w.n = 0) : (x ≤ w.i → 0 ≤ (cmpV 0 w (.mk false x 0 [] [])).1) ∧ (w.i ≤ x → (cmpV 0 w (.mk false x 0 [] [])).1 ≤ 0) := by
  obtain ⟨nu, i, m, b, ks⟩ := w
  simp only [Vl.null, Vl.n] at h hn
  subst h hn
  rw [Z1kh rfl _ _ rfl rfl, if_neg (by decide)]
  simp only [Vl.i, Vl.n, cmpI]
  constructor <;> intro h <;> (repeat' split) <;> omega
def mtF (k op : Int) (v w : Vl) : Int := if op = 7 then (if w.null = true then 1 else 0) else if op = 8 then (if w.null = true then 0 else 1) else if w.null = true then 2 else if Z17x op (cmpV k w v).1 = true then 1 else 0
theorem mt_F {l : List Nd} {row : Vl} {t : Tm} {n : Nd} (hg : goodF l t.col = true) (hn : l[t.col.toNat]? = some n) : mt l row t = mtF n.t.kind t.op t.v (getF l (t.col.toNat + 1) t.col row) := mt_eq hg hn
theorem Z1pe {l : List Nd} (hw : WfN l) (hT : TreeN l) (hokA : ∀ n ∈ l, n.t.Ok) {n0 : Nd} (h0 : l[0]? = some n0) {rows : List Vl} (hrows : ∀ v ∈ rows, vchk n0.t v = 0 ∧ v.null = false) {t : Tm} (hg : goodF l t.col = true) (hop : 1 ≤ t.op ∧ t.op ≤ 8) (hv : t.v.null = false)
    {ss : List Stt} (hs : ∀ i n, l[i]? = some n → ss[i]? = some (ofF n.t.kind (Z1lm l i rows))) (hm : mayR l t ss = false) {row : Vl} (hrow : row ∈ rows) : mt l row t ≠ 1 := by
  obtain ⟨k0, k1⟩ := Z181 hg
  obtain ⟨c, op, v⟩ := t
  simp only at k0 k1 hg hop hv
  obtain ⟨col, rfl⟩ : ∃ col : Nat, c = (col : Int) := ⟨c.toNat, by omega⟩
  obtain ⟨n, hn⟩ : ∃ n, l[col]? = some n := ⟨_, List.getElem?_eq_getElem (by omega)⟩
  obtain ⟨r1, r2, r3, r4⟩ := Z1pa hw hT hokA h0 hn hg rows fun v hv => (hrows v hv).1
  have hz := Z1pb hT hokA h0 rows hrows
  have hmt := mt_F (row := row) (t := ⟨(col : Int), op, v⟩) hg (n := n) (by rw [Int.toNat_natCast]; exact hn)
  simp only [Int.toNat_natCast] at hmt
  rw [hmt]
  rw [mayR] at hm
  simp only [Int.toNat_natCast, hn, hs col n hn, hs 0 n0 h0] at hm
  have hmem : (getF l (col + 1) col row).null = false → getF l (col + 1) col row ∈ getsF l col rows := fun e => List.mem_filter.2 ⟨List.mem_map_of_mem hrow, by rw [e]; rfl⟩
  have hall : ∀ w ∈ getsF l col rows, w.null = false := fun w hw => by
    have := (List.mem_filter.1 hw).2
    simpa using this
  rw [Z1ks, Z1ks] at hm
  simp only at hm
  have hvals : (valsC (Z1lm l col rows)).map (·.1) = getsF l col rows := by rw [r2, List.map_map]; simp [Function.comp_def]
  have hadds : (valsC (Z1lm l col rows)).map (·.2) = (getsF l col rows).map (addOf n.t.kind) := by rw [r2, List.map_map]; rfl
  have hB := Z1kw n.t.kind (Z1lm l col rows)
  have hS := @Z1ll n.t.kind (Z1lm l col rows)
  rw [hvals] at hB
  rw [hadds] at hS
  rw [r3, hz] at hm
  have hfull : (getsF l col rows).length = rows.length → (getF l (col + 1) col row).null = false := fun e => by
    have := (List.length_filter_eq_length_iff (p := fun v : Vl => !v.null) (l := rows.map (getF l (col + 1) col))).1 (by rw [List.length_map]; exact e) _ (List.mem_map_of_mem hrow)
    simpa using this
  generalize getF l (col + 1) (col : Int) row = w at hmem hfull ⊢
  clear hmt
  unfold mtF
  by_cases h7 : op = 7
  · rw [if_pos h7] at hm ⊢
    cases hw' : w.null with
    | false => simp
    | true =>
      exfalso
      simp only [Bool.not_eq_false', Bool.and_eq_true, decide_eq_true_eq] at hm
      have := hfull (by omega)
      rw [hw'] at this
      cases this
  rw [if_neg h7] at hm ⊢
  cases hw' : w.null with
  | true =>
    rw [if_pos rfl]
    split <;> simp
  | false =>
  have hm1 := hmem hw'
  have hpos : (getsF l col rows).length ≠ 0 := by
    intro e
    rw [List.length_eq_zero_iff.1 e] at hm1
    cases hm1
  rw [if_neg (by omega)] at hm
  by_cases h8 : op = 8
  · rw [if_pos h8] at hm; cases hm
  rw [if_neg h8] at hm ⊢
  rw [if_neg (by simp)]
  obtain ⟨v1, v2⟩ := r4 w hm1
  have hn1 : Z17x op (cmpV n.t.kind w v).1 = false := by
    rw [Bool.and_eq_false_iff] at hm
    rcases hm with hm | hm
    · simp only [Bool.not_eq_false', Bool.and_eq_true] at hm
      obtain ⟨a1, a2⟩ := hm
      obtain ⟨b1, b2⟩ := hB.all a1 w hm1
      exact Z1pc v2 (by omega) hw' hv hB.nmin hB.nmax b1 b2 a2
    · simp only [Bool.not_eq_false', Bool.and_eq_true, decide_eq_true_eq] at hm
      obtain ⟨⟨a0, a1⟩, a2⟩ := hm
      have hsum := hS a1
      rw [hsum] at a2
      have hb : ∀ u ∈ getsF l col rows, (u.i = 0 ∨ u.i = 1) ∧ u.n = 0 := fun u hu => by
        obtain ⟨u1, _⟩ := r4 u hu
        have un := hall u hu
        obtain ⟨nu, i, m, b, ks⟩ := u
        simp only [Vl.null] at un
        subst un
        have ho := (Z1m3 u1).1
        unfold ownV at ho
        split at ho
        · cases ho
        rename_i h1
        simp only [not_or, Bool.not_eq_false] at h1
        have c1 := h1.1
        rw [a0, Zme] at c1
        split at c1
        · cases c1
        · rename_i h2
          rw [if_pos rfl] at c1
          exact ⟨of_decide_eq_true c1, by simp only [not_and, Decidable.not_not] at h2; simp only [Vl.n]; by_cases e : m = 0; exact e; exact absurd (h2 e) (by decide)⟩
      have hA : (getsF l col rows).map (addOf n.t.kind) = (getsF l col rows).map Vl.i := List.map_congr_left fun u hu => by rw [addOf, a0]; rfl
      obtain ⟨s1, s2, s3, s4⟩ := sum01 ((getsF l col rows).map Vl.i) (fun x hx => by
        obtain ⟨u, hu, rfl⟩ := List.mem_map.1 hx
        exact (hb u hu).1)
      rw [hA] at a2
      rw [List.length_map] at s2 s3
      obtain ⟨w1, w2⟩ := hb w hm1
      have hwi : w.i ∈ (getsF l col rows).map Vl.i := List.mem_map_of_mem hm1
      refine Z1pc v2 (by omega) hw' hv (lo := .mk false (if ((getsF l col rows).map Vl.i).sum = ((getsF l col rows).length : Int) then 1 else 0) 0 [] []) (hi := .mk false (if ((getsF l col rows).map Vl.i).sum = 0 then 0 else 1) 0 [] []) rfl rfl ?_ ?_ a2
      · rw [a0]
        refine (cmp_b hw' w2).1 ?_
        by_cases e : ((getsF l col rows).map Vl.i).sum = ((getsF l col rows).length : Int)
        · rw [if_pos e, s3 e _ hwi]; decide
        · rw [if_neg e]
          omega
      · rw [a0]
        refine (cmp_b hw' w2).2 ?_
        by_cases e : ((getsF l col rows).map Vl.i).sum = 0
        · rw [if_pos e, s4 e _ hwi]; decide
        · rw [if_neg e]
          omega
  rw [hn1]
  simp
theorem Z1pf {t : Ty} (h : Zlx t = 0) : ∃ n, (Zm4 t)[0]? = some n ∧ n.t = t := by
  have := Z1lw t 0 (-1) 1 []
  rw [List.append_nil] at this
  rw [Zm4, if_pos h]
  exact ⟨_, this, rfl⟩
def Z1pg (l : List Nd) (cols : List Col) : List Stt := List.zipWith (fun n c => ofF n.t.kind c) l cols
theorem Z1ph {l : List Nd} {cols : List Col} {i : Nat} {n : Nd} {c : Col} (hn : l[i]? = some n) (hc : cols[i]? = some c) : (Z1pg l cols)[i]? = some (ofF n.t.kind c) := by
  rw [Z1pg, List.getElem?_zipWith, hn, hc]
theorem Z1pi {t : Ty} {rows : List Vl} {p : List Tm} (h : (Z1i6 t rows).2 = 0) (hk : Z1fr (Zm4 t) p = 0) :
    MayF (Zm4 t) (Z1pg (Zm4 t) (Z1i6 t rows).1) p = p.all (fun u => mayR (Zm4 t) u (Z1pg (Zm4 t) (Z1i6 t rows).1)) ∧
    (MayF (Zm4 t) (Z1pg (Zm4 t) (Z1i6 t rows).1) p = false → ∀ row ∈ rows, Z189 (Zm4 t) row p 1 ≠ 1) := by
  obtain ⟨h0, h1, h2, h3⟩ := Z1l1 h
  have hrows := Z1i8 h1
  obtain ⟨n0, hn0, e0⟩ := Z1pf h0
  have hgood := Z1g5 hk
  have hv := Z1pd hk
  have hT := Z1m1 t
  have hw := Z1f9 t
  have hok := Z1fa t
  have hsl : (Z1i6 t rows).1.length = (Zm4 t).length := Z1l2 h
  have hs : ∀ i n, (Zm4 t)[i]? = some n → (Z1pg (Zm4 t) (Z1i6 t rows).1)[i]? = some (ofF n.t.kind (Z1lm (Zm4 t) i rows)) := fun i n hn =>
    Z1ph hn (Z1lv h (List.getElem?_eq_some_iff.1 hn).1)
  have hlen : (Z1pg (Zm4 t) (Z1i6 t rows).1).length = (Zm4 t).length := by rw [Z1pg, List.length_zipWith, hsl]; omega
  generalize Z1pg (Zm4 t) (Z1i6 t rows).1 = ss at *
  generalize Zm4 t = l at *
  have hM : MayF l ss p = p.all fun u => mayR l u ss := Z1p2 hlen p fun u hu => by
    obtain ⟨hg, _⟩ := hgood u hu
    obtain ⟨k0, k1⟩ := Z181 hg
    have hn := List.getElem?_eq_getElem (l := l) (i := u.col.toNat) (by omega)
    refine ⟨hg, Z1p1 hn (hs _ _ hn) (hs 0 n0 hn0) fun hk0 => ?_⟩
    rw [hk0, Z1ks]
    show (spC 0 (Z1lm l u.col.toNat rows)).has = false
    exact Z1lh rfl _ _ rfl
  refine ⟨hM, fun hf row hrow hm => ?_⟩
  rw [hM] at hf
  obtain ⟨u, hu, hmu⟩ := List.all_eq_false.1 hf
  obtain ⟨hg, hop⟩ := hgood u hu
  have hA := (Z1g3 (l := l) (row := row) p 1 hgood (.inl rfl)).2
  rw [hm] at hA
  simp only [decide_true, Bool.true_and] at hA
  have hu1 := of_decide_eq_true (List.all_eq_true.1 hA.symm u hu)
  exact Z1pe hw hT hok hn0 (fun v hv => by rw [e0]; exact hrows v hv) hg hop (hv u hu) hs (by simpa using hmu) hrow hu1
end Go.Abs
namespace Go.Abs
open Go Go.Proofs
set_option linter.unusedVariables false
set_option linter.unusedSimpArgs false
set_option maxHeartbeats 4000000
attribute [local irreducible] AWp aops KP
theorem Z1g7 {t : Ty} {rows : List Vl} (h : few15 t rows = true) : t.Fit ∧ rows.length ≤ 200 := by
  unfold few15 at h
  simp only [Bool.and_eq_true, decide_eq_true_eq] at h
  exact ⟨(Z1ff t 1 (by omega)).fit, h.2.1⟩
end Go.Abs
namespace Go.Abs
open Go Go.Proofs
set_option linter.unusedVariables false
set_option linter.unusedSimpArgs false
set_option maxHeartbeats 4000000
attribute [local irreducible] AWp aops KP
theorem Z1pj (s : Stt) (σ : Zc) : Z1q Try.prog Zda [encS s] σ fun r σ' => r = encS s ∧ σ' = σ := by
  refine Z8t rfl Z1or (Nat.le_of_ble_eq_true rfl) ?_
  refine Z9z ?_
  refine Z9j rfl (Z0.fit_iff.1 rfl) fun b1 hb1 => ?_
  refine Z9k (by simp [Z0.cells, Z0.one]) fun b2 hb2 => ?_
  (refine Z8y ?_; (repeat (first | refine Z9v rfl ?_ | refine Z9w ?_)); refine Z9u ?_)
  refine Z8a (FSub.refl _) (HSub.swap _ _ _) ?_
  refine Zb3 (d := 1) (cs := Zxp s) rfl ?_
  refine Z9z ?_
  (repeat (refine st_q rfl rfl rfl ?_))
  refine Z9a rfl Z8z rfl (by decide) (Z0.fit_iff.1 rfl) (fun h => by cases h) Z9b ?_
  (refine Z8y ?_; (repeat (first | refine Z9v rfl ?_ | refine Z9w ?_)); refine Z9u ?_)
  refine Z8d ?_
  exact ares (vs := [encS s]) (Zy4 rfl Z8z rfl) (HSub.tail _ _) ⟨rfl, rfl⟩
theorem Z1pk (t : Ty) (p : List Tm) (rows : List Vl) (hp : ∀ t ∈ p, t.v.Fit) (hr : ∀ v ∈ rows, v.Fit) (σ : Zc) : Z1q Try.prog Zcd [encT t, .slc 7 (p.map encM) false, .slc 5 (Zm5 rows) false] σ fun r σ' => r = .bool true ∧ σ' = σ := by
  have hpl : (p.map encM).length = p.length := List.length_map ..
  have hrl := Zm9 rows
  have hFew := Z1fl t rows false
  have hFp := Z1fq p false
  rw [Zlp] at hFew ⊢
  refine Z8t rfl Z1oq (Nat.le_of_ble_eq_true rfl) ?_
  refine Z9z ?_
  refine Z9j rfl (Z0.fit_iff.1 rfl) fun b3 hb3 => ?_
  (repeat (refine st_q rfl rfl rfl ?_))
  (refine Z8y ?_; (repeat (first | refine Z9v rfl ?_ | refine Z9w ?_)); refine Z9u ?_)
  refine Zb3 (d := 3) (cs := Zlo t) rfl ?_
  (refine Z9y (keep := [1, 2, 3]) ?_; ((repeat (first | refine Z9v rfl ?_ | refine Z9w ?_)); refine Z9u ?_))
  (repeat (first | refine awp_seq ?_ | refine Zbm (fun _ _ => rfl) ?_))
  refine Z9t rfl (Z19o _) ?_
  (repeat (first | refine st_q rfl rfl rfl ?_ | (refine Z8y ?_; (repeat (first | refine Z9v rfl ?_ | refine Z9w ?_)); refine Z9u ?_) | refine awp_seq ?_ | refine Zbm (fun _ _ => rfl) ?_ | refine Zbn (fun _ _ => rfl) ?_ | refine Z8f (t := false) rfl (fun e => by cases e) (fun _ => ?_)))
  refine Z9t rfl (hFew _) ?_
  have hret : ∀ (X : Z2b) (F : Z26), AWp Try.prog Z1n0.n (.seq (.region Z1mc [6]) .ret) (Z8e Try.prog Z1n0.n X (ARet Z1n0.res fun r σ' => r = .bool true ∧ σ' = σ)) F σ := fun X F => by
    refine Z9z ?_
    (repeat (refine st_q rfl rfl rfl ?_))
    (refine Z8y ?_; (repeat (first | refine Z9v rfl ?_ | refine Z9w ?_)); refine Z9u ?_)
    refine Z8d ?_
    exact ares rfl (HSub.refl _) ⟨rfl, rfl⟩
  cases hfw : few15 t rows with
  | false =>
    (repeat (first | refine st_q rfl rfl rfl ?_ | refine Z8w rfl ?_))
    (refine Z8y ?_; (repeat (first | refine Z9v rfl ?_ | refine Z9w ?_)); refine Z9u ?_)
    exact Z8f rfl (fun _ => hret _ _) (fun e => by cases e)
  | true =>
  obtain ⟨hfit, hrl2⟩ := Z1g7 hfw
  have hRC := Zn4 t hfit
  have hRF := Zno t (Zn4 t hfit)
  have hFl := Znk t hfit
  rw [Zlp] at hRC hRF hFl
  (repeat (first | refine st_q rfl rfl rfl ?_ | refine Z8v rfl (st_q rfl rfl rfl ?_)))
  refine Z8v rfl (Z9t rfl (hFp _) ?_)
  cases hfp : few25 p with
  | false =>
    (repeat (first | refine st_q rfl rfl rfl ?_ | refine Z8v rfl (st_q rfl rfl rfl ?_) | refine Z8w rfl ?_))
    (refine Z8y ?_; (repeat (first | refine Z9v rfl ?_ | refine Z9w ?_)); refine Z9u ?_)
    exact Z8f rfl (fun _ => hret _ _) (fun e => by cases e)
  | true =>
  have hp20 : p.length ≤ 20 := by
    rw [few25] at hfp
    split at hfp
    · cases hfp
    · omega
  (repeat (first | refine st_q rfl rfl rfl ?_ | refine Z8v rfl (st_q rfl rfl rfl ?_)))
  refine Z8v rfl (Z9t rfl (hRC _) ?_)
  by_cases hck : Zlx t = 0
  rotate_left
  · (repeat (first | refine st_q rfl rfl rfl ?_ | refine Z8v rfl (st_q rfl rfl rfl ?_)))
    (rw [show decide ((Zlx t : Int) ≠ 0) = true from decide_eq_true (by omega)])
    skip
    (refine Z8y ?_; (repeat (first | refine Z9v rfl ?_ | refine Z9w ?_)); refine Z9u ?_)
    exact Z8f rfl (fun _ => hret _ _) (fun e => by cases e)
  (repeat (first | refine st_q rfl rfl rfl ?_ | refine Z8v rfl (st_q rfl rfl rfl ?_)))
  (rw [show decide ((Zlx t : Int) ≠ 0) = false from decide_eq_false (by omega)])
  skip
  (refine Z8y ?_; (repeat (first | refine Z9v rfl ?_ | refine Z9w ?_)); refine Z9u ?_)
  refine Z8f (t := false) rfl (fun e => by cases e) (fun _ => ?_)
  refine Za4 ?_
  have hS := Z1i9 t hfit rows hr (by omega)
  rw [Zlp] at hS
  have hw := Z1f9 t
  have hokA := Z1fa t
  have hL100 := Z1li t
  have hRK := Z1fs (Zm4 t) hw (Z1fa t) false false p hp
  have hP := @Z1pi t rows p
  have hcol := fun (he : (Z1i6 t rows).2 = 0) => @Z1l3 t rows hr he
  have hcl := @Z1l2 t rows
  generalize Z1i6 t rows = X at hS hcol hcl hP
  obtain ⟨cols, e⟩ := X
  generalize Zm4 t = L at hRF hFl hcol hcl hL100 hP hw hokA hRK
  (repeat (first | refine st_q rfl rfl rfl ?_ | refine awp_seq ?_ | refine Zbm (fun _ _ => rfl) ?_))
  refine Z9t rfl (hRF _) ?_
  (repeat (first | refine st_q rfl rfl rfl ?_ | (refine Z8y ?_; (repeat (first | refine Z9v rfl ?_ | refine Z9w ?_)); refine Z9u ?_) | refine awp_seq ?_ | refine Zbm (fun _ _ => rfl) ?_))
  refine Z9t rfl (hFl _) ?_
  (repeat (first | refine st_q rfl rfl rfl ?_ | (refine Z8y ?_; (repeat (first | refine Z9v rfl ?_ | refine Z9w ?_)); refine Z9u ?_) | refine awp_seq ?_ | refine Zbm (fun _ _ => rfl) ?_))
  refine Z9t rfl (hS _) ?_
  (repeat (first | refine st_q rfl rfl rfl ?_ | (refine Z8y ?_; (repeat (first | refine Z9v rfl ?_ | refine Z9w ?_)); refine Z9u ?_) | refine awp_seq ?_ | refine Zbm (fun _ _ => rfl) ?_))
  have hret2 : ∀ (X : Z2b) (F : Z26), AWp Try.prog Z1n0.n (.seq (.region Z1mh [6]) .ret) (Z8e Try.prog Z1n0.n X (ARet Z1n0.res fun r σ' => r = .bool true ∧ σ' = σ)) F σ := fun X F => by
    refine Z9z ?_
    (repeat (refine st_q rfl rfl rfl ?_))
    (refine Z8y ?_; (repeat (first | refine Z9v rfl ?_ | refine Z9w ?_)); refine Z9u ?_)
    refine Z8d ?_
    exact ares rfl (HSub.refl _) ⟨rfl, rfl⟩
  by_cases he : e = 0
  rotate_left
  · rw [show decide (((cols, e).snd : Int) ≠ 0) = true from decide_eq_true (by simp; omega)]
    (repeat (first | refine st_q rfl rfl rfl ?_ | refine Z8w rfl ?_))
    (refine Z8y ?_; (repeat (first | refine Z9v rfl ?_ | refine Z9w ?_)); refine Z9u ?_)
    exact Z8f rfl (fun _ => hret2 _ _) (fun e => by cases e)
  rw [show decide (((cols, e).snd : Int) ≠ 0) = false from decide_eq_false (by simp; omega)]
  have hcol := fun (j : Nat) (c : Col) => @hcol he j c
  have hcl := hcl he
  simp only at hcol hcl
  (repeat refine Z8v rfl (st_q rfl rfl rfl ?_))
  refine Z8v rfl (Z9t rfl (Z1fp p (by omega) false _) ?_)
  skip
  refine Z8v rfl (Z9t rfl (hRK _) ?_)
  by_cases hkr : Z1fr L p = 0
  rotate_left
  · (repeat (first | refine st_q rfl rfl rfl ?_ | refine Z8v rfl (st_q rfl rfl rfl ?_)))
    (rw [show decide ((Z1fr L p : Int) ≠ 0) = true from decide_eq_true (by omega)])
    skip
    (refine Z8y ?_; (repeat (first | refine Z9v rfl ?_ | refine Z9w ?_)); refine Z9u ?_)
    exact Z8f rfl (fun _ => hret2 _ _) (fun e => by cases e)
  (repeat (first | refine st_q rfl rfl rfl ?_ | refine Z8v rfl (st_q rfl rfl rfl ?_)))
  (rw [show decide ((Z1fr L p : Int) ≠ 0) = false from decide_eq_false (by omega)])
  skip
  (refine Z8y ?_; (repeat (first | refine Z9v rfl ?_ | refine Z9w ?_)); refine Z9u ?_)
  refine Z8f (t := false) rfl (fun e => by cases e) (fun _ => ?_)
  refine Za4 ?_
  obtain ⟨hP1, hP2⟩ := hP he hkr
  simp only at hP1 hP2
  have hgood := Z1g5 hkr
  have hsl : (Z1pg L cols).length = L.length := by rw [Z1pg, List.length_zipWith, hcl]; omega
  obtain ⟨ss, hss⟩ : ∃ ss, ss = Z1pg L cols := ⟨_, rfl⟩
  have Zd : ∀ i (hi : i < L.length) (hc : i < cols.length), ss[i]? = some (ofF (L[i]).t.kind cols[i]) := fun i hi hc => by
    rw [hss]; exact Z1ph (List.getElem?_eq_getElem hi) (List.getElem?_eq_getElem hc)
  rw [← hss] at hP1 hP2 hsl
  clear hss
  (repeat (first | refine st_q rfl rfl rfl ?_ | (refine Z8y ?_; (repeat (first | refine Z9v rfl ?_ | refine Z9w ?_)); refine Z9u ?_) | refine awp_seq ?_ | refine Zbm (fun _ _ => rfl) ?_ | refine Z8h ?_))
  refine Zaa (fun m F σ' => ∃ (i : Nat) (v1 v2 : Z0) (β1 β2 : Zc), F = fset 1 (some (.slc 7 (p.map encM) false)) (fset 2 (some (.slc 5 (Zm5 rows) false)) (fset 7 (some (.slc 9 (L.map encR) false)) (fset 8 (some (.slc 8 (L.map encN) true)) (fset 9 (some (.slc 5 (cols.map encC) false)) (fset 11 (some v1) (fset 12 (some v2) (fset 13 (some (.int .i64 (i : Int))) Z27))))))) ∧
    β1 ++ (β2 ++ σ) = σ' ∧ Zbr 15 v1 ((ss.take i).map encS) β1 ∧ Zbr 15 v2 ((ss.take i).map encS) β2 ∧ i ≤ L.length ∧ m = L.length - i) (n := L.length)
    ⟨0, _, _, [], [], rfl, rfl, Zbr.nil 15 0, Zbr.nil 15 0, by omega, rfl⟩ ?_
  rintro m F σ' ⟨i, v1, v2, β1, β2, rfl, rfl, ho1, ho2, hi, rfl⟩
  (repeat (first | refine st_q rfl rfl rfl ?_ | (refine Z8y ?_; (repeat (first | refine Z9v rfl ?_ | refine Z9w ?_)); refine Z9u ?_) | refine awp_seq ?_ | refine Zbm (fun _ _ => rfl) ?_))
  rw [List.length_map]
  refine Za3 (p := (i : Int) < (L.length : Int)) rfl (fun h5 => ?_) (fun h5 => ?_)
  · have hil : i < L.length := by omega
    have hic : i < cols.length := by omega
    have hok := hcol i cols[i] (List.getElem?_eq_getElem hic)
    rw [Z1lj hil] at hok
    have hgR := Zxw (f := encR) hil
    have hgC := Zxw (f := encC) hic
    have hg := Zd i hil hic
    generalize L[i] = nd at hok hgR hg
    generalize cols[i] = c at hok hgC hg
    have hRO := Z1lf (Zlo nd.t) nd.t.kind rfl rfl (Z1lk nd.t) c hok.fit hok.good
    rw [Z1ke _ _ hok.good] at hRO
    generalize ofF nd.t.kind c = Y at hRO hg
    have htk : (ss.take (i + 1)).map encS = (ss.take i).map encS ++ [encS Y] := by
      rw [List.take_add_one, hg, List.map_append]; rfl
    have hlen : ((ss.take i).map encS).length = i := by rw [List.length_map, List.length_take]; omega
    refine Zbn (fun _ _ => rfl) ?_
    refine awp_seq ?_
    refine Z8h ?_
    refine Z9z ?_
    (repeat (refine st_q rfl rfl rfl ?_))
    refine Z93 rfl (by omega) hgR ?_
    (repeat (refine st_q rfl rfl rfl ?_))
    refine Z93 rfl (by omega) hgC ?_
    (repeat (refine st_q rfl rfl rfl ?_))
    refine Z9t rfl (hRO _) ?_
    (repeat (refine st_q rfl rfl rfl ?_))
    refine Zbs (ys := [encS Y]) ho1 rfl rfl (by rw [hlen]; simp; omega) fun b1 hb1 => ?_
    rw [← htk]
    (repeat (refine st_q rfl rfl rfl ?_))
    (refine Z8y ?_; (repeat (first | refine Z9v rfl ?_ | refine Z9w ?_)); refine Z9u ?_)
    have hbn : b1 ∉ Zh β2 := fun hm => hb1 (by simp only [Zh, List.map_append, List.mem_append] at hm ⊢; exact .inr (.inl hm))
    refine Zb4 (β := [(b1, .cells 15 ((ss.take (i + 1)).map encS))]) (γ := β2) ?_
    have hl1 : ((ss.take (i + 1)).map encS).length = i + 1 := by rw [List.length_map, List.length_take]; omega
    have hx1 : ((ss.take (i + 1)).map encS)[0 + ((i : Nat) : Int).toNat]? = some (encS Y) := by
      rw [htk, Nat.zero_add, Int.toNat_natCast, List.getElem?_append_right (by omega), hlen, Nat.sub_self]; rfl
    refine Zbm (fun _ _ => rfl) ?_
    (repeat (refine st_q rfl rfl rfl ?_))
    refine Z94 rfl ⟨by omega, by omega⟩ ?_
    (repeat (refine st_q rfl rfl rfl ?_))
    refine Z92 rfl (by rw [Zah hbn]; exact Z8z) hx1 rfl ?_
    (repeat (refine st_q rfl rfl rfl ?_))
    refine Z9t rfl (Z1pj Y _) ?_
    (repeat (refine st_q rfl rfl rfl ?_))
    refine Zbs (ys := [encS Y]) ho2 rfl rfl (by rw [hlen]; simp; omega) fun b2 hb2 => ?_
    rw [← htk]
    (repeat (refine st_q rfl rfl rfl ?_))
    (refine Z8y ?_; (repeat (first | refine Z9v rfl ?_ | refine Z9w ?_)); refine Z9u ?_)
    refine Zb4 (β := [(b2, .cells 15 ((ss.take (i + 1)).map encS))]) (γ := [(b1, .cells 15 ((ss.take (i + 1)).map encS))]) ?_
    refine Zbp ?_
    (repeat (refine st_q rfl rfl rfl ?_))
    rw [show IntKind.wrap .i64 ((i : Int) + 1) = ((i + 1 : Nat) : Int) by rw [w64 _ (by omega) (by omega)]; omega]
    (refine Z8y ?_; (repeat (first | refine Z9v rfl ?_ | refine Z9w ?_)); refine Z9u ?_)
    exact ⟨_, L.length - (i + 1), HSub.refl _, ⟨i + 1, _, _, _, _, rfl, rfl, Zbr.mk, Zbr.mk, by omega, rfl⟩, by omega⟩
  have e : ss.take i = ss := List.take_of_length_le (by omega)
  rw [e] at ho1 ho2
  refine Zbo (fun _ _ => rfl) ?_
  refine Zbt (d := 11) rfl (Zb6.growG ho1) ?_
  refine Zbt (d := 12) rfl (Zb6.growG ho2) ?_
  (refine Z9y (keep := [1, 2, 7, 8, 11, 12]) ?_; ((repeat (first | refine Z9v rfl ?_ | refine Z9w ?_)); refine Z9u ?_))
  have hM1 := c_May L hw true false false p (by omega) ss
  have hM2 := Z1p0 L hw false false false p (by omega) ss hsl (fun t ht => (hgood t ht).1)
  rw [← hP1] at hM2
  generalize MayF L ss p = may at hM1 hM2 hP2
  (repeat (first | refine st_q rfl rfl rfl ?_ | refine awp_seq ?_ | refine Zbm (fun _ _ => rfl) ?_))
  refine Z9t rfl (hM1 _) ?_
  (repeat (first | refine st_q rfl rfl rfl ?_ | (refine Z8y ?_; (repeat (first | refine Z9v rfl ?_ | refine Z9w ?_)); refine Z9u ?_) | refine awp_seq ?_ | refine Zbm (fun _ _ => rfl) ?_))
  refine Z9t rfl (Z1fp p (by omega) false _) ?_
  (repeat refine st_q rfl rfl rfl ?_)
  refine Z9t rfl (hM2 _) ?_
  have hmm : (!may == may) = false := by cases may <;> rfl
  (repeat (refine st_q rfl rfl rfl ?_))
  (refine Z8y ?_; (repeat (first | refine Z9v rfl ?_ | refine Z9w ?_)); refine Z9u ?_)
  rw [hmm]
  refine Z8f (t := false) rfl (fun e => by cases e) (fun _ => ?_)
  refine Za4 ?_
  (repeat (first | refine st_q rfl rfl rfl ?_ | (refine Z8y ?_; (repeat (first | refine Z9v rfl ?_ | refine Z9w ?_)); refine Z9u ?_) | refine awp_seq ?_ | refine Zbm (fun _ _ => rfl) ?_ | refine Z8h ?_))
  refine Zaa (fun m F σ' => ∃ (i : Nat), F = fset 1 (some (.slc 7 (p.map encM) false)) (fset 2 (some (.slc 5 (Zm5 rows) false)) (fset 8 (some (.slc 8 (L.map encN) true)) (fset 14 (some (.bool may)) (fset 15 (some (.int .i64 (i : Int))) Z27)))) ∧
    σ = σ' ∧ i ≤ rows.length ∧ m = rows.length - i) (n := rows.length) ⟨0, rfl, rfl, by omega, rfl⟩ ?_
  rintro m F σ' ⟨i, rfl, rfl, hi, rfl⟩
  (repeat (first | refine st_q rfl rfl rfl ?_ | refine awp_seq ?_ | refine Zbm (fun _ _ => rfl) ?_))
  rw [hrl]
  by_cases h6 : i < rows.length
  · (rw [show decide ((i : Int) < (rows.length : Int)) = true from decide_eq_true (by omega)])
    cases may with
    | true =>
      (repeat (first | refine st_q rfl rfl rfl ?_ | refine Z8v rfl (st_q rfl rfl rfl ?_) | (refine Z8y ?_; (repeat (first | refine Z9v rfl ?_ | refine Z9w ?_)); refine Z9u ?_) | refine awp_seq ?_ | refine Zbm (fun _ _ => rfl) ?_ | refine Zbo (fun _ _ => rfl) ?_ | refine Z8f (t := false) rfl (fun e => by cases e) (fun _ => ?_)))
      refine Z8d ?_
      exact ares rfl (HSub.refl _) ⟨rfl, rfl⟩
    | false =>
      have hgv := List.getElem?_eq_getElem h6
      have hne := hP2 rfl rows[i] (List.getElem_mem h6)
      have hxv : (Zm5 rows)[((i : Nat) : Int).toNat]? = some (encV rows[i]) := Zma (by rw [Int.toNat_natCast, hgv])
      generalize rows[i] = row at hne hxv
      have hMt := Z18a L hw true false p (by omega) row
      rw [Zm7] at hMt hxv
      (repeat (first | refine st_q rfl rfl rfl ?_ | refine Z8v rfl (st_q rfl rfl rfl ?_) | (refine Z8y ?_; (repeat (first | refine Z9v rfl ?_ | refine Z9w ?_)); refine Z9u ?_) | refine awp_seq ?_ | refine Zbm (fun _ _ => rfl) ?_ | refine Z8h ?_ | refine Zbn (fun _ _ => rfl) ?_ | refine Z8f (t := true) rfl (fun _ => ?_) (fun e => by cases e)))
      refine Z93 rfl (by omega) hxv ?_
      (repeat (refine st_q rfl rfl rfl ?_))
      refine Z9t rfl (hMt _) ?_
      (repeat (refine st_q rfl rfl rfl ?_))
      rw [show decide (Z189 L row p 1 = 1) = false from decide_eq_false hne]
      (repeat (first | (refine Z8y ?_; (repeat (first | refine Z9v rfl ?_ | refine Z9w ?_)); refine Z9u ?_) | refine Zbn (fun _ _ => rfl) ?_ | refine Z8f (t := false) rfl (fun e => by cases e) (fun _ => ?_)))
      refine Zbp ?_
      (repeat (refine st_q rfl rfl rfl ?_))
      rw [show IntKind.wrap .i64 ((i : Int) + 1) = ((i + 1 : Nat) : Int) by rw [w64 _ (by omega) (by omega)]; omega]
      (refine Z8y ?_; (repeat (first | refine Z9v rfl ?_ | refine Z9w ?_)); refine Z9u ?_)
      exact ⟨_, rows.length - (i + 1), HSub.refl _, ⟨i + 1, rfl, rfl, by omega, rfl⟩, by omega⟩
  · (rw [show decide ((i : Int) < (rows.length : Int)) = false from decide_eq_false (by omega)])
    (repeat (first | refine st_q rfl rfl rfl ?_ | refine Z8w rfl ?_ | (refine Z8y ?_; (repeat (first | refine Z9v rfl ?_ | refine Z9w ?_)); refine Z9u ?_) | refine awp_seq ?_ | refine Zbm (fun _ _ => rfl) ?_ | refine Zbo (fun _ _ => rfl) ?_ | refine Z8f (t := false) rfl (fun e => by cases e) (fun _ => ?_)))
    refine Z8d ?_
    exact ares rfl (HSub.refl _) ⟨rfl, rfl⟩
end Go.Abs

