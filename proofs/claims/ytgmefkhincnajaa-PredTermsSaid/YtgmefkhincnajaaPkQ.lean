/- Part Q of a proof: merged by program. -/
import Derived.Test.YtgmefkhincnajaaProg
import Derived.KernelRfl
import Derived.Test.YtgmefkhincnajaaPkL
namespace Go.Abs
open Go
theorem Yq1 {P : Program} {N : Nat} {x : Zw} {a b : Z2b} {R : Z87} {F : Z26} {σ : Zc} (hx : ev F x = some (.bool true)) (h : AWp P N a R F σ) : AWp P N (.cond x a b) R F σ := Z8f (t := true) hx (fun _ => h) (fun e => by cases e)
theorem Yfi {sz : Nat} {v : Z0} (h : Z0.fit sz v = true) : v.elem sz := Z0.fit_iff.1 h
theorem Yar {res : List ARes} {R : Z0 → Zc → Prop} {F : Z26} {σ : Zc} {vs : List Z0} (h : Z8l F σ res = some vs) (hR : R (Z8m vs) σ) : ARet res R .ret F σ := ares h (HSub.refl _) hR
theorem Yq2 {P : Program} {N : Nat} {x : Zw} {a b : Z2b} {R : Z87} {F : Z26} {σ : Zc} (hx : ev F x = some (.bool false)) (h : AWp P N b R F σ) : AWp P N (.cond x a b) R F σ := Z8f (t := false) hx (fun e => by cases e) (fun _ => h)
end Go.Abs
namespace Go.Abs
open Go Go.Proofs
set_option linter.unusedVariables false
set_option linter.unusedSimpArgs false
set_option maxHeartbeats 4000000
attribute [local irreducible] AWp aops KP
def Z1bc : List Z2a := [
  ⟨some 2, (.box 6), [.t 0], none⟩,
  ⟨some 4, .mov, [.c (.bool false)], none⟩]
def Z1bd : List Z2a := [
  ⟨some 7, (.load true 6), [.t 2], none⟩,
  ⟨some 8, (.call Zdr), [.t 7], none⟩,
  ⟨some 9, .unot, [.t 8], none⟩,
  ⟨some 10, .mov, [.t 9], none⟩,
  ⟨some 11, .mov, [.t 1], some (10, false)⟩,
  ⟨some 12, .lens, [.t 11], some (10, false)⟩,
  ⟨some 13, (.bin .gtr), [.t 12, .c (.int .i64 200)], some (10, false)⟩,
  ⟨some 14, .pick, [.t 10, .c (.bool true), .t 13], none⟩]
def Z1be : List Z2a := [
  ⟨some 4, .mov, [.c (.bool false)], none⟩]
def Z1bf : List Z2a := [
  ⟨some 5, .mov, [.c (.int .i64 0)], none⟩]
def Z1bg : List Z2a := [
  ⟨some 6, .mov, [.c (.int .i64 0)], none⟩]
def Z1bh : List Z2a := [
  ⟨some 15, .mov, [.t 6], none⟩,
  ⟨some 16, .mov, [.t 1], none⟩,
  ⟨some 17, .lens, [.t 16], none⟩,
  ⟨some 18, (.bin .lss), [.t 15, .t 17], none⟩]
def Z1bi : List Z2a := [
  ⟨some 21, .mov, [.t 5], none⟩,
  ⟨some 22, .mov, [.t 1], none⟩,
  ⟨some 23, .mov, [.t 6], none⟩,
  ⟨some 24, (.iad 5), [.t 22, .t 23], none⟩,
  ⟨some 25, (.load true 5), [.t 24], none⟩,
  ⟨some 26, (.call Zdz), [.t 25], none⟩,
  ⟨some 27, (.bin .add), [.t 21, .t 26], none⟩,
  ⟨some 5, .mov, [.t 27], none⟩]
def Z1bj : List Z2a := [
  ⟨some 28, .mov, [.t 5], none⟩,
  ⟨some 29, (.bin .gtr), [.t 28, .c (.int .i64 1000)], none⟩]
def Z1bk : List Z2a := [
  ⟨some 4, .mov, [.c (.bool false)], none⟩]
def Z1bl : List Z2a := [
  ⟨some 19, .mov, [.t 6], none⟩,
  ⟨some 20, (.bin .add), [.t 19, .c (.int .i64 1)], none⟩,
  ⟨some 6, .mov, [.t 20], none⟩]
def Z1bm : Z2b := (.seq (.seq (.region Z1bh [1, 5, 6, 18]) (.cond (.t 18) .skip (.exit 0))) (.seq (.block 1 (.seq (.region Z1bi [1, 5, 6]) (.seq (.region Z1bj [1, 5, 6, 29]) (.cond (.t 29) (.seq (.region Z1bk [4]) .ret) .skip)))) (.region Z1bl [1, 5, 6])))
def Z1bn : List Z2a := [
  ⟨some 4, .mov, [.c (.bool true)], none⟩]
def Z1bo : Z2y := ⟨30, (.seq (.region Z1bc [1, 2]) (.seq (.seq (.region Z1bd [1, 14]) (.cond (.t 14) (.seq (.region Z1be [4]) .ret) .skip)) (.seq (.region Z1bf [1, 5]) (.seq (.seq (.region Z1bg [1, 5, 6]) (.block 0 (.loop Z1bm))) (.seq (.region Z1bn [4]) .ret))))), [.t 4]⟩
def Z1bp : List Z2a := [
  ⟨some 3, (.box 6), [.t 0], none⟩,
  ⟨some 5, (.box 5), [.t 2], none⟩,
  ⟨some 6, .mov, [.c (.bool false)], none⟩]
def Z1bq : List Z2a := [
  ⟨some 15, (.call Zd5), [], none⟩,
  ⟨some 16, .unot, [.t 15], none⟩]
def Z1br : List Z2a := [
  ⟨some 6, .mov, [.c (.bool false)], none⟩]
def Z1bs : List Z2a := [
  ⟨some 17, (.load true 6), [.t 3], none⟩,
  ⟨some 18, (.load true 5), [.t 5], none⟩,
  ⟨some 19, (.bsl 5), [.t 18], none⟩,
  ⟨some 20, (.call Zcp), [.t 17, .t 19], none⟩,
  ⟨some 21, .unot, [.t 20], none⟩,
  ⟨some 22, .mov, [.t 21], none⟩,
  ⟨some 23, .mov, [.t 1], some (22, false)⟩,
  ⟨some 24, (.call Zd6), [.t 23], some (22, false)⟩,
  ⟨some 25, .unot, [.t 24], some (22, false)⟩,
  ⟨some 26, .pick, [.t 22, .c (.bool true), .t 25], none⟩,
  ⟨some 27, .mov, [.t 26], none⟩,
  ⟨some 28, (.load true 6), [.t 3], some (27, false)⟩,
  ⟨some 29, (.call Zd7), [.t 28], some (27, false)⟩,
  ⟨some 30, (.bin .neq), [.t 29, .c (.int .i64 0)], some (27, false)⟩,
  ⟨some 31, .pick, [.t 27, .c (.bool true), .t 30], none⟩,
  ⟨some 32, .mov, [.t 31], none⟩,
  ⟨some 33, (.load true 6), [.t 3], some (32, false)⟩,
  ⟨some 34, (.load true 5), [.t 5], some (32, false)⟩,
  ⟨some 35, (.call Zde), [.t 33, .t 34], some (32, false)⟩,
  ⟨some 36, (.bin .neq), [.t 35, .c (.int .i64 0)], some (32, false)⟩,
  ⟨some 37, .pick, [.t 32, .c (.bool true), .t 36], none⟩,
  ⟨some 38, .mov, [.t 37], none⟩,
  ⟨some 39, (.fad 0), [.t 5], some (38, false)⟩,
  ⟨some 40, (.load false 1), [.t 39], some (38, false)⟩,
  ⟨some 41, .pick, [.t 38, .c (.bool true), .t 40], none⟩]
def Z1bt : List Z2a := [
  ⟨some 6, .mov, [.c (.bool true)], none⟩]
def Z1bu : List Z2a := [
  ⟨some 42, (.load true 6), [.t 3], none⟩,
  ⟨some 43, (.call Zcs), [.t 42], none⟩,
  ⟨some 7, .mov, [.t 43], none⟩]
def Z1bv : List Z2a := [
  ⟨some 44, (.load true 6), [.t 3], none⟩,
  ⟨some 45, (.call Zcr), [.t 44], none⟩,
  ⟨some 46, .mov, [.t 1], none⟩,
  ⟨some 47, (.call Zd9), [.t 46], none⟩,
  ⟨some 48, (.call Zd8), [.t 45, .t 47], none⟩,
  ⟨some 49, (.bin .neq), [.t 48, .c (.int .i64 0)], none⟩]
def Z1bw : List Z2a := [
  ⟨some 6, .mov, [.c (.bool true)], none⟩]
def Z1bx : List Z2a := [
  ⟨some 8, .mov, [.c (.bool true)], none⟩]
def Z1by : List Z2a := [
  ⟨some 9, .mov, [.c (.bool false)], none⟩]
def Z1bz : List Z2a := [
  ⟨some 10, .mov, [.c (.int .i64 0)], none⟩]
def Z1c0 : List Z2a := [
  ⟨some 50, .mov, [.t 10], none⟩,
  ⟨some 51, .mov, [.t 1], none⟩,
  ⟨some 52, .lens, [.t 51], none⟩,
  ⟨some 53, (.bin .lss), [.t 50, .t 52], none⟩]
def Z1c1 : List Z2a := [
  ⟨some 56, .mov, [.t 7], none⟩,
  ⟨some 57, .mov, [.t 1], none⟩,
  ⟨some 58, .mov, [.t 10], none⟩,
  ⟨some 59, .mov, [.t 10], none⟩,
  ⟨some 60, (.bin .add), [.t 59, .c (.int .i64 1)], none⟩,
  ⟨some 61, (.slc 7 true true false), [.t 57, .t 58, .t 60], none⟩,
  ⟨some 62, (.load true 5), [.t 5], none⟩,
  ⟨some 63, (.call Zdd), [.t 56, .t 61, .t 62], none⟩,
  ⟨some 11, .mov, [.t 63], none⟩]
def Z1c2 : List Z2a := [
  ⟨some 64, .mov, [.t 8], none⟩,
  ⟨some 65, .mov, [.t 64], none⟩,
  ⟨some 66, .mov, [.t 11], some (65, true)⟩,
  ⟨some 67, (.bin .eql), [.t 66, .c (.int .i64 1)], some (65, true)⟩,
  ⟨some 68, .pick, [.t 65, .t 67, .c (.bool false)], none⟩,
  ⟨some 8, .mov, [.t 68], none⟩]
def Z1c3 : List Z2a := [
  ⟨some 69, .mov, [.t 9], none⟩,
  ⟨some 70, .mov, [.t 69], none⟩,
  ⟨some 71, .mov, [.t 11], some (70, false)⟩,
  ⟨some 72, (.bin .eql), [.t 71, .c (.int .i64 0)], some (70, false)⟩,
  ⟨some 73, .pick, [.t 70, .c (.bool true), .t 72], none⟩,
  ⟨some 9, .mov, [.t 73], none⟩]
def Z1c4 : List Z2a := [
  ⟨some 74, .mov, [.t 1], none⟩,
  ⟨some 75, .mov, [.t 10], none⟩,
  ⟨some 76, (.iad 7), [.t 74, .t 75], none⟩,
  ⟨some 77, (.load true 7), [.t 76], none⟩,
  ⟨some 12, (.alloc (.agg [(.int .i64 0), (.int .i64 0), (.bool false), (.int .i64 0), (.int .i64 0), (.slc 0 [] true), (.slc 0 [] true)])), [], none⟩,
  ⟨none, (.store 7), [.t 12, .t 77], none⟩]
def Z1c5 : List Z2a := [
  ⟨some 78, (.bsl 1), [.c (.int .i64 0), .c (.int .i64 2), .c (.int .i64 1), .c (.int .i64 6), .c (.int .i64 5), .c (.int .i64 4), .c (.int .i64 3), .c (.int .i64 8), .c (.int .i64 7)], none⟩,
  ⟨some 79, .mov, [.t 1], none⟩,
  ⟨some 80, .mov, [.t 10], none⟩,
  ⟨some 81, (.iad 7), [.t 79, .t 80], none⟩,
  ⟨some 82, (.fad 1), [.t 81], none⟩,
  ⟨some 83, (.load false 1), [.t 82], none⟩,
  ⟨some 84, (.iad 1), [.t 78, .t 83], none⟩,
  ⟨some 85, (.load false 1), [.t 84], none⟩,
  ⟨some 86, (.fad 1), [.t 12], none⟩,
  ⟨none, (.store 1), [.t 86, .t 85], none⟩]
def Z1c6 : List Z2a := [
  ⟨some 87, .mov, [.t 7], none⟩,
  ⟨some 88, (.load true 7), [.t 12], none⟩,
  ⟨some 89, (.bsl 7), [.t 88], none⟩,
  ⟨some 90, (.load true 5), [.t 5], none⟩,
  ⟨some 91, (.call Zdd), [.t 87, .t 89, .t 90], none⟩,
  ⟨some 13, .mov, [.t 91], none⟩]
def Z1c7 : List Z2a := [
  ⟨some 92, .mov, [.t 11], none⟩,
  ⟨some 93, (.bin .eql), [.t 92, .c (.int .i64 1)], none⟩,
  ⟨some 94, .mov, [.t 93], none⟩,
  ⟨some 95, .mov, [.t 13], some (94, true)⟩,
  ⟨some 96, (.bin .neq), [.t 95, .c (.int .i64 0)], some (94, true)⟩,
  ⟨some 97, .pick, [.t 94, .t 96, .c (.bool false)], none⟩,
  ⟨some 98, .mov, [.t 97], none⟩,
  ⟨some 99, .mov, [.t 11], some (98, false)⟩,
  ⟨some 100, (.bin .eql), [.t 99, .c (.int .i64 0)], some (98, false)⟩,
  ⟨some 101, .mov, [.t 100], some (98, false)⟩,
  ⟨some 102, .mov, [.t 13], some (101, true)⟩,
  ⟨some 103, (.bin .neq), [.t 102, .c (.int .i64 1)], some (101, true)⟩,
  ⟨some 104, .pick, [.t 101, .t 103, .c (.bool false)], some (98, false)⟩,
  ⟨some 105, .pick, [.t 98, .c (.bool true), .t 104], none⟩,
  ⟨some 106, .mov, [.t 105], none⟩,
  ⟨some 107, .mov, [.t 11], some (106, false)⟩,
  ⟨some 108, (.bin .eql), [.t 107, .c (.int .i64 2)], some (106, false)⟩,
  ⟨some 109, .mov, [.t 108], some (106, false)⟩,
  ⟨some 110, .mov, [.t 13], some (109, true)⟩,
  ⟨some 111, (.bin .neq), [.t 110, .c (.int .i64 2)], some (109, true)⟩,
  ⟨some 112, .pick, [.t 109, .t 111, .c (.bool false)], some (106, false)⟩,
  ⟨some 113, .pick, [.t 106, .c (.bool true), .t 112], none⟩]
def Z1c8 : List Z2a := [
  ⟨some 6, .mov, [.c (.bool false)], none⟩]
def Z1c9 : List Z2a := [
  ⟨some 54, .mov, [.t 10], none⟩,
  ⟨some 55, (.bin .add), [.t 54, .c (.int .i64 1)], none⟩,
  ⟨some 10, .mov, [.t 55], none⟩]
def Z1ca : Z2b := (.seq (.seq (.region Z1c0 [1, 5, 7, 8, 9, 10, 53]) (.cond (.t 53) .skip (.exit 0))) (.seq (.block 1 (.seq (.region Z1c1 [1, 5, 7, 8, 9, 10, 11]) (.seq (.region Z1c2 [1, 5, 7, 8, 9, 10, 11]) (.seq (.region Z1c3 [1, 5, 7, 8, 9, 10, 11]) (.seq (.region Z1c4 [1, 5, 7, 8, 9, 10, 11, 12]) (.seq (.region Z1c5 [1, 5, 7, 8, 9, 10, 11, 12]) (.seq (.region Z1c6 [1, 5, 7, 8, 9, 10, 11, 13]) (.seq (.region Z1c7 [1, 5, 7, 8, 9, 10, 113]) (.cond (.t 113) (.seq (.region Z1c8 [6]) .ret) .skip))))))))) (.region Z1c9 [1, 5, 7, 8, 9, 10])))
def Z1cb : List Z2a := [
  ⟨some 114, .mov, [.t 7], none⟩,
  ⟨some 115, .mov, [.t 1], none⟩,
  ⟨some 116, (.load true 5), [.t 5], none⟩,
  ⟨some 117, (.call Zdd), [.t 114, .t 115, .t 116], none⟩,
  ⟨some 14, .mov, [.t 117], none⟩]
def Z1cc : List Z2a := [
  ⟨some 118, .mov, [.t 14], none⟩,
  ⟨some 119, (.bin .eql), [.t 118, .c (.int .i64 1)], none⟩,
  ⟨some 120, .mov, [.t 8], none⟩,
  ⟨some 121, (.binb .eql), [.t 119, .t 120], none⟩,
  ⟨some 122, .mov, [.t 121], none⟩,
  ⟨some 123, .mov, [.t 14], some (122, true)⟩,
  ⟨some 124, (.bin .eql), [.t 123, .c (.int .i64 0)], some (122, true)⟩,
  ⟨some 125, .mov, [.t 9], some (122, true)⟩,
  ⟨some 126, (.binb .eql), [.t 124, .t 125], some (122, true)⟩,
  ⟨some 127, .pick, [.t 122, .t 126, .c (.bool false)], none⟩,
  ⟨some 6, .mov, [.t 127], none⟩]
def Z1cd : Z2y := ⟨128, (.seq (.region Z1bp [1, 3, 5]) (.seq (.seq (.region Z1bq [1, 3, 5, 16]) (.cond (.t 16) (.seq (.region Z1br [6]) .ret) .skip)) (.seq (.seq (.region Z1bs [1, 3, 5, 41]) (.cond (.t 41) (.seq (.region Z1bt [6]) .ret) .skip)) (.seq (.region Z1bu [1, 3, 5, 7]) (.seq (.seq (.region Z1bv [1, 5, 7, 49]) (.cond (.t 49) (.seq (.region Z1bw [6]) .ret) .skip)) (.seq (.region Z1bx [1, 5, 7, 8]) (.seq (.region Z1by [1, 5, 7, 8, 9]) (.seq (.seq (.region Z1bz [1, 5, 7, 8, 9, 10]) (.block 0 (.loop Z1ca))) (.seq (.region Z1cb [8, 9, 14]) (.seq (.region Z1cc [6]) .ret)))))))))), [.t 6]⟩
def Z18x : List Z2a := [
  ⟨some 0, .mov, [.c (.bool false)], none⟩]
def Z18y : List Z2a := [
  ⟨some 9, (.bsl 1), [.c (.str [97])], none⟩,
  ⟨some 10, (.bld [(.int .i64 0), (.slc 0 [] true), (.slc 0 [] true), (.int .i64 0), (.int .i64 0), (.int .i64 0)] [(0, 1)]), [.c (.int .i64 3)], none⟩,
  ⟨some 11, (.bsl 6), [.t 10], none⟩,
  ⟨some 12, (.bld [(.int .i64 0), (.slc 0 [] true), (.slc 0 [] true), (.int .i64 0), (.int .i64 0), (.int .i64 0)] [(0, 1), (1, 1), (2, 1)]), [.c (.int .i64 12), .t 9, .t 11], none⟩,
  ⟨some 1, (.alloc (.agg [(.int .i64 0), (.slc 0 [] true), (.slc 0 [] true), (.int .i64 0), (.int .i64 0), (.int .i64 0)])), [], none⟩,
  ⟨none, (.store 6), [.t 1, .t 12], none⟩]
def Z18z : List Z2a := [
  ⟨some 13, (.load true 6), [.t 1], none⟩,
  ⟨some 14, (.call Zcs), [.t 13], none⟩,
  ⟨some 2, .mov, [.t 14], none⟩]
def Z190 : List Z2a := [
  ⟨some 15, .mov, [.t 2], none⟩,
  ⟨some 16, .lens, [.t 15], none⟩,
  ⟨some 17, (.bin .neq), [.t 16, .c (.int .i64 2)], none⟩]
def Z191 : List Z2a := [
  ⟨some 0, .mov, [.c (.bool false)], none⟩]
def Z192 : List Z2a := [
  ⟨some 18, (.bld [(.bool false), (.int .i64 0), (.int .i64 0), (.slc 0 [] true), (.slc 0 [] true)] [(1, 1)]), [.c (.int .i64 5)], none⟩,
  ⟨some 19, (.bld [(.int .i64 0), (.int .i64 0), (.bool false), (.int .i64 0), (.int .i64 0), (.slc 0 [] true), (.slc 0 [] true)] [(0, 1), (1, 1), (2, 5)]), [.c (.int .i64 1), .c (.int .i64 3), .t 18], none⟩,
  ⟨some 20, (.bsl 7), [.t 19], none⟩,
  ⟨some 3, .mov, [.t 20], none⟩]
def Z193 : List Z2a := [
  ⟨some 21, (.bld [(.bool false), (.int .i64 0), (.int .i64 0), (.slc 0 [] true), (.slc 0 [] true)] [(1, 1)]), [.c (.int .i64 4)], none⟩,
  ⟨some 22, (.bsl 5), [.t 21], none⟩,
  ⟨some 23, (.bld [(.bool false), (.int .i64 0), (.int .i64 0), (.slc 0 [] true), (.slc 0 [] true)] [(4, 1)]), [.t 22], none⟩,
  ⟨some 4, (.alloc (.agg [(.bool false), (.int .i64 0), (.int .i64 0), (.slc 0 [] true), (.slc 0 [] true)])), [], none⟩,
  ⟨none, (.store 5), [.t 4, .t 23], none⟩]
def Z194 : List Z2a := [
  ⟨some 24, (.bld [(.bool false), (.int .i64 0), (.int .i64 0), (.slc 0 [] true), (.slc 0 [] true)] [(0, 1)]), [.c (.bool true)], none⟩,
  ⟨some 25, (.bsl 5), [.t 24], none⟩,
  ⟨some 26, (.bld [(.bool false), (.int .i64 0), (.int .i64 0), (.slc 0 [] true), (.slc 0 [] true)] [(4, 1)]), [.t 25], none⟩,
  ⟨some 5, (.alloc (.agg [(.bool false), (.int .i64 0), (.int .i64 0), (.slc 0 [] true), (.slc 0 [] true)])), [], none⟩,
  ⟨none, (.store 5), [.t 5, .t 26], none⟩]
def Z195 : List Z2a := [
  ⟨some 28, .mov, [.t 2], none⟩,
  ⟨some 29, (.load true 5), [.t 4], none⟩,
  ⟨some 30, (.call Zdg), [.t 28, .c (.int .i64 1), .t 29], none⟩,
  ⟨some 27, .mov, [.t 30], none⟩,
  ⟨some 31, (.ext 0), [.t 27], none⟩,
  ⟨some 32, (.ext 1), [.t 27], none⟩,
  ⟨some 6, (.alloc (.agg [(.bool false), (.int .i64 0), (.int .i64 0), (.slc 0 [] true), (.slc 0 [] true)])), [], none⟩,
  ⟨none, (.store 5), [.t 6, .t 31], none⟩,
  ⟨some 7, .mov, [.t 32], none⟩]
def Z196 : List Z2a := [
  ⟨some 33, (.bld [(.int .i64 0), (.bool false), (.bool false), (.bool false), (.int .i64 0), (.int .i64 0), (.slc 0 [] true), (.slc 0 [] true), (.bool false), (.int .i64 0), (.int .i64 0), (.slc 0 [] true), (.slc 0 [] true), (.bool false), (.int .i64 0)] [(0, 1)]), [.c (.int .i64 1)], none⟩,
  ⟨some 34, (.bld [(.bool false), (.int .i64 0), (.int .i64 0), (.slc 0 [] true), (.slc 0 [] true)] [(1, 1)]), [.c (.int .i64 5)], none⟩,
  ⟨some 35, (.bld [(.bool false), (.int .i64 0), (.int .i64 0), (.slc 0 [] true), (.slc 0 [] true)] [(1, 1)]), [.c (.int .i64 9)], none⟩,
  ⟨some 36, (.bld [(.int .i64 0), (.bool false), (.bool false), (.bool false), (.int .i64 0), (.int .i64 0), (.slc 0 [] true), (.slc 0 [] true), (.bool false), (.int .i64 0), (.int .i64 0), (.slc 0 [] true), (.slc 0 [] true), (.bool false), (.int .i64 0)] [(0, 1), (2, 1), (3, 5), (8, 5)]), [.c (.int .i64 1), .c (.bool true), .t 34, .t 35], none⟩,
  ⟨some 37, (.bsl 15), [.t 33, .t 36], none⟩,
  ⟨some 8, .mov, [.t 37], none⟩]
def Z197 : List Z2a := [
  ⟨some 38, .mov, [.t 2], none⟩,
  ⟨some 39, .mov, [.t 3], none⟩,
  ⟨some 40, (.call Zdh), [.t 38, .t 39], none⟩,
  ⟨some 41, (.bin .eql), [.t 40, .c (.int .i64 0)], none⟩,
  ⟨some 42, .mov, [.t 41], none⟩,
  ⟨some 43, .mov, [.t 2], some (42, true)⟩,
  ⟨some 44, (.bld [(.int .i64 0), (.int .i64 0), (.bool false), (.int .i64 0), (.int .i64 0), (.slc 0 [] true), (.slc 0 [] true)] [(0, 1), (1, 1)]), [.c (.int .i64 0), .c (.int .i64 1)], some (42, true)⟩,
  ⟨some 45, (.bsl 7), [.t 44], some (42, true)⟩,
  ⟨some 46, (.call Zdh), [.t 43, .t 45], some (42, true)⟩,
  ⟨some 47, (.bin .eql), [.t 46, .c (.int .i64 1)], some (42, true)⟩,
  ⟨some 48, .pick, [.t 42, .t 47, .c (.bool false)], none⟩,
  ⟨some 49, .mov, [.t 48], none⟩,
  ⟨some 50, .mov, [.t 2], some (49, true)⟩,
  ⟨some 51, .mov, [.t 3], some (49, true)⟩,
  ⟨some 52, (.load true 5), [.t 4], some (49, true)⟩,
  ⟨some 53, (.call Zdd), [.t 50, .t 51, .t 52], some (49, true)⟩,
  ⟨some 54, (.bin .eql), [.t 53, .c (.int .i64 1)], some (49, true)⟩,
  ⟨some 55, .pick, [.t 49, .t 54, .c (.bool false)], none⟩,
  ⟨some 56, .mov, [.t 55], none⟩,
  ⟨some 57, .mov, [.t 2], some (56, true)⟩,
  ⟨some 58, .mov, [.t 3], some (56, true)⟩,
  ⟨some 59, (.load true 5), [.t 5], some (56, true)⟩,
  ⟨some 60, (.call Zdd), [.t 57, .t 58, .t 59], some (56, true)⟩,
  ⟨some 61, (.bin .eql), [.t 60, .c (.int .i64 2)], some (56, true)⟩,
  ⟨some 62, .pick, [.t 56, .t 61, .c (.bool false)], none⟩,
  ⟨some 63, .mov, [.t 62], none⟩,
  ⟨some 64, .mov, [.t 2], some (63, true)⟩,
  ⟨some 65, .mov, [.t 3], some (63, true)⟩,
  ⟨some 66, .mov, [.t 8], some (63, true)⟩,
  ⟨some 67, (.call Zdb), [.t 64, .t 65, .t 66], some (63, true)⟩,
  ⟨some 68, .unot, [.t 67], some (63, true)⟩,
  ⟨some 69, .pick, [.t 63, .t 68, .c (.bool false)], none⟩,
  ⟨some 70, .mov, [.t 69], none⟩,
  ⟨some 71, (.fad 1), [.t 6], some (70, true)⟩,
  ⟨some 72, (.load false 1), [.t 71], some (70, true)⟩,
  ⟨some 73, (.bin .eql), [.t 72, .c (.int .i64 4)], some (70, true)⟩,
  ⟨some 74, .pick, [.t 70, .t 73, .c (.bool false)], none⟩,
  ⟨some 75, .mov, [.t 74], none⟩,
  ⟨some 76, .mov, [.t 7], some (75, true)⟩,
  ⟨some 77, .pick, [.t 75, .t 76, .c (.bool false)], none⟩,
  ⟨some 0, .mov, [.t 77], none⟩]
def Z198 : Z2y := ⟨78, (.seq (.region Z18x []) (.seq (.region Z18y [1]) (.seq (.region Z18z [2]) (.seq (.seq (.region Z190 [2, 17]) (.cond (.t 17) (.seq (.region Z191 [0]) .ret) .skip)) (.seq (.region Z192 [2, 3]) (.seq (.region Z193 [2, 3, 4]) (.seq (.region Z194 [2, 3, 4, 5]) (.seq (.region Z195 [2, 3, 4, 5, 6, 7]) (.seq (.region Z196 [2, 3, 4, 5, 6, 7, 8]) (.seq (.region Z197 [0]) .ret)))))))))), [.t 0]⟩
def Z1ce : List Z2a := [
  ⟨some 2, .mov, [.c (.bool false)], none⟩]
def Z1cf : List Z2a := [
  ⟨some 4, .mov, [.t 0], none⟩,
  ⟨some 5, .lens, [.t 4], none⟩,
  ⟨some 6, (.bin .gtr), [.t 5, .c (.int .i64 20)], none⟩]
def Z1cg : List Z2a := [
  ⟨some 2, .mov, [.c (.bool false)], none⟩]
def Z1ch : List Z2a := [
  ⟨some 3, .mov, [.c (.int .i64 0)], none⟩]
def Z1ci : List Z2a := [
  ⟨some 7, .mov, [.t 3], none⟩,
  ⟨some 8, .mov, [.t 0], none⟩,
  ⟨some 9, .lens, [.t 8], none⟩,
  ⟨some 10, (.bin .lss), [.t 7, .t 9], none⟩]
def Z1cj : List Z2a := [
  ⟨some 13, .mov, [.t 0], none⟩,
  ⟨some 14, .mov, [.t 3], none⟩,
  ⟨some 15, (.iad 7), [.t 13, .t 14], none⟩,
  ⟨some 16, (.fad 2), [.t 15], none⟩,
  ⟨some 17, (.load true 5), [.t 16], none⟩,
  ⟨some 18, (.call Zee), [.t 17], none⟩,
  ⟨some 19, .unot, [.t 18], none⟩]
def Z1ck : List Z2a := [
  ⟨some 2, .mov, [.c (.bool false)], none⟩]
def Z1cl : List Z2a := [
  ⟨some 11, .mov, [.t 3], none⟩,
  ⟨some 12, (.bin .add), [.t 11, .c (.int .i64 1)], none⟩,
  ⟨some 3, .mov, [.t 12], none⟩]
def Z1cm : Z2b := (.seq (.seq (.region Z1ci [0, 3, 10]) (.cond (.t 10) .skip (.exit 0))) (.seq (.block 1 (.seq (.region Z1cj [0, 3, 19]) (.cond (.t 19) (.seq (.region Z1ck [2]) .ret) .skip))) (.region Z1cl [0, 3])))
def Z1cn : List Z2a := [
  ⟨some 2, .mov, [.c (.bool true)], none⟩]
def Z1co : Z2y := ⟨20, (.seq (.region Z1ce [0]) (.seq (.seq (.region Z1cf [0, 6]) (.cond (.t 6) (.seq (.region Z1cg [2]) .ret) .skip)) (.seq (.seq (.region Z1ch [0, 3]) (.block 0 (.loop Z1cm))) (.seq (.region Z1cn [2]) .ret)))), [.t 2]⟩
def Z1cp : List Z2a := [
  ⟨some 2, .mov, [.c (.slc 0 [] true)], none⟩]
def Z1cq : List Z2a := [
  ⟨some 3, .mov, [.c (.slc 0 [] true)], none⟩]
def Z1cr : List Z2a := [
  ⟨some 4, .mov, [.c (.int .i64 0)], none⟩]
def Z1cs : List Z2a := [
  ⟨some 5, .mov, [.t 4], none⟩,
  ⟨some 6, .mov, [.t 0], none⟩,
  ⟨some 7, .lens, [.t 6], none⟩,
  ⟨some 8, (.bin .lss), [.t 5, .t 7], none⟩]
def Z1ct : List Z2a := [
  ⟨some 11, .mov, [.t 3], none⟩,
  ⟨some 12, .mov, [.t 0], none⟩,
  ⟨some 13, .mov, [.t 4], none⟩,
  ⟨some 14, (.iad 7), [.t 12, .t 13], none⟩,
  ⟨some 15, (.fad 0), [.t 14], none⟩,
  ⟨some 16, (.load false 1), [.t 15], none⟩,
  ⟨some 17, .mov, [.t 0], none⟩,
  ⟨some 18, .mov, [.t 4], none⟩,
  ⟨some 19, (.iad 7), [.t 17, .t 18], none⟩,
  ⟨some 20, (.fad 1), [.t 19], none⟩,
  ⟨some 21, (.load false 1), [.t 20], none⟩,
  ⟨some 22, .mov, [.t 0], none⟩,
  ⟨some 23, .mov, [.t 4], none⟩,
  ⟨some 24, (.iad 7), [.t 22, .t 23], none⟩,
  ⟨some 25, (.fad 2), [.t 24], none⟩,
  ⟨some 26, (.load true 5), [.t 25], none⟩,
  ⟨some 27, (.bld [(.int .i64 0), (.int .i64 0), (.bool false), (.int .i64 0), (.int .i64 0), (.slc 0 [] true), (.slc 0 [] true)] [(0, 1), (1, 1), (2, 5)]), [.t 16, .t 21, .t 26], none⟩,
  ⟨some 28, (.bsl 7), [.t 27], none⟩,
  ⟨some 29, (.app 7 88), [.t 11, .t 28], none⟩,
  ⟨some 3, .mov, [.t 29], none⟩]
def Z1cu : List Z2a := [
  ⟨some 9, .mov, [.t 4], none⟩,
  ⟨some 10, (.bin .add), [.t 9, .c (.int .i64 1)], none⟩,
  ⟨some 4, .mov, [.t 10], none⟩]
def Z1cv : Z2b := (.seq (.seq (.region Z1cs [0, 3, 4, 8]) (.cond (.t 8) .skip (.exit 0))) (.seq (.block 1 (.region Z1ct [0, 3, 4])) (.region Z1cu [0, 3, 4])))
def Z1cw : List Z2a := [
  ⟨some 30, .mov, [.t 3], none⟩,
  ⟨some 2, .mov, [.t 30], none⟩]
def Z1cx : Z2y := ⟨31, (.seq (.region Z1cp [0]) (.seq (.region Z1cq [0, 3]) (.seq (.seq (.region Z1cr [0, 3, 4]) (.block 0 (.loop Z1cv))) (.seq (.region Z1cw [2]) .ret)))), [.t 2]⟩
def Z1cy : List Z2a := [
  ⟨some 1, (.box 6), [.t 0], none⟩,
  ⟨some 2, .mov, [.c (.bool false)], none⟩]
def Z1cz : List Z2a := [
  ⟨some 4, (.load true 6), [.t 1], none⟩,
  ⟨some 5, (.call Zf3), [.t 4, .c (.int .i64 1)], none⟩,
  ⟨some 3, .mov, [.t 5], none⟩]
def Z1d0 : List Z2a := [
  ⟨some 6, .mov, [.t 3], none⟩,
  ⟨some 7, (.bin .leq), [.t 6, .c (.int .i64 150)], none⟩,
  ⟨some 2, .mov, [.t 7], none⟩]
def Z1d1 : Z2y := ⟨8, (.seq (.region Z1cy [1]) (.seq (.region Z1cz [3]) (.seq (.region Z1d0 [2]) .ret))), [.t 2]⟩
def Z1d2 : List Z2a := [
  ⟨some 2, (.box 6), [.t 0], none⟩,
  ⟨some 4, .mov, [.c (.int .i64 0)], none⟩]
def Z1d3 : List Z2a := [
  ⟨some 8, .mov, [.t 1], none⟩,
  ⟨some 9, (.bin .gtr), [.t 8, .c (.int .i64 20)], none⟩,
  ⟨some 10, .mov, [.t 9], none⟩,
  ⟨some 11, (.fad 2), [.t 2], some (10, false)⟩,
  ⟨some 12, (.load false 1), [.t 11], some (10, false)⟩,
  ⟨some 13, .lens, [.t 12], some (10, false)⟩,
  ⟨some 14, (.bin .gtr), [.t 13, .c (.int .i64 300)], some (10, false)⟩,
  ⟨some 15, .pick, [.t 10, .c (.bool true), .t 14], none⟩,
  ⟨some 16, .mov, [.t 15], none⟩,
  ⟨some 17, (.fad 1), [.t 2], some (16, false)⟩,
  ⟨some 18, (.load false 1), [.t 17], some (16, false)⟩,
  ⟨some 19, .lens, [.t 18], some (16, false)⟩,
  ⟨some 20, (.bin .gtr), [.t 19, .c (.int .i64 300)], some (16, false)⟩,
  ⟨some 21, .pick, [.t 16, .c (.bool true), .t 20], none⟩]
def Z1d4 : List Z2a := [
  ⟨some 4, .mov, [.c (.int .i64 1000)], none⟩]
def Z1d5 : List Z2a := [
  ⟨some 5, .mov, [.c (.int .i64 1)], none⟩]
def Z1d6 : List Z2a := [
  ⟨some 6, .mov, [.c (.int .i64 0)], none⟩]
def Z1d7 : List Z2a := [
  ⟨some 22, .mov, [.t 6], none⟩,
  ⟨some 23, (.fad 1), [.t 2], none⟩,
  ⟨some 24, (.load false 1), [.t 23], none⟩,
  ⟨some 25, .lens, [.t 24], none⟩,
  ⟨some 26, (.bin .lss), [.t 22, .t 25], none⟩]
def Z1d8 : List Z2a := [
  ⟨some 29, (.fad 1), [.t 2], none⟩,
  ⟨some 30, (.load false 1), [.t 29], none⟩,
  ⟨some 31, .mov, [.t 6], none⟩,
  ⟨some 32, (.iad 1), [.t 30, .t 31], none⟩,
  ⟨some 33, (.load false 1), [.t 32], none⟩,
  ⟨some 34, .lent, [.t 33], none⟩,
  ⟨some 35, (.bin .gtr), [.t 34, .c (.int .i64 200)], none⟩]
def Z1d9 : List Z2a := [
  ⟨some 4, .mov, [.c (.int .i64 1000)], none⟩]
def Z1da : List Z2a := [
  ⟨some 27, .mov, [.t 6], none⟩,
  ⟨some 28, (.bin .add), [.t 27, .c (.int .i64 1)], none⟩,
  ⟨some 6, .mov, [.t 28], none⟩]
def Z1db : Z2b := (.seq (.seq (.region Z1d7 [1, 2, 5, 6, 26]) (.cond (.t 26) .skip (.exit 0))) (.seq (.block 1 (.seq (.region Z1d8 [1, 2, 5, 6, 35]) (.cond (.t 35) (.seq (.region Z1d9 [4]) .ret) .skip))) (.region Z1da [1, 2, 5, 6])))
def Z1dc : List Z2a := [
  ⟨some 7, .mov, [.c (.int .i64 0)], none⟩]
def Z1dd : List Z2a := [
  ⟨some 36, .mov, [.t 7], none⟩,
  ⟨some 37, (.fad 2), [.t 2], none⟩,
  ⟨some 38, (.load false 1), [.t 37], none⟩,
  ⟨some 39, .lens, [.t 38], none⟩,
  ⟨some 40, (.bin .lss), [.t 36, .t 39], none⟩]
def Z1de : List Z2a := [
  ⟨some 43, .mov, [.t 5], none⟩,
  ⟨some 44, (.fad 2), [.t 2], none⟩,
  ⟨some 45, (.load false 1), [.t 44], none⟩,
  ⟨some 46, .mov, [.t 7], none⟩,
  ⟨some 47, (.iad 6), [.t 45, .t 46], none⟩,
  ⟨some 48, (.load true 6), [.t 47], none⟩,
  ⟨some 49, .mov, [.t 1], none⟩,
  ⟨some 50, (.bin .add), [.t 49, .c (.int .i64 1)], none⟩,
  ⟨some 51, (.call Zf3), [.t 48, .t 50], none⟩,
  ⟨some 52, (.bin .add), [.t 43, .t 51], none⟩,
  ⟨some 5, .mov, [.t 52], none⟩]
def Z1df : List Z2a := [
  ⟨some 53, .mov, [.t 5], none⟩,
  ⟨some 54, (.bin .gtr), [.t 53, .c (.int .i64 1000)], none⟩]
def Z1dg : List Z2a := [
  ⟨some 4, .mov, [.c (.int .i64 1000)], none⟩]
def Z1dh : List Z2a := [
  ⟨some 41, .mov, [.t 7], none⟩,
  ⟨some 42, (.bin .add), [.t 41, .c (.int .i64 1)], none⟩,
  ⟨some 7, .mov, [.t 42], none⟩]
def Z1di : Z2b := (.seq (.seq (.region Z1dd [1, 2, 5, 7, 40]) (.cond (.t 40) .skip (.exit 2))) (.seq (.block 3 (.seq (.region Z1de [1, 2, 5, 7]) (.seq (.region Z1df [1, 2, 5, 7, 54]) (.cond (.t 54) (.seq (.region Z1dg [4]) .ret) .skip)))) (.region Z1dh [1, 2, 5, 7])))
def Z1dj : List Z2a := [
  ⟨some 55, .mov, [.t 5], none⟩,
  ⟨some 4, .mov, [.t 55], none⟩]
def Z1dk : Z2y := ⟨56, (.seq (.region Z1d2 [1, 2]) (.seq (.seq (.region Z1d3 [1, 2, 21]) (.cond (.t 21) (.seq (.region Z1d4 [4]) .ret) .skip)) (.seq (.region Z1d5 [1, 2, 5]) (.seq (.seq (.region Z1d6 [1, 2, 5, 6]) (.block 0 (.loop Z1db))) (.seq (.seq (.region Z1dc [1, 2, 5, 7]) (.block 2 (.loop Z1di))) (.seq (.region Z1dj [4]) .ret)))))), [.t 4]⟩
def Z1dl : List Z2a := [
  ⟨some 1, (.box 5), [.t 0], none⟩,
  ⟨some 2, .mov, [.c (.int .i64 0)], none⟩]
def Z1dm : List Z2a := [
  ⟨some 3, (.load true 5), [.t 1], none⟩,
  ⟨some 4, (.call Zf8), [.t 3, .c (.int .i64 1)], none⟩,
  ⟨some 2, .mov, [.t 4], none⟩]
def Z1dn : Z2y := ⟨5, (.seq (.region Z1dl [1]) (.seq (.region Z1dm [2]) .ret)), [.t 2]⟩
def Z1do : List Z2a := [
  ⟨some 1, (.box 5), [.t 0], none⟩,
  ⟨some 2, .mov, [.c (.bool false)], none⟩]
def Z1dp : List Z2a := [
  ⟨some 3, (.load true 5), [.t 1], none⟩,
  ⟨some 4, (.call Zdz), [.t 3], none⟩,
  ⟨some 5, (.bin .leq), [.t 4, .c (.int .i64 400)], none⟩,
  ⟨some 2, .mov, [.t 5], none⟩]
def Z1dq : Z2y := ⟨6, (.seq (.region Z1do [1]) (.seq (.region Z1dp [2]) .ret)), [.t 2]⟩
def Z1dr : List Z2a := [
  ⟨some 2, (.box 5), [.t 0], none⟩,
  ⟨some 4, .mov, [.c (.int .i64 0)], none⟩]
def Z1ds : List Z2a := [
  ⟨some 7, .mov, [.t 1], none⟩,
  ⟨some 8, (.bin .gtr), [.t 7, .c (.int .i64 20)], none⟩,
  ⟨some 9, .mov, [.t 8], none⟩,
  ⟨some 10, (.fad 4), [.t 2], some (9, false)⟩,
  ⟨some 11, (.load false 1), [.t 10], some (9, false)⟩,
  ⟨some 12, .lens, [.t 11], some (9, false)⟩,
  ⟨some 13, (.bin .gtr), [.t 12, .c (.int .i64 400)], some (9, false)⟩,
  ⟨some 14, .pick, [.t 9, .c (.bool true), .t 13], none⟩,
  ⟨some 15, .mov, [.t 14], none⟩,
  ⟨some 16, (.fad 3), [.t 2], some (15, false)⟩,
  ⟨some 17, (.load false 1), [.t 16], some (15, false)⟩,
  ⟨some 18, .lens, [.t 17], some (15, false)⟩,
  ⟨some 19, (.bin .gtr), [.t 18, .c (.int .i64 5000)], some (15, false)⟩,
  ⟨some 20, .pick, [.t 15, .c (.bool true), .t 19], none⟩]
def Z1dt : List Z2a := [
  ⟨some 4, .mov, [.c (.int .i64 1000)], none⟩]
def Z1du : List Z2a := [
  ⟨some 21, (.fad 3), [.t 2], none⟩,
  ⟨some 22, (.load false 1), [.t 21], none⟩,
  ⟨some 23, .lens, [.t 22], none⟩,
  ⟨some 24, (.bin .quo), [.t 23, .c (.int .i64 50)], none⟩,
  ⟨some 25, (.bin .add), [.c (.int .i64 1), .t 24], none⟩,
  ⟨some 5, .mov, [.t 25], none⟩]
def Z1dv : List Z2a := [
  ⟨some 6, .mov, [.c (.int .i64 0)], none⟩]
def Z1dw : List Z2a := [
  ⟨some 26, .mov, [.t 6], none⟩,
  ⟨some 27, (.fad 4), [.t 2], none⟩,
  ⟨some 28, (.load false 1), [.t 27], none⟩,
  ⟨some 29, .lens, [.t 28], none⟩,
  ⟨some 30, (.bin .lss), [.t 26, .t 29], none⟩]
def Z1dx : List Z2a := [
  ⟨some 33, .mov, [.t 5], none⟩,
  ⟨some 34, (.fad 4), [.t 2], none⟩,
  ⟨some 35, (.load false 1), [.t 34], none⟩,
  ⟨some 36, .mov, [.t 6], none⟩,
  ⟨some 37, (.iad 5), [.t 35, .t 36], none⟩,
  ⟨some 38, (.load true 5), [.t 37], none⟩,
  ⟨some 39, .mov, [.t 1], none⟩,
  ⟨some 40, (.bin .add), [.t 39, .c (.int .i64 1)], none⟩,
  ⟨some 41, (.call Zf8), [.t 38, .t 40], none⟩,
  ⟨some 42, (.bin .add), [.t 33, .t 41], none⟩,
  ⟨some 5, .mov, [.t 42], none⟩]
def Z1dy : List Z2a := [
  ⟨some 43, .mov, [.t 5], none⟩,
  ⟨some 44, (.bin .gtr), [.t 43, .c (.int .i64 1000)], none⟩]
def Z1dz : List Z2a := [
  ⟨some 4, .mov, [.c (.int .i64 1000)], none⟩]
def Z1e0 : List Z2a := [
  ⟨some 31, .mov, [.t 6], none⟩,
  ⟨some 32, (.bin .add), [.t 31, .c (.int .i64 1)], none⟩,
  ⟨some 6, .mov, [.t 32], none⟩]
def Z1e1 : Z2b := (.seq (.seq (.region Z1dw [1, 2, 5, 6, 30]) (.cond (.t 30) .skip (.exit 0))) (.seq (.block 1 (.seq (.region Z1dx [1, 2, 5, 6]) (.seq (.region Z1dy [1, 2, 5, 6, 44]) (.cond (.t 44) (.seq (.region Z1dz [4]) .ret) .skip)))) (.region Z1e0 [1, 2, 5, 6])))
def Z1e2 : List Z2a := [
  ⟨some 45, .mov, [.t 5], none⟩,
  ⟨some 4, .mov, [.t 45], none⟩]
def Z1e3 : Z2y := ⟨46, (.seq (.region Z1dr [1, 2]) (.seq (.seq (.region Z1ds [1, 2, 20]) (.cond (.t 20) (.seq (.region Z1dt [4]) .ret) .skip)) (.seq (.region Z1du [1, 2, 5]) (.seq (.seq (.region Z1dv [1, 2, 5, 6]) (.block 0 (.loop Z1e1))) (.seq (.region Z1e2 [4]) .ret))))), [.t 4]⟩
def Z1e4 : List Z2a := [
  ⟨some 4, .mov, [.c (.int .i64 0)], none⟩]
def Z1e5 : List Z2a := [
  ⟨some 7, .mov, [.t 1], none⟩,
  ⟨some 8, .lens, [.t 7], none⟩,
  ⟨some 9, (.bin .gtr), [.t 8, .c (.int .i64 16)], none⟩]
def Z1e6 : List Z2a := [
  ⟨some 4, .mov, [.c (.int .i64 1)], none⟩]
def Z1e7 : List Z2a := [
  ⟨some 5, .mov, [.c (.int .i64 0)], none⟩]
def Z1e8 : List Z2a := [
  ⟨some 10, .mov, [.t 5], none⟩,
  ⟨some 11, .mov, [.t 1], none⟩,
  ⟨some 12, .lens, [.t 11], none⟩,
  ⟨some 13, (.bin .lss), [.t 10, .t 12], none⟩]
def Z1e9 : List Z2a := [
  ⟨some 16, .mov, [.t 0], none⟩,
  ⟨some 17, .mov, [.t 1], none⟩,
  ⟨some 18, .mov, [.t 5], none⟩,
  ⟨some 19, (.iad 7), [.t 17, .t 18], none⟩,
  ⟨some 20, (.fad 0), [.t 19], none⟩,
  ⟨some 21, (.load false 1), [.t 20], none⟩,
  ⟨some 22, (.call Zeg), [.t 16, .t 21], none⟩,
  ⟨some 23, .unot, [.t 22], none⟩,
  ⟨some 24, .mov, [.t 23], none⟩,
  ⟨some 25, .mov, [.t 1], some (24, false)⟩,
  ⟨some 26, .mov, [.t 5], some (24, false)⟩,
  ⟨some 27, (.iad 7), [.t 25, .t 26], some (24, false)⟩,
  ⟨some 28, (.fad 1), [.t 27], some (24, false)⟩,
  ⟨some 29, (.load false 1), [.t 28], some (24, false)⟩,
  ⟨some 30, (.bin .lss), [.t 29, .c (.int .i64 1)], some (24, false)⟩,
  ⟨some 31, .pick, [.t 24, .c (.bool true), .t 30], none⟩,
  ⟨some 32, .mov, [.t 31], none⟩,
  ⟨some 33, .mov, [.t 1], some (32, false)⟩,
  ⟨some 34, .mov, [.t 5], some (32, false)⟩,
  ⟨some 35, (.iad 7), [.t 33, .t 34], some (32, false)⟩,
  ⟨some 36, (.fad 1), [.t 35], some (32, false)⟩,
  ⟨some 37, (.load false 1), [.t 36], some (32, false)⟩,
  ⟨some 38, (.bin .gtr), [.t 37, .c (.int .i64 8)], some (32, false)⟩,
  ⟨some 39, .pick, [.t 32, .c (.bool true), .t 38], none⟩]
def Z1ea : List Z2a := [
  ⟨some 4, .mov, [.c (.int .i64 1)], none⟩]
def Z1eb : List Z2a := [
  ⟨some 40, .mov, [.t 1], none⟩,
  ⟨some 41, .mov, [.t 5], none⟩,
  ⟨some 42, (.iad 7), [.t 40, .t 41], none⟩,
  ⟨some 43, (.fad 2), [.t 42], none⟩,
  ⟨some 44, (.load true 5), [.t 43], none⟩,
  ⟨some 6, (.alloc (.agg [(.bool false), (.int .i64 0), (.int .i64 0), (.slc 0 [] true), (.slc 0 [] true)])), [], none⟩,
  ⟨none, (.store 5), [.t 6, .t 44], none⟩]
def Z1ec : List Z2a := [
  ⟨some 45, .mov, [.t 1], none⟩,
  ⟨some 46, .mov, [.t 5], none⟩,
  ⟨some 47, (.iad 7), [.t 45, .t 46], none⟩,
  ⟨some 48, (.fad 1), [.t 47], none⟩,
  ⟨some 49, (.load false 1), [.t 48], none⟩,
  ⟨some 50, (.bin .geq), [.t 49, .c (.int .i64 7)], none⟩]
def Z1ed : List Z2a := [
  ⟨some 51, (.fad 0), [.t 6], none⟩,
  ⟨some 52, (.load false 1), [.t 51], none⟩,
  ⟨some 53, .mov, [.t 52], none⟩,
  ⟨some 54, (.load true 5), [.t 6], some (53, false)⟩,
  ⟨some 55, (.bld [(.bool false), (.int .i64 0), (.int .i64 0), (.slc 0 [] true), (.slc 0 [] true)] []), [], some (53, false)⟩,
  ⟨some 56, (.call Zd2), [.t 54, .t 55], some (53, false)⟩,
  ⟨some 57, .unot, [.t 56], some (53, false)⟩,
  ⟨some 58, .pick, [.t 53, .c (.bool true), .t 57], none⟩]
def Z1ee : List Z2a := [
  ⟨some 4, .mov, [.c (.int .i64 1)], none⟩]
def Z1ef : List Z2a := [
  ⟨some 59, (.fad 0), [.t 6], none⟩,
  ⟨some 60, (.load false 1), [.t 59], none⟩,
  ⟨some 61, .mov, [.t 60], none⟩,
  ⟨some 62, .mov, [.t 0], some (61, false)⟩,
  ⟨some 63, .mov, [.t 1], some (61, false)⟩,
  ⟨some 64, .mov, [.t 5], some (61, false)⟩,
  ⟨some 65, (.iad 7), [.t 63, .t 64], some (61, false)⟩,
  ⟨some 66, (.fad 0), [.t 65], some (61, false)⟩,
  ⟨some 67, (.load false 1), [.t 66], some (61, false)⟩,
  ⟨some 68, (.iad 9), [.t 62, .t 67], some (61, false)⟩,
  ⟨some 69, (.fad 0), [.t 68], some (61, false)⟩,
  ⟨some 70, (.load true 6), [.t 69], some (61, false)⟩,
  ⟨some 71, (.load true 5), [.t 6], some (61, false)⟩,
  ⟨some 72, (.call Zde), [.t 70, .t 71], some (61, false)⟩,
  ⟨some 73, (.bin .neq), [.t 72, .c (.int .i64 0)], some (61, false)⟩,
  ⟨some 74, .pick, [.t 61, .c (.bool true), .t 73], none⟩]
def Z1eg : List Z2a := [
  ⟨some 4, .mov, [.c (.int .i64 1)], none⟩]
def Z1eh : List Z2a := [
  ⟨some 14, .mov, [.t 5], none⟩,
  ⟨some 15, (.bin .add), [.t 14, .c (.int .i64 1)], none⟩,
  ⟨some 5, .mov, [.t 15], none⟩]
def Z1ei : Z2b := (.seq (.seq (.region Z1e8 [0, 1, 5, 13]) (.cond (.t 13) .skip (.exit 0))) (.seq (.block 1 (.seq (.seq (.region Z1e9 [0, 1, 5, 39]) (.cond (.t 39) (.seq (.region Z1ea [4]) .ret) .skip)) (.seq (.region Z1eb [0, 1, 5, 6]) (.seq (.seq (.region Z1ec [0, 1, 5, 6, 50]) (.cond (.t 50) (.seq (.seq (.region Z1ed [0, 1, 5, 58]) (.cond (.t 58) (.seq (.region Z1ee [4]) .ret) .skip)) (.exit 1)) .skip)) (.seq (.region Z1ef [0, 1, 5, 74]) (.cond (.t 74) (.seq (.region Z1eg [4]) .ret) .skip)))))) (.region Z1eh [0, 1, 5])))
def Z1ej : List Z2a := [
  ⟨some 4, .mov, [.c (.int .i64 0)], none⟩]
def Z1ek : Z2y := ⟨75, (.seq (.region Z1e4 [0, 1]) (.seq (.seq (.region Z1e5 [0, 1, 9]) (.cond (.t 9) (.seq (.region Z1e6 [4]) .ret) .skip)) (.seq (.seq (.region Z1e7 [0, 1, 5]) (.block 0 (.loop Z1ei))) (.seq (.region Z1ej [4]) .ret)))), [.t 4]⟩
def Z1el : List Z2a := [
  ⟨some 4, .mov, [.c (.bool false)], none⟩]
def Z1em : List Z2a := [
  ⟨some 6, .mov, [.t 1], none⟩,
  ⟨some 7, (.bin .lss), [.t 6, .c (.int .i64 0)], none⟩,
  ⟨some 8, .mov, [.t 7], none⟩,
  ⟨some 9, .mov, [.t 1], some (8, false)⟩,
  ⟨some 10, .mov, [.t 0], some (8, false)⟩,
  ⟨some 11, .lens, [.t 10], some (8, false)⟩,
  ⟨some 12, (.bin .geq), [.t 9, .t 11], some (8, false)⟩,
  ⟨some 13, .pick, [.t 8, .c (.bool true), .t 12], none⟩,
  ⟨some 14, .mov, [.t 13], none⟩,
  ⟨some 15, .mov, [.t 0], some (14, false)⟩,
  ⟨some 16, .mov, [.t 1], some (14, false)⟩,
  ⟨some 17, (.iad 9), [.t 15, .t 16], some (14, false)⟩,
  ⟨some 18, (.fad 0), [.t 17], some (14, false)⟩,
  ⟨some 19, (.fad 0), [.t 18], some (14, false)⟩,
  ⟨some 20, (.load false 1), [.t 19], some (14, false)⟩,
  ⟨some 21, (.call Zeb), [.t 20], some (14, false)⟩,
  ⟨some 22, .unot, [.t 21], some (14, false)⟩,
  ⟨some 23, .pick, [.t 14, .c (.bool true), .t 22], none⟩]
def Z1en : List Z2a := [
  ⟨some 4, .mov, [.c (.bool false)], none⟩]
def Z1eo : List Z2a := [
  ⟨some 24, .mov, [.t 0], none⟩,
  ⟨some 25, .mov, [.t 1], none⟩,
  ⟨some 26, (.iad 9), [.t 24, .t 25], none⟩,
  ⟨some 27, (.fad 7), [.t 26], none⟩,
  ⟨some 28, (.load false 1), [.t 27], none⟩,
  ⟨some 5, .mov, [.t 28], none⟩]
def Z1ep : List Z2a := [
  ⟨some 29, .mov, [.t 5], none⟩,
  ⟨some 30, (.bin .geq), [.t 29, .c (.int .i64 0)], none⟩]
def Z1eq : List Z2a := [
  ⟨some 36, .mov, [.t 0], none⟩,
  ⟨some 37, .mov, [.t 5], none⟩,
  ⟨some 38, (.iad 9), [.t 36, .t 37], none⟩,
  ⟨some 39, (.fad 0), [.t 38], none⟩,
  ⟨some 40, (.fad 0), [.t 39], none⟩,
  ⟨some 41, (.load false 1), [.t 40], none⟩,
  ⟨some 42, (.bin .neq), [.t 41, .c (.int .i64 12)], none⟩]
def Z1er : List Z2a := [
  ⟨some 4, .mov, [.c (.bool false)], none⟩]
def Z1es : List Z2a := [
  ⟨some 31, .mov, [.t 0], none⟩,
  ⟨some 32, .mov, [.t 5], none⟩,
  ⟨some 33, (.iad 9), [.t 31, .t 32], none⟩,
  ⟨some 34, (.fad 7), [.t 33], none⟩,
  ⟨some 35, (.load false 1), [.t 34], none⟩,
  ⟨some 5, .mov, [.t 35], none⟩]
def Z1et : Z2b := (.seq (.seq (.region Z1ep [0, 5, 30]) (.cond (.t 30) .skip (.exit 0))) (.seq (.block 1 (.seq (.region Z1eq [0, 5, 42]) (.cond (.t 42) (.seq (.region Z1er [4]) .ret) .skip))) (.region Z1es [0, 5])))
def Z1eu : List Z2a := [
  ⟨some 4, .mov, [.c (.bool true)], none⟩]
def Z1ev : Z2y := ⟨43, (.seq (.region Z1el [0, 1]) (.seq (.seq (.region Z1em [0, 1, 23]) (.cond (.t 23) (.seq (.region Z1en [4]) .ret) .skip)) (.seq (.seq (.region Z1eo [0, 5]) (.block 0 (.loop Z1et))) (.seq (.region Z1eu [4]) .ret)))), [.t 4]⟩
def Z1am : List Z2a := [
  ⟨some 2, (.box 5), [.t 0], none⟩,
  ⟨some 3, (.box 5), [.t 1], none⟩,
  ⟨some 4, .mov, [.c (.bool false)], none⟩]
def Z1an : List Z2a := [
  ⟨some 6, (.fad 0), [.t 2], none⟩,
  ⟨some 7, (.load false 1), [.t 6], none⟩,
  ⟨some 8, (.fad 0), [.t 3], none⟩,
  ⟨some 9, (.load false 1), [.t 8], none⟩,
  ⟨some 10, (.binb .neq), [.t 7, .t 9], none⟩,
  ⟨some 11, .mov, [.t 10], none⟩,
  ⟨some 12, (.fad 1), [.t 2], some (11, false)⟩,
  ⟨some 13, (.load false 1), [.t 12], some (11, false)⟩,
  ⟨some 14, (.fad 1), [.t 3], some (11, false)⟩,
  ⟨some 15, (.load false 1), [.t 14], some (11, false)⟩,
  ⟨some 16, (.bin .neq), [.t 13, .t 15], some (11, false)⟩,
  ⟨some 17, .pick, [.t 11, .c (.bool true), .t 16], none⟩,
  ⟨some 18, .mov, [.t 17], none⟩,
  ⟨some 19, (.fad 2), [.t 2], some (18, false)⟩,
  ⟨some 20, (.load false 1), [.t 19], some (18, false)⟩,
  ⟨some 21, (.fad 2), [.t 3], some (18, false)⟩,
  ⟨some 22, (.load false 1), [.t 21], some (18, false)⟩,
  ⟨some 23, (.bin .neq), [.t 20, .t 22], some (18, false)⟩,
  ⟨some 24, .pick, [.t 18, .c (.bool true), .t 23], none⟩,
  ⟨some 25, .mov, [.t 24], none⟩,
  ⟨some 26, (.fad 3), [.t 2], some (25, false)⟩,
  ⟨some 27, (.load false 1), [.t 26], some (25, false)⟩,
  ⟨some 28, .b2s, [.t 27], some (25, false)⟩,
  ⟨some 29, (.fad 3), [.t 3], some (25, false)⟩,
  ⟨some 30, (.load false 1), [.t 29], some (25, false)⟩,
  ⟨some 31, .b2s, [.t 30], some (25, false)⟩,
  ⟨some 32, (.bin .neq), [.t 28, .t 31], some (25, false)⟩,
  ⟨some 33, .pick, [.t 25, .c (.bool true), .t 32], none⟩,
  ⟨some 34, .mov, [.t 33], none⟩,
  ⟨some 35, (.fad 4), [.t 2], some (34, false)⟩,
  ⟨some 36, (.load false 1), [.t 35], some (34, false)⟩,
  ⟨some 37, .lens, [.t 36], some (34, false)⟩,
  ⟨some 38, (.fad 4), [.t 3], some (34, false)⟩,
  ⟨some 39, (.load false 1), [.t 38], some (34, false)⟩,
  ⟨some 40, .lens, [.t 39], some (34, false)⟩,
  ⟨some 41, (.bin .neq), [.t 37, .t 40], some (34, false)⟩,
  ⟨some 42, .pick, [.t 34, .c (.bool true), .t 41], none⟩]
def Z1ao : List Z2a := [
  ⟨some 4, .mov, [.c (.bool false)], none⟩]
def Z1ap : List Z2a := [
  ⟨some 5, .mov, [.c (.int .i64 0)], none⟩]
def Z1aq : List Z2a := [
  ⟨some 43, .mov, [.t 5], none⟩,
  ⟨some 44, (.fad 4), [.t 2], none⟩,
  ⟨some 45, (.load false 1), [.t 44], none⟩,
  ⟨some 46, .lens, [.t 45], none⟩,
  ⟨some 47, (.bin .lss), [.t 43, .t 46], none⟩]
def Z1ar : List Z2a := [
  ⟨some 50, (.fad 4), [.t 2], none⟩,
  ⟨some 51, (.load false 1), [.t 50], none⟩,
  ⟨some 52, .mov, [.t 5], none⟩,
  ⟨some 53, (.iad 5), [.t 51, .t 52], none⟩,
  ⟨some 54, (.load true 5), [.t 53], none⟩,
  ⟨some 55, (.fad 4), [.t 3], none⟩,
  ⟨some 56, (.load false 1), [.t 55], none⟩,
  ⟨some 57, .mov, [.t 5], none⟩,
  ⟨some 58, (.iad 5), [.t 56, .t 57], none⟩,
  ⟨some 59, (.load true 5), [.t 58], none⟩,
  ⟨some 60, (.call Zd2), [.t 54, .t 59], none⟩,
  ⟨some 61, .unot, [.t 60], none⟩]
def Z1as : List Z2a := [
  ⟨some 4, .mov, [.c (.bool false)], none⟩]
def Z1at : List Z2a := [
  ⟨some 48, .mov, [.t 5], none⟩,
  ⟨some 49, (.bin .add), [.t 48, .c (.int .i64 1)], none⟩,
  ⟨some 5, .mov, [.t 49], none⟩]
def Z1au : Z2b := (.seq (.seq (.region Z1aq [2, 3, 5, 47]) (.cond (.t 47) .skip (.exit 0))) (.seq (.block 1 (.seq (.region Z1ar [2, 3, 5, 61]) (.cond (.t 61) (.seq (.region Z1as [4]) .ret) .skip))) (.region Z1at [2, 3, 5])))
def Z1av : List Z2a := [
  ⟨some 4, .mov, [.c (.bool true)], none⟩]
def Z1aw : Z2y := ⟨62, (.seq (.region Z1am [2, 3, 12, 13, 14, 15, 16, 19, 20, 21, 22, 23, 26, 27, 28, 29, 30, 31, 32, 35, 36, 37, 38, 39, 40, 41]) (.seq (.seq (.region Z1an [2, 3, 42]) (.cond (.t 42) (.seq (.region Z1ao [4]) .ret) .skip)) (.seq (.seq (.region Z1ap [2, 3, 5]) (.block 0 (.loop Z1au))) (.seq (.region Z1av [4]) .ret)))), [.t 4]⟩
theorem Z1ew : Z2z Try.prog [] Zcp = some Z1bo.erase := by kernel_rfl
theorem Z1ex : Z2z Try.prog [] Zce = some Z1cd.erase := by kernel_rfl
theorem Z19d : Z2z Try.prog [] Zd5 = some Z198.erase := by kernel_rfl
theorem Z1ey : Z2z Try.prog [] Zd6 = some Z1co.erase := by kernel_rfl
theorem Z1ez : Z2z Try.prog [] Zd9 = some Z1cx.erase := by kernel_rfl
theorem Z1f0 : Z2z Try.prog [] Zdr = some Z1d1.erase := by kernel_rfl
theorem Z1f1 : Z2z Try.prog [] Zf3 = some Z1dk.erase := by kernel_rfl
theorem Z1f2 : Z2z Try.prog [] Zdz = some Z1dn.erase := by kernel_rfl
theorem Z1f3 : Z2z Try.prog [] Zee = some Z1dq.erase := by kernel_rfl
theorem Z1f4 : Z2z Try.prog [] Zf8 = some Z1e3.erase := by kernel_rfl
theorem Z1f5 : Z2z Try.prog [] Zd8 = some Z1ek.erase := by kernel_rfl
theorem Z1f6 : Z2z Try.prog [] Zeg = some Z1ev.erase := by kernel_rfl
theorem Z1ay : Z2z Try.prog [] Zd2 = some Z1aw.erase := by kernel_rfl
def tB (k : Int) : Ty := .mk 12 [[97]] [.mk k [] [] 0 0 0] 0 0 0
def lB (k : Int) : List Nd := [⟨tB k, [1], -1, 1⟩, ⟨.mk k [] [] 0 0 0, [], 0, 2⟩]
theorem Z19f : Zm4 (tB 3) = lB 3 := by rfl
theorem Z19h (k : Int) : (tB k).Fit := by
  refine .mk (by simp [tB, Ty.kids]) (by simp [tB, Ty.names]) (by simp [tB, Ty.names, maxLen]) fun u hu => ?_
  simp only [tB, Ty.kids, List.mem_singleton] at hu
  subst hu
  exact .mk (by simp [Ty.kids]) (by simp [Ty.names]) (by simp [Ty.names]) (by simp [Ty.kids])
theorem lB_Wf (k : Int) : WfN (lB k) := by
  refine ⟨by simp [lB], ?_, ?_⟩
  · intro i n h
    match i, h with
    | 0, h => simp only [lB, List.getElem?_cons_zero, Option.some.injEq] at h; subst h; simp
    | 1, h => simp only [lB, List.getElem?_cons_succ, List.getElem?_cons_zero, Option.some.injEq] at h; subst h; simp
    | i + 2, h => simp [lB] at h
  · intro n hn
    simp only [lB, List.mem_cons, List.not_mem_nil, or_false] at hn
    rcases hn with rfl | rfl <;> simp
theorem lB_ok {k : Int} (h : ownF k [] 0 0 0 0 = 0) : ∀ n ∈ lB k, Zlt n.t.kind = true → (tyN n).Ok := by
  intro n hn hl
  simp only [lB, List.mem_cons, List.not_mem_nil, or_false] at hn
  rcases hn with rfl | rfl
  · simp [tB, Ty.kind, Zlt] at hl
  · exact .mk h (by simp [tyN, Ty.kids])
def vI (i : Int) : Vl := .mk false i 0 [] []
def rowI (v : Vl) : Vl := .mk false 0 0 [] [v]
def tm1 (op i : Int) : Tm := ⟨1, op, vI i⟩
theorem vI_Cl (i : Int) : (vI i).Cl := .mk (by simp [vI, Vl.b]) (by simp [vI, Vl.kids]) (by simp [vI, Vl.kids])
theorem Z19i (i : Int) (h : -9223372036854775808 ≤ i ∧ i ≤ 9223372036854775807) : (vI i).Fit := .mk h (by simp [vI, Vl.b]) (by simp [vI, Vl.kids]) (by simp [vI, Vl.kids])
theorem Z19j (v : Vl) (h : v.Cl) : (rowI v).Cl := .mk (by simp [rowI, Vl.b]) (by simp [rowI, Vl.kids]) (by simpa [rowI, Vl.kids] using h)
def s25 (c : Int) : Stt := ⟨c, false, false, vl0, vl0, false, 0⟩
def h25 (c lo hi : Int) : Stt := ⟨c, false, true, vI lo, vI hi, false, 0⟩
theorem hs25' (op v c lo hi : Int) : ∀ t ∈ [tm1 op v], goodF (lB 3) t.col = true → ∀ x, [s25 c, h25 c lo hi][t.col.toNat]? = some x → x.has = true := by
  intro t ht _ x hx
  rw [List.mem_singleton] at ht
  subst ht
  simp only [tm1, Int.toNat_one, List.getElem?_cons_succ, List.getElem?_cons_zero, Option.some.injEq] at hx
  subst hx
  rfl
theorem k_get : GetF (lB 3) 1 (rowI (vI 4)) = (vI 4, true) := by rfl
theorem Z19k : Z18b (lB 3) [tm1 3 5] = 0 := by rfl
theorem Z19l : Z18b (lB 3) [⟨0, 1, vl0⟩] = 1 := by rfl
theorem Z19m : Z189 (lB 3) (rowI (vI 4)) [tm1 3 5] 1 = 1 := by rfl
theorem Z19n : Z189 (lB 3) (rowI nullV) [tm1 3 5] 1 = 2 := by rfl
theorem k_may : MayF (lB 3) [s25 1, h25 1 5 9] [tm1 3 5] = false := by rfl
theorem Z19o (σ : Zc) : Z1q Try.prog Zd5 [] σ fun r σ' => r = .bool true ∧ σ' = σ := by
  have hFl := Znk (tB 3) (Z19h 3)
  rw [Z19f, Zlp] at hFl
  have hG := c_Get (lB 3) (lB_Wf 3) true 1 (rowI (vI 4)) (Z19j _ (vI_Cl 4))
  rw [k_get] at hG
  have hC := Z18c (lB 3) (lB_Wf 3) (lB_ok rfl) true false [tm1 3 5] (by
    intro t ht
    rw [List.mem_singleton] at ht
    subst ht
    exact Z19i 5 (by omega))
  rw [Z19k] at hC
  have hC0 := Z18c (lB 3) (lB_Wf 3) (lB_ok rfl) true false [⟨0, 1, vl0⟩] (by
    intro t ht
    rw [List.mem_singleton] at ht
    subst ht
    exact Z19i 0 (by omega))
  rw [Z19l] at hC0
  have hM := Z18a (lB 3) (lB_Wf 3) true false [tm1 3 5] (by simp) (rowI (vI 4))
  rw [Z19m] at hM
  have hN := Z18a (lB 3) (lB_Wf 3) true false [tm1 3 5] (by simp) (rowI nullV)
  rw [Z19n] at hN
  have hY := Z188 (lB 3) (lB_Wf 3) true false false [tm1 3 5] (by simp) [s25 1, h25 1 5 9] (hs25' 3 5 1 5 9)
  rw [k_may] at hY
  simp only [Zm7] at *
  refine Z8t rfl Z19d (Nat.le_of_ble_eq_true rfl) ?_
  (repeat (first | refine st_q rfl rfl rfl ?_ | refine Z8v rfl (st_q rfl rfl rfl ?_) | refine Z92 rfl Z8z rfl rfl ?_ | refine Z8v rfl (Z92 rfl Z8z rfl rfl ?_) | refine Zbz rfl rfl ?_ | refine Z8v rfl (Zbz rfl rfl ?_) | refine Z8w rfl ?_ | refine Z8x rfl ?_ | (refine Z8y ?_; (repeat (first | refine Z9v rfl ?_ | refine Z9w ?_)); refine Z9u ?_) | refine awp_seq ?_ | refine Zbm (fun _ _ => rfl) ?_ | refine Z8h ?_ | refine Zbn (fun _ _ => rfl) ?_ | refine Zbo (fun _ _ => rfl) ?_ | refine Yq1 rfl ?_ | refine Yq2 rfl ?_))
  refine Z9k (by simp [Z0.cells, Z0.one]) fun b1 hb1 => ?_
  (first | refine Z9a rfl Z8z rfl (by decide) (Yfi rfl) (fun h => by cases h) Z9b ?_ | refine Z8v rfl (Z9a rfl Z8z rfl (by decide) (Yfi rfl) (fun h => by cases h) Z9b ?_))
  (refine Z8y ?_; (repeat (first | refine Z9v rfl ?_ | refine Z9w ?_)); refine Z9u ?_)
  refine Zby (Zbx.view (ys := [.agg (Zlo (tB 3))]) rfl rfl (by (repeat (first | exact VRle.refl _ | exact Zc5 | refine Zc6 rfl rfl ?_ | refine Zc7 rfl ?_ | refine Zc4 ?_ ?_)))) ?_
  refine Zb3 (d := 1) (cs := Zlo (tB 3)) rfl ?_
  (repeat (first | refine st_q rfl rfl rfl ?_ | refine Z8v rfl (st_q rfl rfl rfl ?_) | refine Z92 rfl Z8z rfl rfl ?_ | refine Z8v rfl (Z92 rfl Z8z rfl rfl ?_) | refine Zbz rfl rfl ?_ | refine Z8v rfl (Zbz rfl rfl ?_) | refine Z8w rfl ?_ | refine Z8x rfl ?_ | (refine Z8y ?_; (repeat (first | refine Z9v rfl ?_ | refine Z9w ?_)); refine Z9u ?_) | refine awp_seq ?_ | refine Zbm (fun _ _ => rfl) ?_ | refine Z8h ?_ | refine Zbn (fun _ _ => rfl) ?_ | refine Zbo (fun _ _ => rfl) ?_ | refine Yq1 rfl ?_ | refine Yq2 rfl ?_))
  (first | refine Z9t rfl (hFl _) ?_ | refine Z8v rfl (Z9t rfl (hFl _) ?_) | refine Zbw rfl hFl ?_ | refine Z8v rfl (Zbw rfl hFl ?_))
  (repeat (first | refine st_q rfl rfl rfl ?_ | refine Z8v rfl (st_q rfl rfl rfl ?_) | refine Z92 rfl Z8z rfl rfl ?_ | refine Z8v rfl (Z92 rfl Z8z rfl rfl ?_) | refine Zbz rfl rfl ?_ | refine Z8v rfl (Zbz rfl rfl ?_) | refine Z8w rfl ?_ | refine Z8x rfl ?_ | (refine Z8y ?_; (repeat (first | refine Z9v rfl ?_ | refine Z9w ?_)); refine Z9u ?_) | refine awp_seq ?_ | refine Zbm (fun _ _ => rfl) ?_ | refine Z8h ?_ | refine Zbn (fun _ _ => rfl) ?_ | refine Zbo (fun _ _ => rfl) ?_ | refine Yq1 rfl ?_ | refine Yq2 rfl ?_))
  refine Z9k (by simp [Z0.cells, Z0.one]) fun b4 hb4 => ?_
  (first | refine Z9a rfl Z8z rfl (by decide) (Yfi rfl) (fun h => by cases h) Z9b ?_ | refine Z8v rfl (Z9a rfl Z8z rfl (by decide) (Yfi rfl) (fun h => by cases h) Z9b ?_))
  (refine Z8y ?_; (repeat (first | refine Z9v rfl ?_ | refine Z9w ?_)); refine Z9u ?_)
  refine Zby (Zbx.view (ys := [.agg (Zm6 (rowI (vI 4)))]) rfl rfl (by (repeat (first | exact VRle.refl _ | exact Zc5 | refine Zc6 rfl rfl ?_ | refine Zc7 rfl ?_ | refine Zc4 ?_ ?_)))) ?_
  refine Zb3 (d := 4) (cs := Zm6 (rowI (vI 4))) rfl ?_
  (refine Z9y (keep := [2, 3, 4]) ?_; ((repeat (first | refine Z9v rfl ?_ | refine Z9w ?_)); refine Z9u ?_))
  (repeat (first | refine st_q rfl rfl rfl ?_ | refine Z8v rfl (st_q rfl rfl rfl ?_) | refine Z92 rfl Z8z rfl rfl ?_ | refine Z8v rfl (Z92 rfl Z8z rfl rfl ?_) | refine Zbz rfl rfl ?_ | refine Z8v rfl (Zbz rfl rfl ?_) | refine Z8w rfl ?_ | refine Z8x rfl ?_ | (refine Z8y ?_; (repeat (first | refine Z9v rfl ?_ | refine Z9w ?_)); refine Z9u ?_) | refine awp_seq ?_ | refine Zbm (fun _ _ => rfl) ?_ | refine Z8h ?_ | refine Zbn (fun _ _ => rfl) ?_ | refine Zbo (fun _ _ => rfl) ?_ | refine Yq1 rfl ?_ | refine Yq2 rfl ?_))
  refine Z9k (by simp [Z0.cells, Z0.one]) fun b5 hb5 => ?_
  (first | refine Z9a rfl Z8z rfl (by decide) (Yfi rfl) (fun h => by cases h) Z9b ?_ | refine Z8v rfl (Z9a rfl Z8z rfl (by decide) (Yfi rfl) (fun h => by cases h) Z9b ?_))
  (refine Z8y ?_; (repeat (first | refine Z9v rfl ?_ | refine Z9w ?_)); refine Z9u ?_)
  refine Zby (Zbx.view (ys := [.agg (Zm6 (rowI nullV))]) rfl rfl (by (repeat (first | exact VRle.refl _ | exact Zc5 | refine Zc6 rfl rfl ?_ | refine Zc7 rfl ?_ | refine Zc4 ?_ ?_)))) ?_
  refine Zb3 (d := 5) (cs := Zm6 (rowI nullV)) rfl ?_
  (refine Z9y (keep := [2, 3, 4, 5]) ?_; ((repeat (first | refine Z9v rfl ?_ | refine Z9w ?_)); refine Z9u ?_))
  (repeat (first | refine st_q rfl rfl rfl ?_ | refine Z8v rfl (st_q rfl rfl rfl ?_) | refine Z92 rfl Z8z rfl rfl ?_ | refine Z8v rfl (Z92 rfl Z8z rfl rfl ?_) | refine Zbz rfl rfl ?_ | refine Z8v rfl (Zbz rfl rfl ?_) | refine Z8w rfl ?_ | refine Z8x rfl ?_ | (refine Z8y ?_; (repeat (first | refine Z9v rfl ?_ | refine Z9w ?_)); refine Z9u ?_) | refine awp_seq ?_ | refine Zbm (fun _ _ => rfl) ?_ | refine Z8h ?_ | refine Zbn (fun _ _ => rfl) ?_ | refine Zbo (fun _ _ => rfl) ?_ | refine Yq1 rfl ?_ | refine Yq2 rfl ?_))
  refine Z9t rfl (hG _) ?_
  (repeat (first | refine st_q rfl rfl rfl ?_ | refine Z8v rfl (st_q rfl rfl rfl ?_) | refine Z92 rfl Z8z rfl rfl ?_ | refine Z8v rfl (Z92 rfl Z8z rfl rfl ?_) | refine Zbz rfl rfl ?_ | refine Z8v rfl (Zbz rfl rfl ?_) | refine Z8w rfl ?_ | refine Z8x rfl ?_ | (refine Z8y ?_; (repeat (first | refine Z9v rfl ?_ | refine Z9w ?_)); refine Z9u ?_) | refine awp_seq ?_ | refine Zbm (fun _ _ => rfl) ?_ | refine Z8h ?_ | refine Zbn (fun _ _ => rfl) ?_ | refine Zbo (fun _ _ => rfl) ?_ | refine Yq1 rfl ?_ | refine Yq2 rfl ?_))
  refine Z9k (by simp [Z0.cells, Z0.one]) fun b6 hb6 => ?_
  (first | refine Z9a rfl Z8z rfl (by decide) (Yfi rfl) (fun h => by cases h) Z9b ?_ | refine Z8v rfl (Z9a rfl Z8z rfl (by decide) (Yfi rfl) (fun h => by cases h) Z9b ?_))
  (repeat (refine st_q rfl rfl rfl ?_))
  (refine Z8y ?_; (repeat (first | refine Z9v rfl ?_ | refine Z9w ?_)); refine Z9u ?_)
  refine Zb3 (d := 6) (cs := Zm6 (vI 4)) rfl ?_
  (refine Z9y (keep := [2, 3, 4, 5, 6, 7]) ?_; ((repeat (first | refine Z9v rfl ?_ | refine Z9w ?_)); refine Z9u ?_))
  (repeat (first | refine st_q rfl rfl rfl ?_ | refine Z8v rfl (st_q rfl rfl rfl ?_) | refine Z92 rfl Z8z rfl rfl ?_ | refine Z8v rfl (Z92 rfl Z8z rfl rfl ?_) | refine Zbz rfl rfl ?_ | refine Z8v rfl (Zbz rfl rfl ?_) | refine Z8w rfl ?_ | refine Z8x rfl ?_ | (refine Z8y ?_; (repeat (first | refine Z9v rfl ?_ | refine Z9w ?_)); refine Z9u ?_) | refine awp_seq ?_ | refine Zbm (fun _ _ => rfl) ?_ | refine Z8h ?_ | refine Zbn (fun _ _ => rfl) ?_ | refine Zbo (fun _ _ => rfl) ?_ | refine Yq1 rfl ?_ | refine Yq2 rfl ?_))
  refine Z9t rfl (Z1q.args (by (repeat (first | exact VRle.refl _ | exact Zc5 | refine Zc6 rfl rfl ?_ | refine Zc7 rfl ?_ | refine Zc4 ?_ ?_))) (hC _)) ?_
  (repeat (first | refine st_q rfl rfl rfl ?_ | refine Z8v rfl (st_q rfl rfl rfl ?_) | refine Z92 rfl Z8z rfl rfl ?_ | refine Z8v rfl (Z92 rfl Z8z rfl rfl ?_) | refine Zbz rfl rfl ?_ | refine Z8v rfl (Zbz rfl rfl ?_) | refine Z8w rfl ?_ | refine Z8x rfl ?_ | (refine Z8y ?_; (repeat (first | refine Z9v rfl ?_ | refine Z9w ?_)); refine Z9u ?_) | refine awp_seq ?_ | refine Zbm (fun _ _ => rfl) ?_ | refine Z8h ?_ | refine Zbn (fun _ _ => rfl) ?_ | refine Zbo (fun _ _ => rfl) ?_ | refine Yq1 rfl ?_ | refine Yq2 rfl ?_))
  refine Z8v rfl (Z9t rfl (Z1q.args (by (repeat (first | exact VRle.refl _ | exact Zc5 | refine Zc6 rfl rfl ?_ | refine Zc7 rfl ?_ | refine Zc4 ?_ ?_))) (hC0 _)) ?_)
  (repeat (first | refine st_q rfl rfl rfl ?_ | refine Z8v rfl (st_q rfl rfl rfl ?_) | refine Z92 rfl Z8z rfl rfl ?_ | refine Z8v rfl (Z92 rfl Z8z rfl rfl ?_) | refine Zbz rfl rfl ?_ | refine Z8v rfl (Zbz rfl rfl ?_) | refine Z8w rfl ?_ | refine Z8x rfl ?_ | (refine Z8y ?_; (repeat (first | refine Z9v rfl ?_ | refine Z9w ?_)); refine Z9u ?_) | refine awp_seq ?_ | refine Zbm (fun _ _ => rfl) ?_ | refine Z8h ?_ | refine Zbn (fun _ _ => rfl) ?_ | refine Zbo (fun _ _ => rfl) ?_ | refine Yq1 rfl ?_ | refine Yq2 rfl ?_))
  refine Z8v rfl (Z9t rfl (Z1q.args (by (repeat (first | exact VRle.refl _ | exact Zc5 | refine Zc6 rfl rfl ?_ | refine Zc7 rfl ?_ | refine Zc4 ?_ ?_))) (hM _)) ?_)
  (repeat (first | refine st_q rfl rfl rfl ?_ | refine Z8v rfl (st_q rfl rfl rfl ?_) | refine Z92 rfl Z8z rfl rfl ?_ | refine Z8v rfl (Z92 rfl Z8z rfl rfl ?_) | refine Zbz rfl rfl ?_ | refine Z8v rfl (Zbz rfl rfl ?_) | refine Z8w rfl ?_ | refine Z8x rfl ?_ | (refine Z8y ?_; (repeat (first | refine Z9v rfl ?_ | refine Z9w ?_)); refine Z9u ?_) | refine awp_seq ?_ | refine Zbm (fun _ _ => rfl) ?_ | refine Z8h ?_ | refine Zbn (fun _ _ => rfl) ?_ | refine Zbo (fun _ _ => rfl) ?_ | refine Yq1 rfl ?_ | refine Yq2 rfl ?_))
  refine Z8v rfl (Z9t rfl (Z1q.args (by (repeat (first | exact VRle.refl _ | exact Zc5 | refine Zc6 rfl rfl ?_ | refine Zc7 rfl ?_ | refine Zc4 ?_ ?_))) (hN _)) ?_)
  (repeat (first | refine st_q rfl rfl rfl ?_ | refine Z8v rfl (st_q rfl rfl rfl ?_) | refine Z92 rfl Z8z rfl rfl ?_ | refine Z8v rfl (Z92 rfl Z8z rfl rfl ?_) | refine Zbz rfl rfl ?_ | refine Z8v rfl (Zbz rfl rfl ?_) | refine Z8w rfl ?_ | refine Z8x rfl ?_ | (refine Z8y ?_; (repeat (first | refine Z9v rfl ?_ | refine Z9w ?_)); refine Z9u ?_) | refine awp_seq ?_ | refine Zbm (fun _ _ => rfl) ?_ | refine Z8h ?_ | refine Zbn (fun _ _ => rfl) ?_ | refine Zbo (fun _ _ => rfl) ?_ | refine Yq1 rfl ?_ | refine Yq2 rfl ?_))
  refine Z8v rfl (Z9t rfl (Z1q.args (by (repeat (first | exact VRle.refl _ | exact Zc5 | refine Zc6 rfl rfl ?_ | refine Zc7 rfl ?_ | refine Zc4 ?_ ?_))) (hY _)) ?_)
  (repeat (first | refine st_q rfl rfl rfl ?_ | refine Z8v rfl (st_q rfl rfl rfl ?_) | refine Z92 rfl Z8z rfl rfl ?_ | refine Z8v rfl (Z92 rfl Z8z rfl rfl ?_) | refine Zbz rfl rfl ?_ | refine Z8v rfl (Zbz rfl rfl ?_) | refine Z8w rfl ?_ | refine Z8x rfl ?_ | (refine Z8y ?_; (repeat (first | refine Z9v rfl ?_ | refine Z9w ?_)); refine Z9u ?_) | refine awp_seq ?_ | refine Zbm (fun _ _ => rfl) ?_ | refine Z8h ?_ | refine Zbn (fun _ _ => rfl) ?_ | refine Zbo (fun _ _ => rfl) ?_ | refine Yq1 rfl ?_ | refine Yq2 rfl ?_))
  refine Z8d ?_
  exact Yar rfl ⟨rfl, rfl⟩
mutual
def Z1az : Vl → Vl → Bool
  | .mk nu i n b ks, w => (nu == w.null) && (decide (i = w.i) && (decide (n = w.n) && (decide (b = w.b) && (decide (ks.length = w.kids.length) && Z1b0 ks w.kids))))
def Z1b0 : List Vl → List Vl → Bool
  | [], _ => true
  | v :: vs, ws => Z1az v (ws.getD 0 default) && Z1b0 vs (ws.drop 1)
end
theorem Z1b2 : ∀ (ks ws : List Vl) (j : Nat) (v w : Vl), ks[j]? = some v → ws[j]? = some w → Z1b0 (ks.drop j) (ws.drop j) = (Z1az v w && Z1b0 (ks.drop (j + 1)) (ws.drop (j + 1))) := by
  intro ks ws j v w h1 h2
  obtain ⟨h1', rfl⟩ := List.getElem?_eq_some_iff.1 h1
  obtain ⟨h2', rfl⟩ := List.getElem?_eq_some_iff.1 h2
  rw [List.drop_eq_getElem_cons h1', Z1b0, List.drop_eq_getElem_cons h2']
  simp [h2']
theorem Z1b3 : ∀ (a : Vl), a.Fit → ∀ (b : Vl) (σ : Zc), Z1q Try.prog Zd2 [encV a, encV b] σ fun r σ' => r = .bool (Z1az a b) ∧ σ' = σ := by
  refine Vl.ind fun nu i n bs ks ih hf b σ => ?_
  cases hf with
  | mk _ hb hk hks =>
  have hk : ks.length ≤ 9223372036854775807 := hk
  rw [Zm7, Zm7]
  obtain ⟨bn, bi, b_n, bb, bk⟩ := b
  refine Z8t rfl Z1ay (Nat.le_of_ble_eq_true rfl) ?_
  refine Z9z ?_
  refine Z9j rfl (Yfi rfl) fun b2 hb2 => ?_
  refine Z9j rfl (Yfi rfl) fun b3 hb3 => ?_
  (repeat (refine st_q rfl rfl rfl ?_))
  (refine Z8y ?_; (repeat (first | refine Z9v rfl ?_ | refine Z9w ?_)); refine Z9u ?_)
  refine Zb3 (d := 3) (cs := [.bool bn, .int .i64 bi, .int .i64 b_n, .slc 1 (bytes bb) false, .slc 5 (Zm5 bk) false]) rfl ?_
  refine Zb3 (d := 2) (cs := [.bool nu, .int .i64 i, .int .i64 n, .slc 1 (bytes bs) false, .slc 5 (Zm5 ks) false]) rfl ?_
  generalize hX : Z1az (.mk nu i n bs ks) (.mk bn bi b_n bb bk) = X
  simp only [Z1az, Vl.null, Vl.i, Vl.n, Vl.b, Vl.kids] at hX
  have eL : ∀ l : List Vl, (Zm5 l).length = l.length := Zm9
  cases q0 : (nu == bn) with
  | false =>
    have q0' : (!(nu == bn)) = true := by rw [q0]; rfl
    (repeat (first | refine st_q rfl rfl rfl ?_ | refine Z8v rfl (st_q rfl rfl rfl ?_) | refine Z92 rfl Z8z rfl rfl ?_ | refine Z8v rfl (Z92 rfl Z8z rfl rfl ?_) | refine Zbz rfl rfl ?_ | refine Z8v rfl (Zbz rfl rfl ?_) | refine Z8w rfl ?_ | refine Z8x rfl ?_ | (refine Z8y ?_; (repeat (first | refine Z9v rfl ?_ | refine Z9w ?_)); refine Z9u ?_) | refine awp_seq ?_ | refine Zbm (fun _ _ => rfl) ?_ | refine Z8h ?_ | refine Zbn (fun _ _ => rfl) ?_ | refine Zbo (fun _ _ => rfl) ?_ | refine Yq1 rfl ?_ | refine Yq2 rfl ?_))
    rw [q0']
    (repeat (first | refine st_q rfl rfl rfl ?_ | refine Z8v rfl (st_q rfl rfl rfl ?_) | refine Z92 rfl Z8z rfl rfl ?_ | refine Z8v rfl (Z92 rfl Z8z rfl rfl ?_) | refine Zbz rfl rfl ?_ | refine Z8v rfl (Zbz rfl rfl ?_) | refine Z8w rfl ?_ | refine Z8x rfl ?_ | (refine Z8y ?_; (repeat (first | refine Z9v rfl ?_ | refine Z9w ?_)); refine Z9u ?_) | refine awp_seq ?_ | refine Zbm (fun _ _ => rfl) ?_ | refine Z8h ?_ | refine Zbn (fun _ _ => rfl) ?_ | refine Zbo (fun _ _ => rfl) ?_ | refine Yq1 rfl ?_ | refine Yq2 rfl ?_))
    (refine Z8d ?_; exact Yar rfl ⟨(by rw [← hX, q0]; rfl), rfl⟩)
  | true =>
  have q0' : (!(nu == bn)) = false := by rw [q0]; rfl
  (repeat (first | refine st_q rfl rfl rfl ?_ | refine Z8v rfl (st_q rfl rfl rfl ?_) | refine Z92 rfl Z8z rfl rfl ?_ | refine Z8v rfl (Z92 rfl Z8z rfl rfl ?_) | refine Zbz rfl rfl ?_ | refine Z8v rfl (Zbz rfl rfl ?_) | refine Z8w rfl ?_ | refine Z8x rfl ?_ | (refine Z8y ?_; (repeat (first | refine Z9v rfl ?_ | refine Z9w ?_)); refine Z9u ?_) | refine awp_seq ?_ | refine Zbm (fun _ _ => rfl) ?_ | refine Z8h ?_ | refine Zbn (fun _ _ => rfl) ?_ | refine Zbo (fun _ _ => rfl) ?_ | refine Yq1 rfl ?_ | refine Yq2 rfl ?_))
  rw [q0']
  (repeat (first | refine st_q rfl rfl rfl ?_ | refine Z8v rfl (st_q rfl rfl rfl ?_) | refine Z92 rfl Z8z rfl rfl ?_ | refine Z8v rfl (Z92 rfl Z8z rfl rfl ?_) | refine Zbz rfl rfl ?_ | refine Z8v rfl (Zbz rfl rfl ?_) | refine Z8w rfl ?_ | refine Z8x rfl ?_ | (refine Z8y ?_; (repeat (first | refine Z9v rfl ?_ | refine Z9w ?_)); refine Z9u ?_) | refine awp_seq ?_ | refine Zbm (fun _ _ => rfl) ?_ | refine Z8h ?_ | refine Zbn (fun _ _ => rfl) ?_ | refine Zbo (fun _ _ => rfl) ?_ | refine Yq1 rfl ?_ | refine Yq2 rfl ?_))
  by_cases q1 : i = bi
  rotate_left
  · (rw [decide_eq_true (p := i ≠ bi) (by omega)])
    (repeat (first | refine st_q rfl rfl rfl ?_ | refine Z8v rfl (st_q rfl rfl rfl ?_) | refine Z92 rfl Z8z rfl rfl ?_ | refine Z8v rfl (Z92 rfl Z8z rfl rfl ?_) | refine Zbz rfl rfl ?_ | refine Z8v rfl (Zbz rfl rfl ?_) | refine Z8w rfl ?_ | refine Z8x rfl ?_ | (refine Z8y ?_; (repeat (first | refine Z9v rfl ?_ | refine Z9w ?_)); refine Z9u ?_) | refine awp_seq ?_ | refine Zbm (fun _ _ => rfl) ?_ | refine Z8h ?_ | refine Zbn (fun _ _ => rfl) ?_ | refine Zbo (fun _ _ => rfl) ?_ | refine Yq1 rfl ?_ | refine Yq2 rfl ?_))
    (refine Z8d ?_; exact Yar rfl ⟨(by rw [← hX]; simp [q1, Z8m]), rfl⟩)
  (rw [decide_eq_false (p := i ≠ bi) (by omega)])
  (repeat (first | refine st_q rfl rfl rfl ?_ | refine Z8v rfl (st_q rfl rfl rfl ?_) | refine Z92 rfl Z8z rfl rfl ?_ | refine Z8v rfl (Z92 rfl Z8z rfl rfl ?_) | refine Zbz rfl rfl ?_ | refine Z8v rfl (Zbz rfl rfl ?_) | refine Z8w rfl ?_ | refine Z8x rfl ?_ | (refine Z8y ?_; (repeat (first | refine Z9v rfl ?_ | refine Z9w ?_)); refine Z9u ?_) | refine awp_seq ?_ | refine Zbm (fun _ _ => rfl) ?_ | refine Z8h ?_ | refine Zbn (fun _ _ => rfl) ?_ | refine Zbo (fun _ _ => rfl) ?_ | refine Yq1 rfl ?_ | refine Yq2 rfl ?_))
  by_cases q2 : n = b_n
  rotate_left
  · (rw [decide_eq_true (p := n ≠ b_n) (by omega)])
    (repeat (first | refine st_q rfl rfl rfl ?_ | refine Z8v rfl (st_q rfl rfl rfl ?_) | refine Z92 rfl Z8z rfl rfl ?_ | refine Z8v rfl (Z92 rfl Z8z rfl rfl ?_) | refine Zbz rfl rfl ?_ | refine Z8v rfl (Zbz rfl rfl ?_) | refine Z8w rfl ?_ | refine Z8x rfl ?_ | (refine Z8y ?_; (repeat (first | refine Z9v rfl ?_ | refine Z9w ?_)); refine Z9u ?_) | refine awp_seq ?_ | refine Zbm (fun _ _ => rfl) ?_ | refine Z8h ?_ | refine Zbn (fun _ _ => rfl) ?_ | refine Zbo (fun _ _ => rfl) ?_ | refine Yq1 rfl ?_ | refine Yq2 rfl ?_))
    (refine Z8d ?_; exact Yar rfl ⟨(by rw [← hX]; simp [q2, Z8m]), rfl⟩)
  (rw [decide_eq_false (p := n ≠ b_n) (by omega)])
  (repeat (first | refine st_q rfl rfl rfl ?_ | refine Z8v rfl (st_q rfl rfl rfl ?_) | refine Z92 rfl Z8z rfl rfl ?_ | refine Z8v rfl (Z92 rfl Z8z rfl rfl ?_) | refine Zbz rfl rfl ?_ | refine Z8v rfl (Zbz rfl rfl ?_) | refine Z8w rfl ?_ | refine Z8x rfl ?_ | (refine Z8y ?_; (repeat (first | refine Z9v rfl ?_ | refine Z9w ?_)); refine Z9u ?_) | refine awp_seq ?_ | refine Zbm (fun _ _ => rfl) ?_ | refine Z8h ?_ | refine Zbn (fun _ _ => rfl) ?_ | refine Zbo (fun _ _ => rfl) ?_ | refine Yq1 rfl ?_ | refine Yq2 rfl ?_))
  by_cases q3 : bs = bb
  rotate_left
  · rw [show decide (bs ≠ bb) = true from decide_eq_true q3]
    (repeat (first | refine st_q rfl rfl rfl ?_ | refine Z8v rfl (st_q rfl rfl rfl ?_) | refine Z92 rfl Z8z rfl rfl ?_ | refine Z8v rfl (Z92 rfl Z8z rfl rfl ?_) | refine Zbz rfl rfl ?_ | refine Z8v rfl (Zbz rfl rfl ?_) | refine Z8w rfl ?_ | refine Z8x rfl ?_ | (refine Z8y ?_; (repeat (first | refine Z9v rfl ?_ | refine Z9w ?_)); refine Z9u ?_) | refine awp_seq ?_ | refine Zbm (fun _ _ => rfl) ?_ | refine Z8h ?_ | refine Zbn (fun _ _ => rfl) ?_ | refine Zbo (fun _ _ => rfl) ?_ | refine Yq1 rfl ?_ | refine Yq2 rfl ?_))
    (refine Z8d ?_; exact Yar rfl ⟨(by rw [← hX]; simp [q3, Z8m]), rfl⟩)
  rw [show decide (bs ≠ bb) = false from decide_eq_false (fun h => h q3)]
  (repeat (first | refine st_q rfl rfl rfl ?_ | refine Z8v rfl (st_q rfl rfl rfl ?_) | refine Z92 rfl Z8z rfl rfl ?_ | refine Z8v rfl (Z92 rfl Z8z rfl rfl ?_) | refine Zbz rfl rfl ?_ | refine Z8v rfl (Zbz rfl rfl ?_) | refine Z8w rfl ?_ | refine Z8x rfl ?_ | (refine Z8y ?_; (repeat (first | refine Z9v rfl ?_ | refine Z9w ?_)); refine Z9u ?_) | refine awp_seq ?_ | refine Zbm (fun _ _ => rfl) ?_ | refine Z8h ?_ | refine Zbn (fun _ _ => rfl) ?_ | refine Zbo (fun _ _ => rfl) ?_ | refine Yq1 rfl ?_ | refine Yq2 rfl ?_))
  rw [eL, eL]
  by_cases q4 : ks.length = bk.length
  rotate_left
  · (rw [decide_eq_true (p := (ks.length : Int) ≠ (bk.length : Int)) (by omega)])
    (repeat (first | refine st_q rfl rfl rfl ?_ | refine Z8v rfl (st_q rfl rfl rfl ?_) | refine Z92 rfl Z8z rfl rfl ?_ | refine Z8v rfl (Z92 rfl Z8z rfl rfl ?_) | refine Zbz rfl rfl ?_ | refine Z8v rfl (Zbz rfl rfl ?_) | refine Z8w rfl ?_ | refine Z8x rfl ?_ | (refine Z8y ?_; (repeat (first | refine Z9v rfl ?_ | refine Z9w ?_)); refine Z9u ?_) | refine awp_seq ?_ | refine Zbm (fun _ _ => rfl) ?_ | refine Z8h ?_ | refine Zbn (fun _ _ => rfl) ?_ | refine Zbo (fun _ _ => rfl) ?_ | refine Yq1 rfl ?_ | refine Yq2 rfl ?_))
    (refine Z8d ?_; exact Yar rfl ⟨(by rw [← hX]; simp [q4, Z8m]), rfl⟩)
  (rw [decide_eq_false (p := (ks.length : Int) ≠ (bk.length : Int)) (by omega)])
  (repeat (first | refine st_q rfl rfl rfl ?_ | refine Z8v rfl (st_q rfl rfl rfl ?_) | refine Z92 rfl Z8z rfl rfl ?_ | refine Z8v rfl (Z92 rfl Z8z rfl rfl ?_) | refine Zbz rfl rfl ?_ | refine Z8v rfl (Zbz rfl rfl ?_) | refine Z8w rfl ?_ | refine Z8x rfl ?_ | (refine Z8y ?_; (repeat (first | refine Z9v rfl ?_ | refine Z9w ?_)); refine Z9u ?_) | refine awp_seq ?_ | refine Zbm (fun _ _ => rfl) ?_ | refine Z8h ?_ | refine Zbn (fun _ _ => rfl) ?_ | refine Zbo (fun _ _ => rfl) ?_ | refine Yq1 rfl ?_ | refine Yq2 rfl ?_))
  have hX : Z1b0 ks bk = X := by rw [← hX]; simp [q0, q1, q2, q3, q4]
  refine Zaa (fun m F σ' => ∃ (j : Nat), F = fset 2 (some (.iptr [.bool nu, .int .i64 i, .int .i64 n, .slc 1 (bytes bs) false, .slc 5 (Zm5 ks) false])) (fset 3 (some (.iptr [.bool bn, .int .i64 bi, .int .i64 b_n, .slc 1 (bytes bb) false, .slc 5 (Zm5 bk) false])) (fset 5 (some (.int .i64 (j : Int))) Z27)) ∧
    σ = σ' ∧ j ≤ ks.length ∧ Z1b0 (ks.drop j) (bk.drop j) = X ∧ m = ks.length - j) (n := ks.length) ⟨0, rfl, rfl, by omega, hX, rfl⟩ ?_
  rintro m F σ' ⟨j, rfl, rfl, hj, hXj, rfl⟩
  (repeat (first | refine st_q rfl rfl rfl ?_ | refine Z8v rfl (st_q rfl rfl rfl ?_) | refine Z92 rfl Z8z rfl rfl ?_ | refine Z8v rfl (Z92 rfl Z8z rfl rfl ?_) | refine Zbz rfl rfl ?_ | refine Z8v rfl (Zbz rfl rfl ?_) | refine Z8w rfl ?_ | refine Z8x rfl ?_ | (refine Z8y ?_; (repeat (first | refine Z9v rfl ?_ | refine Z9w ?_)); refine Z9u ?_) | refine awp_seq ?_ | refine Zbm (fun _ _ => rfl) ?_ | refine Z8h ?_ | refine Zbn (fun _ _ => rfl) ?_ | refine Zbo (fun _ _ => rfl) ?_ | refine Yq1 rfl ?_ | refine Yq2 rfl ?_))
  rw [eL]
  refine Za3 (p := (j : Int) < (ks.length : Int)) rfl (fun h5 => ?_) (fun h5 => ?_)
  · have hjl : j < ks.length := by omega
    have hjl2 : j < bk.length := by omega
    have h1 : (Zm5 ks)[((j : Nat) : Int).toNat]? = some (.agg (Zm6 ks[j])) := by rw [← Zm7]; exact Zma (by rw [Int.toNat_natCast, List.getElem?_eq_getElem hjl])
    have h2 : (Zm5 bk)[((j : Nat) : Int).toNat]? = some (.agg (Zm6 bk[j])) := by rw [← Zm7]; exact Zma (by rw [Int.toNat_natCast, List.getElem?_eq_getElem hjl2])
    rw [Z1b2 ks bk j ks[j] bk[j] (List.getElem?_eq_getElem hjl) (List.getElem?_eq_getElem hjl2)] at hXj
    have hc := ih ks[j] (List.getElem_mem hjl) (hks _ (List.getElem_mem hjl)) bk[j]
    rw [Zm7, Zm7] at hc
    (repeat (first | refine st_q rfl rfl rfl ?_ | refine Z8v rfl (st_q rfl rfl rfl ?_) | refine Z92 rfl Z8z rfl rfl ?_ | refine Z8v rfl (Z92 rfl Z8z rfl rfl ?_) | refine Zbz rfl rfl ?_ | refine Z8v rfl (Zbz rfl rfl ?_) | refine Z8w rfl ?_ | refine Z8x rfl ?_ | (refine Z8y ?_; (repeat (first | refine Z9v rfl ?_ | refine Z9w ?_)); refine Z9u ?_) | refine awp_seq ?_ | refine Zbm (fun _ _ => rfl) ?_ | refine Z8h ?_ | refine Zbn (fun _ _ => rfl) ?_ | refine Zbo (fun _ _ => rfl) ?_ | refine Yq1 rfl ?_ | refine Yq2 rfl ?_))
    refine Z93 rfl (by omega) h1 ?_
    (repeat (first | refine st_q rfl rfl rfl ?_ | refine Z8v rfl (st_q rfl rfl rfl ?_) | refine Z92 rfl Z8z rfl rfl ?_ | refine Z8v rfl (Z92 rfl Z8z rfl rfl ?_) | refine Zbz rfl rfl ?_ | refine Z8v rfl (Zbz rfl rfl ?_) | refine Z8w rfl ?_ | refine Z8x rfl ?_ | (refine Z8y ?_; (repeat (first | refine Z9v rfl ?_ | refine Z9w ?_)); refine Z9u ?_) | refine awp_seq ?_ | refine Zbm (fun _ _ => rfl) ?_ | refine Z8h ?_ | refine Zbn (fun _ _ => rfl) ?_ | refine Zbo (fun _ _ => rfl) ?_ | refine Yq1 rfl ?_ | refine Yq2 rfl ?_))
    refine Z93 rfl (by omega) h2 ?_
    (repeat (first | refine st_q rfl rfl rfl ?_ | refine Z8v rfl (st_q rfl rfl rfl ?_) | refine Z92 rfl Z8z rfl rfl ?_ | refine Z8v rfl (Z92 rfl Z8z rfl rfl ?_) | refine Zbz rfl rfl ?_ | refine Z8v rfl (Zbz rfl rfl ?_) | refine Z8w rfl ?_ | refine Z8x rfl ?_ | (refine Z8y ?_; (repeat (first | refine Z9v rfl ?_ | refine Z9w ?_)); refine Z9u ?_) | refine awp_seq ?_ | refine Zbm (fun _ _ => rfl) ?_ | refine Z8h ?_ | refine Zbn (fun _ _ => rfl) ?_ | refine Zbo (fun _ _ => rfl) ?_ | refine Yq1 rfl ?_ | refine Yq2 rfl ?_))
    (first | refine Z9t rfl (hc _) ?_ | refine Z8v rfl (Z9t rfl (hc _) ?_) | refine Zbw rfl hc ?_ | refine Z8v rfl (Zbw rfl hc ?_))
    cases hs : Z1az ks[j] bk[j] with
    | false =>
      rw [hs, Bool.false_and] at hXj
      (repeat (first | refine st_q rfl rfl rfl ?_ | refine Z8v rfl (st_q rfl rfl rfl ?_) | refine Z92 rfl Z8z rfl rfl ?_ | refine Z8v rfl (Z92 rfl Z8z rfl rfl ?_) | refine Zbz rfl rfl ?_ | refine Z8v rfl (Zbz rfl rfl ?_) | refine Z8w rfl ?_ | refine Z8x rfl ?_ | (refine Z8y ?_; (repeat (first | refine Z9v rfl ?_ | refine Z9w ?_)); refine Z9u ?_) | refine awp_seq ?_ | refine Zbm (fun _ _ => rfl) ?_ | refine Z8h ?_ | refine Zbn (fun _ _ => rfl) ?_ | refine Zbo (fun _ _ => rfl) ?_ | refine Yq1 rfl ?_ | refine Yq2 rfl ?_))
      (refine Z8d ?_; exact Yar rfl ⟨(by rw [← hXj]; rfl), rfl⟩)
    | true =>
      rw [hs, Bool.true_and] at hXj
      (repeat (first | refine st_q rfl rfl rfl ?_ | refine Z8v rfl (st_q rfl rfl rfl ?_) | refine Z92 rfl Z8z rfl rfl ?_ | refine Z8v rfl (Z92 rfl Z8z rfl rfl ?_) | refine Zbz rfl rfl ?_ | refine Z8v rfl (Zbz rfl rfl ?_) | refine Z8w rfl ?_ | refine Z8x rfl ?_ | (refine Z8y ?_; (repeat (first | refine Z9v rfl ?_ | refine Z9w ?_)); refine Z9u ?_) | refine awp_seq ?_ | refine Zbm (fun _ _ => rfl) ?_ | refine Z8h ?_ | refine Zbn (fun _ _ => rfl) ?_ | refine Zbo (fun _ _ => rfl) ?_ | refine Yq1 rfl ?_ | refine Yq2 rfl ?_))
      refine Zbp ?_
      (repeat (refine st_q rfl rfl rfl ?_))
      rw [show IntKind.wrap .i64 ((j : Int) + 1) = ((j + 1 : Nat) : Int) by rw [w64 _ (by omega) (by omega)]; omega]
      (refine Z8y ?_; (repeat (first | refine Z9v rfl ?_ | refine Z9w ?_)); refine Z9u ?_)
      exact ⟨_, ks.length - (j + 1), HSub.refl _, ⟨j + 1, rfl, rfl, by omega, hXj, rfl⟩, by omega⟩
  · (repeat (first | refine st_q rfl rfl rfl ?_ | refine Z8v rfl (st_q rfl rfl rfl ?_) | refine Z92 rfl Z8z rfl rfl ?_ | refine Z8v rfl (Z92 rfl Z8z rfl rfl ?_) | refine Zbz rfl rfl ?_ | refine Z8v rfl (Zbz rfl rfl ?_) | refine Z8w rfl ?_ | refine Z8x rfl ?_ | (refine Z8y ?_; (repeat (first | refine Z9v rfl ?_ | refine Z9w ?_)); refine Z9u ?_) | refine awp_seq ?_ | refine Zbm (fun _ _ => rfl) ?_ | refine Z8h ?_ | refine Zbn (fun _ _ => rfl) ?_ | refine Zbo (fun _ _ => rfl) ?_ | refine Yq1 rfl ?_ | refine Yq2 rfl ?_))
    rw [List.drop_of_length_le (by omega), Z1b0] at hXj
    (refine Z8d ?_; exact Yar rfl ⟨(by rw [← hXj]; rfl), rfl⟩)
theorem Z1f7 : ∀ (t : Ty) (a : Nat) (p : Int) (d : Nat), -1 ≤ p → p < a → ∀ (i : Nat) (n : Nd), (Zlz a p d t)[i]? = some n → -1 ≤ n.parent ∧ n.parent < (a + i : Nat) := by
  refine Ty.ind fun k ns ks l pr s ih a p d h1 h2 i n hn => ?_
  have hL : ∀ (ts : List Ty), (∀ t ∈ ts, ∀ (a : Nat) (p : Int) (d : Nat), -1 ≤ p → p < a → ∀ (i : Nat) (n : Nd), (Zlz a p d t)[i]? = some n → -1 ≤ n.parent ∧ n.parent < (a + i : Nat)) →
      ∀ (a : Nat) (p : Int) (d : Nat), -1 ≤ p → p < a → ∀ (i : Nat) (n : Nd), (Zm0 a p d ts)[i]? = some n → -1 ≤ n.parent ∧ n.parent < (a + i : Nat) := by
    intro ts
    induction ts with
    | nil => intro _ a p d _ _ i n hn; rw [Zm0] at hn; cases hn
    | cons t ts ih2 =>
      intro h a p d h1 h2 i n hn
      rw [Zm0] at hn
      by_cases hi : i < (Zlz a p d t).length
      · rw [List.getElem?_append_left hi] at hn
        exact h t (by simp) a p d h1 h2 i n hn
      · rw [List.getElem?_append_right (by omega)] at hn
        have := ih2 (fun t ht => h t (by simp [ht])) (a + cnt t) p d h1 (by omega) _ n hn
        rw [Zm1] at this hi
        omega
  rw [Zlz] at hn
  cases i with
  | zero =>
    rw [List.getElem?_cons_zero] at hn
    cases hn
    exact ⟨h1, by simpa using h2⟩
  | succ i =>
    rw [List.getElem?_cons_succ] at hn
    have := hL ks ih (a + 1) (a : Int) (d + 1) (by omega) (by omega) i n hn
    omega
theorem Z1f8 {P : Ty → Prop} {Q : Nd → Prop} (hP : ∀ t, P t → ∀ k ∈ t.kids, P k) (hQ : ∀ (t : Ty) (a : Nat) (p : Int) (d : Nat), P t → Q ⟨t, Zly a t.kids, p, d⟩) : ∀ (t : Ty), P t → ∀ (a : Nat) (p : Int) (d : Nat), ∀ n ∈ Zlz a p d t, Q n := by
  refine Ty.ind fun k ns ks l pr s ih ht a p d n hn => ?_
  have hL : ∀ (ts : List Ty), (∀ t ∈ ts, P t ∧ (P t → ∀ (a : Nat) (p : Int) (d : Nat), ∀ n ∈ Zlz a p d t, Q n)) → ∀ (a : Nat) (p : Int) (d : Nat), ∀ n ∈ Zm0 a p d ts, Q n := by
    intro ts
    induction ts with
    | nil => intro _ a p d n hn; rw [Zm0] at hn; cases hn
    | cons t ts ih2 =>
      intro h a p d n hn
      rw [Zm0, List.mem_append] at hn
      rcases hn with hn | hn
      · obtain ⟨h1, h2⟩ := h t (by simp)
        exact h2 h1 a p d n hn
      · exact ih2 (fun t ht => h t (by simp [ht])) _ p d n hn
  rw [Zlz, List.mem_cons] at hn
  rcases hn with rfl | hn
  · exact hQ _ (a + 1) p d ht
  · exact hL ks (fun t hk => ⟨hP _ ht t hk, ih t hk⟩) _ _ _ n hn
theorem Z1f9 (t : Ty) : WfN (Zm4 t) := by
  rw [Zm4]
  split
  · rename_i hc
    obtain ⟨_, hs, hcnt⟩ := Znd t 1 0 hc
    refine ⟨by rw [Zm1]; omega, fun i n hn => ?_, fun n hn => ?_⟩
    · have := Z1f7 t 0 (-1) 1 (by omega) (by omega) i n hn
      simpa using this
    · refine Z1f8 (P := Ty.Small) (Q := fun n => n.kids.length ≤ 1000000) (fun t ht k hk => ?_) (fun t a p d ht => ?_) t hs 0 (-1) 1 n hn
      · cases ht with
        | mk _ _ _ h => exact h k hk
      · cases ht with
        | mk h1 _ _ _ =>
          simp only [Znl]
          omega
  · exact ⟨by simp, fun i n hn => by simp at hn, fun n hn => by simp at hn⟩
theorem Z1fa (t : Ty) : ∀ n ∈ Zm4 t, n.t.Ok := by
  intro n hn
  rw [Zm4] at hn
  split at hn
  · rename_i hc
    refine Z1f8 (P := Ty.Ok) (Q := fun n => n.t.Ok) (fun t ht k hk => ?_) (fun t a p d ht => ht) t (Ztu t 1 0 hc) 0 (-1) 1 n hn
    cases ht with
    | mk _ h => exact h k hk
  · cases hn
mutual
def fewT (deep : Nat) : Ty → Nat
  | .mk k ns ks l p s => if 20 < deep ∨ 300 < ks.length ∨ 300 < ns.length then 1000 else if ns.any (fun s => decide (200 < s.length)) = true then 1000 else fewTL (deep + 1) 1 ks
def fewTL (deep n : Nat) : List Ty → Nat
  | [] => n
  | t :: ts => if 1000 < n + fewT deep t then 1000 else fewTL deep (n + fewT deep t) ts
end
mutual
def fewV (deep : Nat) : Vl → Nat
  | .mk nu i n b ks => if 20 < deep ∨ 400 < ks.length ∨ 5000 < b.length then 1000 else fewVL (deep + 1) (1 + b.length / 50) ks
def fewVL (deep n : Nat) : List Vl → Nat
  | [] => n
  | t :: ts => if 1000 < n + fewV deep t then 1000 else fewVL deep (n + fewV deep t) ts
end
theorem Z1fb : ∀ (ts : List Ty) (deep n : Nat), n ≤ 1000 → n ≤ fewTL deep n ts
  | [], deep, n, h => by rw [fewTL]; omega
  | t :: ts, deep, n, h => by
    rw [fewTL]
    split
    · exact h
    · have := Z1fb ts deep (n + fewT deep t) (by omega)
      omega
theorem Z1fc : ∀ (ts : List Ty) (deep n : Nat), n ≤ 1000 → fewTL deep n ts < 1000 → ∀ t ∈ ts, fewT deep t < 1000 ∧ n + fewT deep t ≤ fewTL deep n ts
  | [], _, _, _, _, t, ht => by cases ht
  | t :: ts, deep, n, h, hlt, u, hu => by
    rw [fewTL] at hlt ⊢
    split at hlt
    · omega
    · rename_i h1
      rw [if_neg h1]
      have hge := Z1fb ts deep (n + fewT deep t) (by omega)
      rcases List.mem_cons.1 hu with rfl | hu
      · omega
      · have := Z1fc ts deep (n + fewT deep t) (by omega) hlt u hu
        omega
theorem Z1fd : ∀ (t : Ty) (deep : Nat), fewT deep t ≤ 1000 := by
  refine Ty.ind fun k ns ks l p s ih deep => ?_
  have hL : ∀ (ts : List Ty) (deep n : Nat), n ≤ 1000 → fewTL deep n ts ≤ 1000 := by
    intro ts
    induction ts with
    | nil => intro deep n h; rw [fewTL]; exact h
    | cons t ts ih2 =>
      intro deep n h
      rw [fewTL]
      split
      · omega
      · exact ih2 deep _ (by omega)
  rw [fewT]
  split
  · omega
  · split
    · omega
    · exact hL ks _ 1 (by omega)
theorem Z1fe : ∀ (t : Vl) (deep : Nat), fewV deep t ≤ 1000 := by
  refine Vl.ind fun nu i n b ks ih deep => ?_
  have hL : ∀ (ts : List Vl) (deep n : Nat), n ≤ 1000 → fewVL deep n ts ≤ 1000 := by
    intro ts
    induction ts with
    | nil => intro deep n h; rw [fewVL]; exact h
    | cons t ts ih2 =>
      intro deep n h
      rw [fewVL]
      split
      · omega
      · exact ih2 deep _ (by omega)
  rw [fewV]
  split
  · omega
  · exact hL ks _ _ (by omega)
inductive Ty.Few : Ty → Prop
  | mk {t : Ty} (h1 : t.kids.length ≤ 300) (h2 : t.names.length ≤ 300) (h4 : ∀ s ∈ t.names, s.length ≤ 200) (h : ∀ k ∈ t.kids, Ty.Few k) : Ty.Few t
theorem Z1ff : ∀ (t : Ty) (deep : Nat), fewT deep t < 1000 → t.Few := by
  refine Ty.ind fun k ns ks l p s ih deep h => ?_
  rw [fewT] at h
  split at h
  · omega
  · split at h
    · omega
    · rename_i h1 h2
      refine .mk (by show ks.length ≤ 300; omega) (by show ns.length ≤ 300; omega) (fun s hs => ?_) fun t ht => ih t ht (deep + 1) (Z1fc ks (deep + 1) 1 (by omega) h t ht).1
      refine Nat.le_of_not_lt fun h3 => h2 ?_
      exact List.any_eq_true.2 ⟨s, hs, decide_eq_true h3⟩
theorem Ty.Few.fit : ∀ t : Ty, t.Few → t.Fit := by
  refine Ty.ind fun k ns ks l p s ih h => ?_
  cases h with
  | mk h1 h2 h4 h3 => exact .mk (by omega) (by omega) (fun s hs => Nat.le_trans (h4 s hs) (by unfold maxLen; omega)) fun t ht => ih t ht (h3 t ht)
inductive Vl.Few : Vl → Prop
  | mk {v : Vl} (h1 : v.b.length ≤ 5000) (h2 : v.kids.length ≤ 400) (h : ∀ k ∈ v.kids, Vl.Few k) : Vl.Few v
def fewR (n : Nat) : List Vl → Bool
  | [] => true
  | v :: vs => if 1000 < n + fewV 1 v then false else fewR (n + fewV 1 v) vs
theorem Z1fg : ∀ (t : Ty) (deep : Nat), deep ≤ 1000 → ∀ σ, Z1q Try.prog Zf3 [encT t, .int .i64 (deep : Int)] σ fun r σ' => r = .int .i64 (fewT deep t : Int) ∧ σ' = σ := by
  refine Ty.ind fun k ns ks l p s ih deep hd σ => ?_
  rw [Zlp]
  refine Z8t rfl Z1f1 (Nat.le_of_ble_eq_true rfl) ?_
  refine Z9z ?_
  refine Z9j rfl (Yfi rfl) fun b2 hb2 => ?_
  (repeat (refine st_q rfl rfl rfl ?_))
  (refine Z8y ?_; (repeat (first | refine Z9v rfl ?_ | refine Z9w ?_)); refine Z9u ?_)
  refine Zb3 (d := 2) (cs := [.int .i64 k, .slc 1 (ns.map .str) false, .slc 6 (Zln ks) false, .int .i64 l, .int .i64 p, .int .i64 s]) rfl ?_
  generalize hX : fewT deep (.mk k ns ks l p s) = X
  rw [fewT] at hX
  by_cases h1 : 20 < deep
  · (repeat (first | refine st_q rfl rfl rfl ?_ | refine Z8v rfl (st_q rfl rfl rfl ?_) | refine Z92 rfl Z8z rfl rfl ?_ | refine Z8v rfl (Z92 rfl Z8z rfl rfl ?_) | refine Zbz rfl rfl ?_ | refine Z8v rfl (Zbz rfl rfl ?_) | refine Z8w rfl ?_ | refine Z8x rfl ?_ | (refine Z8y ?_; (repeat (first | refine Z9v rfl ?_ | refine Z9w ?_)); refine Z9u ?_) | refine awp_seq ?_ | refine Zbm (fun _ _ => rfl) ?_ | refine Z8h ?_ | refine Zbn (fun _ _ => rfl) ?_ | refine Zbo (fun _ _ => rfl) ?_ | refine Yq1 rfl ?_ | refine Yq2 rfl ?_))
    (rw [decide_eq_true (p := (20 : Int) < (deep : Int)) (by omega)])
    (repeat (first | refine st_q rfl rfl rfl ?_ | refine Z8v rfl (st_q rfl rfl rfl ?_) | refine Z92 rfl Z8z rfl rfl ?_ | refine Z8v rfl (Z92 rfl Z8z rfl rfl ?_) | refine Zbz rfl rfl ?_ | refine Z8v rfl (Zbz rfl rfl ?_) | refine Z8w rfl ?_ | refine Z8x rfl ?_ | (refine Z8y ?_; (repeat (first | refine Z9v rfl ?_ | refine Z9w ?_)); refine Z9u ?_) | refine awp_seq ?_ | refine Zbm (fun _ _ => rfl) ?_ | refine Z8h ?_ | refine Zbn (fun _ _ => rfl) ?_ | refine Zbo (fun _ _ => rfl) ?_ | refine Yq1 rfl ?_ | refine Yq2 rfl ?_))
    (refine Z8d ?_; exact Yar rfl ⟨(by rw [← hX, if_pos (.inl h1)]; rfl), rfl⟩)
  (repeat (first | refine st_q rfl rfl rfl ?_ | refine Z8v rfl (st_q rfl rfl rfl ?_) | refine Z92 rfl Z8z rfl rfl ?_ | refine Z8v rfl (Z92 rfl Z8z rfl rfl ?_) | refine Zbz rfl rfl ?_ | refine Z8v rfl (Zbz rfl rfl ?_) | refine Z8w rfl ?_ | refine Z8x rfl ?_ | (refine Z8y ?_; (repeat (first | refine Z9v rfl ?_ | refine Z9w ?_)); refine Z9u ?_) | refine awp_seq ?_ | refine Zbm (fun _ _ => rfl) ?_ | refine Z8h ?_ | refine Zbn (fun _ _ => rfl) ?_ | refine Zbo (fun _ _ => rfl) ?_ | refine Yq1 rfl ?_ | refine Yq2 rfl ?_))
  (rw [decide_eq_false (p := (20 : Int) < (deep : Int)) (by omega)])
  (repeat (first | refine st_q rfl rfl rfl ?_ | refine Z8v rfl (st_q rfl rfl rfl ?_) | refine Z92 rfl Z8z rfl rfl ?_ | refine Z8v rfl (Z92 rfl Z8z rfl rfl ?_) | refine Zbz rfl rfl ?_ | refine Z8v rfl (Zbz rfl rfl ?_) | refine Z8w rfl ?_ | refine Z8x rfl ?_ | (refine Z8y ?_; (repeat (first | refine Z9v rfl ?_ | refine Z9w ?_)); refine Z9u ?_) | refine awp_seq ?_ | refine Zbm (fun _ _ => rfl) ?_ | refine Z8h ?_ | refine Zbn (fun _ _ => rfl) ?_ | refine Zbo (fun _ _ => rfl) ?_ | refine Yq1 rfl ?_ | refine Yq2 rfl ?_))
  rw [Zlr]
  by_cases h2 : 300 < ks.length
  · (rw [decide_eq_true (p := (300 : Int) < (ks.length : Int)) (by omega)])
    (repeat (first | refine st_q rfl rfl rfl ?_ | refine Z8v rfl (st_q rfl rfl rfl ?_) | refine Z92 rfl Z8z rfl rfl ?_ | refine Z8v rfl (Z92 rfl Z8z rfl rfl ?_) | refine Zbz rfl rfl ?_ | refine Z8v rfl (Zbz rfl rfl ?_) | refine Z8w rfl ?_ | refine Z8x rfl ?_ | (refine Z8y ?_; (repeat (first | refine Z9v rfl ?_ | refine Z9w ?_)); refine Z9u ?_) | refine awp_seq ?_ | refine Zbm (fun _ _ => rfl) ?_ | refine Z8h ?_ | refine Zbn (fun _ _ => rfl) ?_ | refine Zbo (fun _ _ => rfl) ?_ | refine Yq1 rfl ?_ | refine Yq2 rfl ?_))
    (refine Z8d ?_; exact Yar rfl ⟨(by rw [← hX, if_pos (.inr (.inl h2))]; rfl), rfl⟩)
  (rw [decide_eq_false (p := (300 : Int) < (ks.length : Int)) (by omega)])
  (repeat (first | refine st_q rfl rfl rfl ?_ | refine Z8v rfl (st_q rfl rfl rfl ?_) | refine Z92 rfl Z8z rfl rfl ?_ | refine Z8v rfl (Z92 rfl Z8z rfl rfl ?_) | refine Zbz rfl rfl ?_ | refine Z8v rfl (Zbz rfl rfl ?_) | refine Z8w rfl ?_ | refine Z8x rfl ?_ | (refine Z8y ?_; (repeat (first | refine Z9v rfl ?_ | refine Z9w ?_)); refine Z9u ?_) | refine awp_seq ?_ | refine Zbm (fun _ _ => rfl) ?_ | refine Z8h ?_ | refine Zbn (fun _ _ => rfl) ?_ | refine Zbo (fun _ _ => rfl) ?_ | refine Yq1 rfl ?_ | refine Yq2 rfl ?_))
  rw [List.length_map]
  by_cases h3 : 300 < ns.length
  · (rw [decide_eq_true (p := (300 : Int) < (ns.length : Int)) (by omega)])
    (repeat (first | refine st_q rfl rfl rfl ?_ | refine Z8v rfl (st_q rfl rfl rfl ?_) | refine Z92 rfl Z8z rfl rfl ?_ | refine Z8v rfl (Z92 rfl Z8z rfl rfl ?_) | refine Zbz rfl rfl ?_ | refine Z8v rfl (Zbz rfl rfl ?_) | refine Z8w rfl ?_ | refine Z8x rfl ?_ | (refine Z8y ?_; (repeat (first | refine Z9v rfl ?_ | refine Z9w ?_)); refine Z9u ?_) | refine awp_seq ?_ | refine Zbm (fun _ _ => rfl) ?_ | refine Z8h ?_ | refine Zbn (fun _ _ => rfl) ?_ | refine Zbo (fun _ _ => rfl) ?_ | refine Yq1 rfl ?_ | refine Yq2 rfl ?_))
    (refine Z8d ?_; exact Yar rfl ⟨(by rw [← hX, if_pos (.inr (.inr h3))]; rfl), rfl⟩)
  (rw [decide_eq_false (p := (300 : Int) < (ns.length : Int)) (by omega)])
  (repeat (first | refine st_q rfl rfl rfl ?_ | refine Z8v rfl (st_q rfl rfl rfl ?_) | refine Z92 rfl Z8z rfl rfl ?_ | refine Z8v rfl (Z92 rfl Z8z rfl rfl ?_) | refine Zbz rfl rfl ?_ | refine Z8v rfl (Zbz rfl rfl ?_) | refine Z8w rfl ?_ | refine Z8x rfl ?_ | (refine Z8y ?_; (repeat (first | refine Z9v rfl ?_ | refine Z9w ?_)); refine Z9u ?_) | refine awp_seq ?_ | refine Zbm (fun _ _ => rfl) ?_ | refine Z8h ?_ | refine Zbn (fun _ _ => rfl) ?_ | refine Zbo (fun _ _ => rfl) ?_ | refine Yq1 rfl ?_ | refine Yq2 rfl ?_))
  rw [if_neg (by omega)] at hX
  refine Zaa (fun m F σ' => ∃ (j : Nat), F = fset 1 (some (.int .i64 (deep : Int))) (fset 2 (some (.iptr [.int .i64 k, .slc 1 (ns.map .str) false, .slc 6 (Zln ks) false, .int .i64 l, .int .i64 p, .int .i64 s])) (fset 5 (some (.int .i64 1)) (fset 6 (some (.int .i64 (j : Int))) Z27))) ∧
    σ = σ' ∧ j ≤ ns.length ∧ (ns.take j).any (fun s => decide (200 < s.length)) = false ∧ m = ns.length - j) (n := ns.length) ⟨0, rfl, rfl, by omega, by simp, rfl⟩ ?_
  rintro m F σ' ⟨j, rfl, rfl, hj, hno, rfl⟩
  (repeat (first | refine st_q rfl rfl rfl ?_ | refine Z8v rfl (st_q rfl rfl rfl ?_) | refine Z92 rfl Z8z rfl rfl ?_ | refine Z8v rfl (Z92 rfl Z8z rfl rfl ?_) | refine Zbz rfl rfl ?_ | refine Z8v rfl (Zbz rfl rfl ?_) | refine Z8w rfl ?_ | refine Z8x rfl ?_ | (refine Z8y ?_; (repeat (first | refine Z9v rfl ?_ | refine Z9w ?_)); refine Z9u ?_) | refine awp_seq ?_ | refine Zbm (fun _ _ => rfl) ?_ | refine Z8h ?_ | refine Zbn (fun _ _ => rfl) ?_ | refine Zbo (fun _ _ => rfl) ?_ | refine Yq1 rfl ?_ | refine Yq2 rfl ?_))
  rw [List.length_map]
  refine Za3 (p := (j : Int) < (ns.length : Int)) rfl (fun h5 => ?_) (fun h5 => ?_)
  · have hjl : j < ns.length := by omega
    (repeat (first | refine st_q rfl rfl rfl ?_ | refine Z8v rfl (st_q rfl rfl rfl ?_) | refine Z92 rfl Z8z rfl rfl ?_ | refine Z8v rfl (Z92 rfl Z8z rfl rfl ?_) | refine Zbz rfl rfl ?_ | refine Z8v rfl (Zbz rfl rfl ?_) | refine Z8w rfl ?_ | refine Z8x rfl ?_ | (refine Z8y ?_; (repeat (first | refine Z9v rfl ?_ | refine Z9w ?_)); refine Z9u ?_) | refine awp_seq ?_ | refine Zbm (fun _ _ => rfl) ?_ | refine Z8h ?_ | refine Zbn (fun _ _ => rfl) ?_ | refine Zbo (fun _ _ => rfl) ?_ | refine Yq1 rfl ?_ | refine Yq2 rfl ?_))
    refine Z93 rfl (by omega) (Zxw hjl) ?_
    (repeat (first | refine st_q rfl rfl rfl ?_ | refine Z8v rfl (st_q rfl rfl rfl ?_) | refine Z92 rfl Z8z rfl rfl ?_ | refine Z8v rfl (Z92 rfl Z8z rfl rfl ?_) | refine Zbz rfl rfl ?_ | refine Z8v rfl (Zbz rfl rfl ?_) | refine Z8w rfl ?_ | refine Z8x rfl ?_ | (refine Z8y ?_; (repeat (first | refine Z9v rfl ?_ | refine Z9w ?_)); refine Z9u ?_) | refine awp_seq ?_ | refine Zbm (fun _ _ => rfl) ?_ | refine Z8h ?_ | refine Zbn (fun _ _ => rfl) ?_ | refine Zbo (fun _ _ => rfl) ?_ | refine Yq1 rfl ?_ | refine Yq2 rfl ?_))
    by_cases h6 : 200 < (ns[j]).length
    · (rw [show decide ((200 : Int) < ((ns[j]).length : Int)) = true from decide_eq_true (by omega)])
      (repeat (first | refine st_q rfl rfl rfl ?_ | refine Z8v rfl (st_q rfl rfl rfl ?_) | refine Z92 rfl Z8z rfl rfl ?_ | refine Z8v rfl (Z92 rfl Z8z rfl rfl ?_) | refine Zbz rfl rfl ?_ | refine Z8v rfl (Zbz rfl rfl ?_) | refine Z8w rfl ?_ | refine Z8x rfl ?_ | (refine Z8y ?_; (repeat (first | refine Z9v rfl ?_ | refine Z9w ?_)); refine Z9u ?_) | refine awp_seq ?_ | refine Zbm (fun _ _ => rfl) ?_ | refine Z8h ?_ | refine Zbn (fun _ _ => rfl) ?_ | refine Zbo (fun _ _ => rfl) ?_ | refine Yq1 rfl ?_ | refine Yq2 rfl ?_))
      refine Z8d ?_
      refine ares rfl (HSub.refl _) ⟨?_, rfl⟩
      have : ns.any (fun s => decide (200 < s.length)) = true := List.any_eq_true.2 ⟨ns[j], List.getElem_mem hjl, decide_eq_true h6⟩
      rw [← hX, if_pos this]; rfl
    · (rw [show decide ((200 : Int) < ((ns[j]).length : Int)) = false from decide_eq_false (by omega)])
      (repeat (first | refine st_q rfl rfl rfl ?_ | refine Z8v rfl (st_q rfl rfl rfl ?_) | refine Z92 rfl Z8z rfl rfl ?_ | refine Z8v rfl (Z92 rfl Z8z rfl rfl ?_) | refine Zbz rfl rfl ?_ | refine Z8v rfl (Zbz rfl rfl ?_) | refine Z8w rfl ?_ | refine Z8x rfl ?_ | (refine Z8y ?_; (repeat (first | refine Z9v rfl ?_ | refine Z9w ?_)); refine Z9u ?_) | refine awp_seq ?_ | refine Zbm (fun _ _ => rfl) ?_ | refine Z8h ?_ | refine Zbn (fun _ _ => rfl) ?_ | refine Zbo (fun _ _ => rfl) ?_ | refine Yq1 rfl ?_ | refine Yq2 rfl ?_))
      refine Zbp ?_
      (repeat (refine st_q rfl rfl rfl ?_))
      rw [show IntKind.wrap .i64 ((j : Int) + 1) = ((j + 1 : Nat) : Int) by rw [w64 _ (by omega) (by omega)]; omega]
      (refine Z8y ?_; (repeat (first | refine Z9v rfl ?_ | refine Z9w ?_)); refine Z9u ?_)
      refine ⟨_, ns.length - (j + 1), HSub.refl _, ⟨j + 1, rfl, rfl, by omega, ?_, rfl⟩, by omega⟩
      rw [← List.take_append_getElem hjl, List.any_append, hno]
      simp; omega
  · rw [show ns.take j = ns from List.take_of_length_le (by omega)] at hno
    rw [if_neg (by rw [hno]; simp)] at hX
    (repeat (first | refine st_q rfl rfl rfl ?_ | refine Z8v rfl (st_q rfl rfl rfl ?_) | refine Z92 rfl Z8z rfl rfl ?_ | refine Z8v rfl (Z92 rfl Z8z rfl rfl ?_) | refine Zbz rfl rfl ?_ | refine Z8v rfl (Zbz rfl rfl ?_) | refine Z8w rfl ?_ | refine Z8x rfl ?_ | (refine Z8y ?_; (repeat (first | refine Z9v rfl ?_ | refine Z9w ?_)); refine Z9u ?_) | refine awp_seq ?_ | refine Zbm (fun _ _ => rfl) ?_ | refine Z8h ?_ | refine Zbn (fun _ _ => rfl) ?_ | refine Zbo (fun _ _ => rfl) ?_ | refine Yq1 rfl ?_ | refine Yq2 rfl ?_))
    refine Zaa (fun m F σ' => ∃ (j n : Nat), F = fset 1 (some (.int .i64 (deep : Int))) (fset 2 (some (.iptr [.int .i64 k, .slc 1 (ns.map .str) false, .slc 6 (Zln ks) false, .int .i64 l, .int .i64 p, .int .i64 s])) (fset 5 (some (.int .i64 (n : Int))) (fset 7 (some (.int .i64 (j : Int))) Z27))) ∧
      σ = σ' ∧ j ≤ ks.length ∧ n ≤ 1000 ∧ fewTL (deep + 1) n (ks.drop j) = X ∧ m = ks.length - j) (n := ks.length) ⟨0, 1, rfl, rfl, by omega, by omega, hX, rfl⟩ ?_
    rintro m F σ' ⟨j, n, rfl, rfl, hj, hn, hXj, rfl⟩
    (repeat (first | refine st_q rfl rfl rfl ?_ | refine Z8v rfl (st_q rfl rfl rfl ?_) | refine Z92 rfl Z8z rfl rfl ?_ | refine Z8v rfl (Z92 rfl Z8z rfl rfl ?_) | refine Zbz rfl rfl ?_ | refine Z8v rfl (Zbz rfl rfl ?_) | refine Z8w rfl ?_ | refine Z8x rfl ?_ | (refine Z8y ?_; (repeat (first | refine Z9v rfl ?_ | refine Z9w ?_)); refine Z9u ?_) | refine awp_seq ?_ | refine Zbm (fun _ _ => rfl) ?_ | refine Z8h ?_ | refine Zbn (fun _ _ => rfl) ?_ | refine Zbo (fun _ _ => rfl) ?_ | refine Yq1 rfl ?_ | refine Yq2 rfl ?_))
    rw [Zlr]
    refine Za3 (p := (j : Int) < (ks.length : Int)) rfl (fun h5 => ?_) (fun h5 => ?_)
    · have hjl : j < ks.length := by omega
      have h1 : (Zln ks)[((j : Nat) : Int).toNat]? = some (.agg (Zlo ks[j])) := by rw [← Zlp]; exact Zls (by rw [Int.toNat_natCast, List.getElem?_eq_getElem hjl])
      have hc := ih ks[j] (List.getElem_mem hjl) (deep + 1) (by omega)
      rw [Zlp] at hc
      have hle := Z1fd ks[j] (deep + 1)
      rw [List.drop_eq_getElem_cons hjl, fewTL] at hXj
      generalize fewT (deep + 1) ks[j] = q at hc hle hXj
      (repeat (first | refine st_q rfl rfl rfl ?_ | refine Z8v rfl (st_q rfl rfl rfl ?_) | refine Z92 rfl Z8z rfl rfl ?_ | refine Z8v rfl (Z92 rfl Z8z rfl rfl ?_) | refine Zbz rfl rfl ?_ | refine Z8v rfl (Zbz rfl rfl ?_) | refine Z8w rfl ?_ | refine Z8x rfl ?_ | (refine Z8y ?_; (repeat (first | refine Z9v rfl ?_ | refine Z9w ?_)); refine Z9u ?_) | refine awp_seq ?_ | refine Zbm (fun _ _ => rfl) ?_ | refine Z8h ?_ | refine Zbn (fun _ _ => rfl) ?_ | refine Zbo (fun _ _ => rfl) ?_ | refine Yq1 rfl ?_ | refine Yq2 rfl ?_))
      refine Z93 rfl (by omega) h1 ?_
      (repeat (first | refine st_q rfl rfl rfl ?_ | refine Z8v rfl (st_q rfl rfl rfl ?_) | refine Z92 rfl Z8z rfl rfl ?_ | refine Z8v rfl (Z92 rfl Z8z rfl rfl ?_) | refine Zbz rfl rfl ?_ | refine Z8v rfl (Zbz rfl rfl ?_) | refine Z8w rfl ?_ | refine Z8x rfl ?_ | (refine Z8y ?_; (repeat (first | refine Z9v rfl ?_ | refine Z9w ?_)); refine Z9u ?_) | refine awp_seq ?_ | refine Zbm (fun _ _ => rfl) ?_ | refine Z8h ?_ | refine Zbn (fun _ _ => rfl) ?_ | refine Zbo (fun _ _ => rfl) ?_ | refine Yq1 rfl ?_ | refine Yq2 rfl ?_))
      rw [show IntKind.wrap .i64 ((deep : Int) + 1) = ((deep + 1 : Nat) : Int) by rw [w64 _ (by omega) (by omega)]; omega]
      (first | refine Z9t rfl (hc _) ?_ | refine Z8v rfl (Z9t rfl (hc _) ?_) | refine Zbw rfl hc ?_ | refine Z8v rfl (Zbw rfl hc ?_))
      (repeat (first | refine st_q rfl rfl rfl ?_ | refine Z8v rfl (st_q rfl rfl rfl ?_) | refine Z92 rfl Z8z rfl rfl ?_ | refine Z8v rfl (Z92 rfl Z8z rfl rfl ?_) | refine Zbz rfl rfl ?_ | refine Z8v rfl (Zbz rfl rfl ?_) | refine Z8w rfl ?_ | refine Z8x rfl ?_ | (refine Z8y ?_; (repeat (first | refine Z9v rfl ?_ | refine Z9w ?_)); refine Z9u ?_) | refine awp_seq ?_ | refine Zbm (fun _ _ => rfl) ?_ | refine Z8h ?_ | refine Zbn (fun _ _ => rfl) ?_ | refine Zbo (fun _ _ => rfl) ?_ | refine Yq1 rfl ?_ | refine Yq2 rfl ?_))
      rw [show IntKind.wrap .i64 ((n : Int) + (q : Int)) = ((n + q : Nat) : Int) by rw [w64 _ (by omega) (by omega)]; omega]
      by_cases h7 : 1000 < n + q
      · (rw [decide_eq_true (p := (1000 : Int) < ((n + q : Nat) : Int)) (by omega)])
        (repeat (first | refine st_q rfl rfl rfl ?_ | refine Z8v rfl (st_q rfl rfl rfl ?_) | refine Z92 rfl Z8z rfl rfl ?_ | refine Z8v rfl (Z92 rfl Z8z rfl rfl ?_) | refine Zbz rfl rfl ?_ | refine Z8v rfl (Zbz rfl rfl ?_) | refine Z8w rfl ?_ | refine Z8x rfl ?_ | (refine Z8y ?_; (repeat (first | refine Z9v rfl ?_ | refine Z9w ?_)); refine Z9u ?_) | refine awp_seq ?_ | refine Zbm (fun _ _ => rfl) ?_ | refine Z8h ?_ | refine Zbn (fun _ _ => rfl) ?_ | refine Zbo (fun _ _ => rfl) ?_ | refine Yq1 rfl ?_ | refine Yq2 rfl ?_))
        (refine Z8d ?_; exact Yar rfl ⟨(by rw [← hXj, if_pos h7]; rfl), rfl⟩)
      · (rw [decide_eq_false (p := (1000 : Int) < ((n + q : Nat) : Int)) (by omega)])
        rw [if_neg h7] at hXj
        (repeat (first | refine st_q rfl rfl rfl ?_ | refine Z8v rfl (st_q rfl rfl rfl ?_) | refine Z92 rfl Z8z rfl rfl ?_ | refine Z8v rfl (Z92 rfl Z8z rfl rfl ?_) | refine Zbz rfl rfl ?_ | refine Z8v rfl (Zbz rfl rfl ?_) | refine Z8w rfl ?_ | refine Z8x rfl ?_ | (refine Z8y ?_; (repeat (first | refine Z9v rfl ?_ | refine Z9w ?_)); refine Z9u ?_) | refine awp_seq ?_ | refine Zbm (fun _ _ => rfl) ?_ | refine Z8h ?_ | refine Zbn (fun _ _ => rfl) ?_ | refine Zbo (fun _ _ => rfl) ?_ | refine Yq1 rfl ?_ | refine Yq2 rfl ?_))
        refine Zbp ?_
        (repeat (refine st_q rfl rfl rfl ?_))
        rw [show IntKind.wrap .i64 ((j : Int) + 1) = ((j + 1 : Nat) : Int) by rw [w64 _ (by omega) (by omega)]; omega]
        (refine Z8y ?_; (repeat (first | refine Z9v rfl ?_ | refine Z9w ?_)); refine Z9u ?_)
        exact ⟨_, ks.length - (j + 1), HSub.refl _, ⟨j + 1, n + q, rfl, rfl, by omega, by omega, hXj, rfl⟩, by omega⟩
    · rw [List.drop_of_length_le (by omega), fewTL] at hXj
      subst hXj
      (repeat (first | refine st_q rfl rfl rfl ?_ | refine Z8v rfl (st_q rfl rfl rfl ?_) | refine Z92 rfl Z8z rfl rfl ?_ | refine Z8v rfl (Z92 rfl Z8z rfl rfl ?_) | refine Zbz rfl rfl ?_ | refine Z8v rfl (Zbz rfl rfl ?_) | refine Z8w rfl ?_ | refine Z8x rfl ?_ | (refine Z8y ?_; (repeat (first | refine Z9v rfl ?_ | refine Z9w ?_)); refine Z9u ?_) | refine awp_seq ?_ | refine Zbm (fun _ _ => rfl) ?_ | refine Z8h ?_ | refine Zbn (fun _ _ => rfl) ?_ | refine Zbo (fun _ _ => rfl) ?_ | refine Yq1 rfl ?_ | refine Yq2 rfl ?_))
      (refine Z8d ?_; exact Yar rfl ⟨rfl, rfl⟩)
theorem Z1fh (t : Ty) (σ : Zc) : Z1q Try.prog Zdr [encT t] σ fun r σ' => r = .bool (decide (fewT 1 t ≤ 150)) ∧ σ' = σ := by
  have hc := Z1fg t 1 (by omega)
  rw [Zlp] at hc ⊢
  refine Z8t rfl Z1f0 (Nat.le_of_ble_eq_true rfl) ?_
  refine Z9z ?_
  refine Z9j rfl (Yfi rfl) fun b2 hb2 => ?_
  (repeat (refine st_q rfl rfl rfl ?_))
  (refine Z8y ?_; (repeat (first | refine Z9v rfl ?_ | refine Z9w ?_)); refine Z9u ?_)
  refine Zb3 (d := 1) (cs := Zlo t) rfl ?_
  (repeat (first | refine st_q rfl rfl rfl ?_ | refine Z8v rfl (st_q rfl rfl rfl ?_) | refine Z92 rfl Z8z rfl rfl ?_ | refine Z8v rfl (Z92 rfl Z8z rfl rfl ?_) | refine Zbz rfl rfl ?_ | refine Z8v rfl (Zbz rfl rfl ?_) | refine Z8w rfl ?_ | refine Z8x rfl ?_ | (refine Z8y ?_; (repeat (first | refine Z9v rfl ?_ | refine Z9w ?_)); refine Z9u ?_) | refine awp_seq ?_ | refine Zbm (fun _ _ => rfl) ?_ | refine Z8h ?_ | refine Zbn (fun _ _ => rfl) ?_ | refine Zbo (fun _ _ => rfl) ?_ | refine Yq1 rfl ?_ | refine Yq2 rfl ?_))
  (first | refine Z9t rfl (hc _) ?_ | refine Z8v rfl (Z9t rfl (hc _) ?_) | refine Zbw rfl hc ?_ | refine Z8v rfl (Zbw rfl hc ?_))
  (repeat (first | refine st_q rfl rfl rfl ?_ | refine Z8v rfl (st_q rfl rfl rfl ?_) | refine Z92 rfl Z8z rfl rfl ?_ | refine Z8v rfl (Z92 rfl Z8z rfl rfl ?_) | refine Zbz rfl rfl ?_ | refine Z8v rfl (Zbz rfl rfl ?_) | refine Z8w rfl ?_ | refine Z8x rfl ?_ | (refine Z8y ?_; (repeat (first | refine Z9v rfl ?_ | refine Z9w ?_)); refine Z9u ?_) | refine awp_seq ?_ | refine Zbm (fun _ _ => rfl) ?_ | refine Z8h ?_ | refine Zbn (fun _ _ => rfl) ?_ | refine Zbo (fun _ _ => rfl) ?_ | refine Yq1 rfl ?_ | refine Yq2 rfl ?_))
  refine Z8d ?_
  refine ares rfl (HSub.refl _) ⟨?_, rfl⟩
  simp only [Z8m, Z0.bool.injEq, decide_eq_decide]
  omega
theorem Z1fi : ∀ (t : Vl) (deep : Nat), deep ≤ 1000 → ∀ σ, Z1q Try.prog Zf8 [encV t, .int .i64 (deep : Int)] σ fun r σ' => r = .int .i64 (fewV deep t : Int) ∧ σ' = σ := by
  refine Vl.ind fun nu i n b ks ih deep hd σ => ?_
  rw [Zm7]
  refine Z8t rfl Z1f4 (Nat.le_of_ble_eq_true rfl) ?_
  refine Z9z ?_
  refine Z9j rfl (Yfi rfl) fun b2 hb2 => ?_
  (repeat (refine st_q rfl rfl rfl ?_))
  (refine Z8y ?_; (repeat (first | refine Z9v rfl ?_ | refine Z9w ?_)); refine Z9u ?_)
  refine Zb3 (d := 2) (cs := [.bool nu, .int .i64 i, .int .i64 n, .slc 1 (bytes b) false, .slc 5 (Zm5 ks) false]) rfl ?_
  generalize hX : fewV deep (.mk nu i n b ks) = X
  rw [fewV] at hX
  by_cases h1 : 20 < deep
  · (repeat (first | refine st_q rfl rfl rfl ?_ | refine Z8v rfl (st_q rfl rfl rfl ?_) | refine Z92 rfl Z8z rfl rfl ?_ | refine Z8v rfl (Z92 rfl Z8z rfl rfl ?_) | refine Zbz rfl rfl ?_ | refine Z8v rfl (Zbz rfl rfl ?_) | refine Z8w rfl ?_ | refine Z8x rfl ?_ | (refine Z8y ?_; (repeat (first | refine Z9v rfl ?_ | refine Z9w ?_)); refine Z9u ?_) | refine awp_seq ?_ | refine Zbm (fun _ _ => rfl) ?_ | refine Z8h ?_ | refine Zbn (fun _ _ => rfl) ?_ | refine Zbo (fun _ _ => rfl) ?_ | refine Yq1 rfl ?_ | refine Yq2 rfl ?_))
    (rw [decide_eq_true (p := (20 : Int) < (deep : Int)) (by omega)])
    (repeat (first | refine st_q rfl rfl rfl ?_ | refine Z8v rfl (st_q rfl rfl rfl ?_) | refine Z92 rfl Z8z rfl rfl ?_ | refine Z8v rfl (Z92 rfl Z8z rfl rfl ?_) | refine Zbz rfl rfl ?_ | refine Z8v rfl (Zbz rfl rfl ?_) | refine Z8w rfl ?_ | refine Z8x rfl ?_ | (refine Z8y ?_; (repeat (first | refine Z9v rfl ?_ | refine Z9w ?_)); refine Z9u ?_) | refine awp_seq ?_ | refine Zbm (fun _ _ => rfl) ?_ | refine Z8h ?_ | refine Zbn (fun _ _ => rfl) ?_ | refine Zbo (fun _ _ => rfl) ?_ | refine Yq1 rfl ?_ | refine Yq2 rfl ?_))
    (refine Z8d ?_; exact Yar rfl ⟨(by rw [← hX, if_pos (.inl h1)]; rfl), rfl⟩)
  (repeat (first | refine st_q rfl rfl rfl ?_ | refine Z8v rfl (st_q rfl rfl rfl ?_) | refine Z92 rfl Z8z rfl rfl ?_ | refine Z8v rfl (Z92 rfl Z8z rfl rfl ?_) | refine Zbz rfl rfl ?_ | refine Z8v rfl (Zbz rfl rfl ?_) | refine Z8w rfl ?_ | refine Z8x rfl ?_ | (refine Z8y ?_; (repeat (first | refine Z9v rfl ?_ | refine Z9w ?_)); refine Z9u ?_) | refine awp_seq ?_ | refine Zbm (fun _ _ => rfl) ?_ | refine Z8h ?_ | refine Zbn (fun _ _ => rfl) ?_ | refine Zbo (fun _ _ => rfl) ?_ | refine Yq1 rfl ?_ | refine Yq2 rfl ?_))
  (rw [decide_eq_false (p := (20 : Int) < (deep : Int)) (by omega)])
  (repeat (first | refine st_q rfl rfl rfl ?_ | refine Z8v rfl (st_q rfl rfl rfl ?_) | refine Z92 rfl Z8z rfl rfl ?_ | refine Z8v rfl (Z92 rfl Z8z rfl rfl ?_) | refine Zbz rfl rfl ?_ | refine Z8v rfl (Zbz rfl rfl ?_) | refine Z8w rfl ?_ | refine Z8x rfl ?_ | (refine Z8y ?_; (repeat (first | refine Z9v rfl ?_ | refine Z9w ?_)); refine Z9u ?_) | refine awp_seq ?_ | refine Zbm (fun _ _ => rfl) ?_ | refine Z8h ?_ | refine Zbn (fun _ _ => rfl) ?_ | refine Zbo (fun _ _ => rfl) ?_ | refine Yq1 rfl ?_ | refine Yq2 rfl ?_))
  rw [Zm9]
  by_cases h2 : 400 < ks.length
  · (rw [decide_eq_true (p := (400 : Int) < (ks.length : Int)) (by omega)])
    (repeat (first | refine st_q rfl rfl rfl ?_ | refine Z8v rfl (st_q rfl rfl rfl ?_) | refine Z92 rfl Z8z rfl rfl ?_ | refine Z8v rfl (Z92 rfl Z8z rfl rfl ?_) | refine Zbz rfl rfl ?_ | refine Z8v rfl (Zbz rfl rfl ?_) | refine Z8w rfl ?_ | refine Z8x rfl ?_ | (refine Z8y ?_; (repeat (first | refine Z9v rfl ?_ | refine Z9w ?_)); refine Z9u ?_) | refine awp_seq ?_ | refine Zbm (fun _ _ => rfl) ?_ | refine Z8h ?_ | refine Zbn (fun _ _ => rfl) ?_ | refine Zbo (fun _ _ => rfl) ?_ | refine Yq1 rfl ?_ | refine Yq2 rfl ?_))
    (refine Z8d ?_; exact Yar rfl ⟨(by rw [← hX, if_pos (.inr (.inl h2))]; rfl), rfl⟩)
  (rw [decide_eq_false (p := (400 : Int) < (ks.length : Int)) (by omega)])
  (repeat (first | refine st_q rfl rfl rfl ?_ | refine Z8v rfl (st_q rfl rfl rfl ?_) | refine Z92 rfl Z8z rfl rfl ?_ | refine Z8v rfl (Z92 rfl Z8z rfl rfl ?_) | refine Zbz rfl rfl ?_ | refine Z8v rfl (Zbz rfl rfl ?_) | refine Z8w rfl ?_ | refine Z8x rfl ?_ | (refine Z8y ?_; (repeat (first | refine Z9v rfl ?_ | refine Z9w ?_)); refine Z9u ?_) | refine awp_seq ?_ | refine Zbm (fun _ _ => rfl) ?_ | refine Z8h ?_ | refine Zbn (fun _ _ => rfl) ?_ | refine Zbo (fun _ _ => rfl) ?_ | refine Yq1 rfl ?_ | refine Yq2 rfl ?_))
  rw [Zam]
  by_cases h3 : 5000 < b.length
  · (rw [decide_eq_true (p := (5000 : Int) < (b.length : Int)) (by omega)])
    (repeat (first | refine st_q rfl rfl rfl ?_ | refine Z8v rfl (st_q rfl rfl rfl ?_) | refine Z92 rfl Z8z rfl rfl ?_ | refine Z8v rfl (Z92 rfl Z8z rfl rfl ?_) | refine Zbz rfl rfl ?_ | refine Z8v rfl (Zbz rfl rfl ?_) | refine Z8w rfl ?_ | refine Z8x rfl ?_ | (refine Z8y ?_; (repeat (first | refine Z9v rfl ?_ | refine Z9w ?_)); refine Z9u ?_) | refine awp_seq ?_ | refine Zbm (fun _ _ => rfl) ?_ | refine Z8h ?_ | refine Zbn (fun _ _ => rfl) ?_ | refine Zbo (fun _ _ => rfl) ?_ | refine Yq1 rfl ?_ | refine Yq2 rfl ?_))
    (refine Z8d ?_; exact Yar rfl ⟨(by rw [← hX, if_pos (.inr (.inr h3))]; rfl), rfl⟩)
  (rw [decide_eq_false (p := (5000 : Int) < (b.length : Int)) (by omega)])
  rw [if_neg (by omega)] at hX
  (repeat (first | refine st_q rfl rfl rfl ?_ | refine Z8v rfl (st_q rfl rfl rfl ?_) | refine Z92 rfl Z8z rfl rfl ?_ | refine Z8v rfl (Z92 rfl Z8z rfl rfl ?_) | refine Zbz rfl rfl ?_ | refine Z8v rfl (Zbz rfl rfl ?_) | refine Z8w rfl ?_ | refine Z8x rfl ?_ | (refine Z8y ?_; (repeat (first | refine Z9v rfl ?_ | refine Z9w ?_)); refine Z9u ?_) | refine awp_seq ?_ | refine Zbm (fun _ _ => rfl) ?_ | refine Z8h ?_ | refine Zbn (fun _ _ => rfl) ?_ | refine Zbo (fun _ _ => rfl) ?_ | refine Yq1 rfl ?_ | refine Yq2 rfl ?_))
  rw [Zam]
  rw [show IntKind.wrap .i64 (1 + IntKind.wrap .i64 ((b.length : Int).tdiv 50)) = ((1 + b.length / 50 : Nat) : Int) by
    rw [Int.tdiv_eq_ediv_of_nonneg (by omega), w64 ((b.length : Int) / 50) (by omega) (by omega), w64 _ (by omega) (by omega)]; omega]
  (repeat (first | refine st_q rfl rfl rfl ?_ | refine Z8v rfl (st_q rfl rfl rfl ?_) | refine Z92 rfl Z8z rfl rfl ?_ | refine Z8v rfl (Z92 rfl Z8z rfl rfl ?_) | refine Zbz rfl rfl ?_ | refine Z8v rfl (Zbz rfl rfl ?_) | refine Z8w rfl ?_ | refine Z8x rfl ?_ | (refine Z8y ?_; (repeat (first | refine Z9v rfl ?_ | refine Z9w ?_)); refine Z9u ?_) | refine awp_seq ?_ | refine Zbm (fun _ _ => rfl) ?_ | refine Z8h ?_ | refine Zbn (fun _ _ => rfl) ?_ | refine Zbo (fun _ _ => rfl) ?_ | refine Yq1 rfl ?_ | refine Yq2 rfl ?_))
  refine Zaa (fun m F σ' => ∃ (j n' : Nat), F = fset 1 (some (.int .i64 (deep : Int))) (fset 2 (some (.iptr [.bool nu, .int .i64 i, .int .i64 n, .slc 1 (bytes b) false, .slc 5 (Zm5 ks) false])) (fset 5 (some (.int .i64 (n' : Int))) (fset 6 (some (.int .i64 (j : Int))) Z27))) ∧
    σ = σ' ∧ j ≤ ks.length ∧ n' ≤ 1000 ∧ fewVL (deep + 1) n' (ks.drop j) = X ∧ m = ks.length - j) (n := ks.length) ⟨0, 1 + b.length / 50, rfl, rfl, by omega, by omega, hX, rfl⟩ ?_
  rintro m F σ' ⟨j, n', rfl, rfl, hj, hn, hXj, rfl⟩
  (repeat (first | refine st_q rfl rfl rfl ?_ | refine Z8v rfl (st_q rfl rfl rfl ?_) | refine Z92 rfl Z8z rfl rfl ?_ | refine Z8v rfl (Z92 rfl Z8z rfl rfl ?_) | refine Zbz rfl rfl ?_ | refine Z8v rfl (Zbz rfl rfl ?_) | refine Z8w rfl ?_ | refine Z8x rfl ?_ | (refine Z8y ?_; (repeat (first | refine Z9v rfl ?_ | refine Z9w ?_)); refine Z9u ?_) | refine awp_seq ?_ | refine Zbm (fun _ _ => rfl) ?_ | refine Z8h ?_ | refine Zbn (fun _ _ => rfl) ?_ | refine Zbo (fun _ _ => rfl) ?_ | refine Yq1 rfl ?_ | refine Yq2 rfl ?_))
  rw [Zm9]
  refine Za3 (p := (j : Int) < (ks.length : Int)) rfl (fun h5 => ?_) (fun h5 => ?_)
  · have hjl : j < ks.length := by omega
    have h1 : (Zm5 ks)[((j : Nat) : Int).toNat]? = some (.agg (Zm6 ks[j])) := by rw [← Zm7]; exact Zma (by rw [Int.toNat_natCast, List.getElem?_eq_getElem hjl])
    have hc := ih ks[j] (List.getElem_mem hjl) (deep + 1) (by omega)
    rw [Zm7] at hc
    have hle := Z1fe ks[j] (deep + 1)
    rw [List.drop_eq_getElem_cons hjl, fewVL] at hXj
    generalize fewV (deep + 1) ks[j] = q at hc hle hXj
    (repeat (first | refine st_q rfl rfl rfl ?_ | refine Z8v rfl (st_q rfl rfl rfl ?_) | refine Z92 rfl Z8z rfl rfl ?_ | refine Z8v rfl (Z92 rfl Z8z rfl rfl ?_) | refine Zbz rfl rfl ?_ | refine Z8v rfl (Zbz rfl rfl ?_) | refine Z8w rfl ?_ | refine Z8x rfl ?_ | (refine Z8y ?_; (repeat (first | refine Z9v rfl ?_ | refine Z9w ?_)); refine Z9u ?_) | refine awp_seq ?_ | refine Zbm (fun _ _ => rfl) ?_ | refine Z8h ?_ | refine Zbn (fun _ _ => rfl) ?_ | refine Zbo (fun _ _ => rfl) ?_ | refine Yq1 rfl ?_ | refine Yq2 rfl ?_))
    refine Z93 rfl (by omega) h1 ?_
    (repeat (first | refine st_q rfl rfl rfl ?_ | refine Z8v rfl (st_q rfl rfl rfl ?_) | refine Z92 rfl Z8z rfl rfl ?_ | refine Z8v rfl (Z92 rfl Z8z rfl rfl ?_) | refine Zbz rfl rfl ?_ | refine Z8v rfl (Zbz rfl rfl ?_) | refine Z8w rfl ?_ | refine Z8x rfl ?_ | (refine Z8y ?_; (repeat (first | refine Z9v rfl ?_ | refine Z9w ?_)); refine Z9u ?_) | refine awp_seq ?_ | refine Zbm (fun _ _ => rfl) ?_ | refine Z8h ?_ | refine Zbn (fun _ _ => rfl) ?_ | refine Zbo (fun _ _ => rfl) ?_ | refine Yq1 rfl ?_ | refine Yq2 rfl ?_))
    rw [show IntKind.wrap .i64 ((deep : Int) + 1) = ((deep + 1 : Nat) : Int) by rw [w64 _ (by omega) (by omega)]; omega]
    (first | refine Z9t rfl (hc _) ?_ | refine Z8v rfl (Z9t rfl (hc _) ?_) | refine Zbw rfl hc ?_ | refine Z8v rfl (Zbw rfl hc ?_))
    (repeat (first | refine st_q rfl rfl rfl ?_ | refine Z8v rfl (st_q rfl rfl rfl ?_) | refine Z92 rfl Z8z rfl rfl ?_ | refine Z8v rfl (Z92 rfl Z8z rfl rfl ?_) | refine Zbz rfl rfl ?_ | refine Z8v rfl (Zbz rfl rfl ?_) | refine Z8w rfl ?_ | refine Z8x rfl ?_ | (refine Z8y ?_; (repeat (first | refine Z9v rfl ?_ | refine Z9w ?_)); refine Z9u ?_) | refine awp_seq ?_ | refine Zbm (fun _ _ => rfl) ?_ | refine Z8h ?_ | refine Zbn (fun _ _ => rfl) ?_ | refine Zbo (fun _ _ => rfl) ?_ | refine Yq1 rfl ?_ | refine Yq2 rfl ?_))
    rw [show IntKind.wrap .i64 ((n' : Int) + (q : Int)) = ((n' + q : Nat) : Int) by rw [w64 _ (by omega) (by omega)]; omega]
    by_cases h7 : 1000 < n' + q
    · (rw [decide_eq_true (p := (1000 : Int) < ((n' + q : Nat) : Int)) (by omega)])
      (repeat (first | refine st_q rfl rfl rfl ?_ | refine Z8v rfl (st_q rfl rfl rfl ?_) | refine Z92 rfl Z8z rfl rfl ?_ | refine Z8v rfl (Z92 rfl Z8z rfl rfl ?_) | refine Zbz rfl rfl ?_ | refine Z8v rfl (Zbz rfl rfl ?_) | refine Z8w rfl ?_ | refine Z8x rfl ?_ | (refine Z8y ?_; (repeat (first | refine Z9v rfl ?_ | refine Z9w ?_)); refine Z9u ?_) | refine awp_seq ?_ | refine Zbm (fun _ _ => rfl) ?_ | refine Z8h ?_ | refine Zbn (fun _ _ => rfl) ?_ | refine Zbo (fun _ _ => rfl) ?_ | refine Yq1 rfl ?_ | refine Yq2 rfl ?_))
      (refine Z8d ?_; exact Yar rfl ⟨(by rw [← hXj, if_pos h7]; rfl), rfl⟩)
    · (rw [decide_eq_false (p := (1000 : Int) < ((n' + q : Nat) : Int)) (by omega)])
      rw [if_neg h7] at hXj
      (repeat (first | refine st_q rfl rfl rfl ?_ | refine Z8v rfl (st_q rfl rfl rfl ?_) | refine Z92 rfl Z8z rfl rfl ?_ | refine Z8v rfl (Z92 rfl Z8z rfl rfl ?_) | refine Zbz rfl rfl ?_ | refine Z8v rfl (Zbz rfl rfl ?_) | refine Z8w rfl ?_ | refine Z8x rfl ?_ | (refine Z8y ?_; (repeat (first | refine Z9v rfl ?_ | refine Z9w ?_)); refine Z9u ?_) | refine awp_seq ?_ | refine Zbm (fun _ _ => rfl) ?_ | refine Z8h ?_ | refine Zbn (fun _ _ => rfl) ?_ | refine Zbo (fun _ _ => rfl) ?_ | refine Yq1 rfl ?_ | refine Yq2 rfl ?_))
      refine Zbp ?_
      (repeat (refine st_q rfl rfl rfl ?_))
      rw [show IntKind.wrap .i64 ((j : Int) + 1) = ((j + 1 : Nat) : Int) by rw [w64 _ (by omega) (by omega)]; omega]
      (refine Z8y ?_; (repeat (first | refine Z9v rfl ?_ | refine Z9w ?_)); refine Z9u ?_)
      exact ⟨_, ks.length - (j + 1), HSub.refl _, ⟨j + 1, n' + q, rfl, rfl, by omega, by omega, hXj, rfl⟩, by omega⟩
  · rw [List.drop_of_length_le (by omega), fewVL] at hXj
    subst hXj
    (repeat (first | refine st_q rfl rfl rfl ?_ | refine Z8v rfl (st_q rfl rfl rfl ?_) | refine Z92 rfl Z8z rfl rfl ?_ | refine Z8v rfl (Z92 rfl Z8z rfl rfl ?_) | refine Zbz rfl rfl ?_ | refine Z8v rfl (Zbz rfl rfl ?_) | refine Z8w rfl ?_ | refine Z8x rfl ?_ | (refine Z8y ?_; (repeat (first | refine Z9v rfl ?_ | refine Z9w ?_)); refine Z9u ?_) | refine awp_seq ?_ | refine Zbm (fun _ _ => rfl) ?_ | refine Z8h ?_ | refine Zbn (fun _ _ => rfl) ?_ | refine Zbo (fun _ _ => rfl) ?_ | refine Yq1 rfl ?_ | refine Yq2 rfl ?_))
    (refine Z8d ?_; exact Yar rfl ⟨rfl, rfl⟩)
theorem Z1fj (t : Vl) (σ : Zc) : Z1q Try.prog Zdz [encV t] σ fun r σ' => r = .int .i64 (fewV 1 t : Int) ∧ σ' = σ := by
  have hc := Z1fi t 1 (by omega)
  rw [Zm7] at hc ⊢
  refine Z8t rfl Z1f2 (Nat.le_of_ble_eq_true rfl) ?_
  refine Z9z ?_
  refine Z9j rfl (Yfi rfl) fun b2 hb2 => ?_
  (repeat (refine st_q rfl rfl rfl ?_))
  (refine Z8y ?_; (repeat (first | refine Z9v rfl ?_ | refine Z9w ?_)); refine Z9u ?_)
  refine Zb3 (d := 1) (cs := Zm6 t) rfl ?_
  (repeat (first | refine st_q rfl rfl rfl ?_ | refine Z8v rfl (st_q rfl rfl rfl ?_) | refine Z92 rfl Z8z rfl rfl ?_ | refine Z8v rfl (Z92 rfl Z8z rfl rfl ?_) | refine Zbz rfl rfl ?_ | refine Z8v rfl (Zbz rfl rfl ?_) | refine Z8w rfl ?_ | refine Z8x rfl ?_ | (refine Z8y ?_; (repeat (first | refine Z9v rfl ?_ | refine Z9w ?_)); refine Z9u ?_) | refine awp_seq ?_ | refine Zbm (fun _ _ => rfl) ?_ | refine Z8h ?_ | refine Zbn (fun _ _ => rfl) ?_ | refine Zbo (fun _ _ => rfl) ?_ | refine Yq1 rfl ?_ | refine Yq2 rfl ?_))
  (first | refine Z9t rfl (hc _) ?_ | refine Z8v rfl (Z9t rfl (hc _) ?_) | refine Zbw rfl hc ?_ | refine Z8v rfl (Zbw rfl hc ?_))
  (repeat (first | refine st_q rfl rfl rfl ?_ | refine Z8v rfl (st_q rfl rfl rfl ?_) | refine Z92 rfl Z8z rfl rfl ?_ | refine Z8v rfl (Z92 rfl Z8z rfl rfl ?_) | refine Zbz rfl rfl ?_ | refine Z8v rfl (Zbz rfl rfl ?_) | refine Z8w rfl ?_ | refine Z8x rfl ?_ | (refine Z8y ?_; (repeat (first | refine Z9v rfl ?_ | refine Z9w ?_)); refine Z9u ?_) | refine awp_seq ?_ | refine Zbm (fun _ _ => rfl) ?_ | refine Z8h ?_ | refine Zbn (fun _ _ => rfl) ?_ | refine Zbo (fun _ _ => rfl) ?_ | refine Yq1 rfl ?_ | refine Yq2 rfl ?_))
  (refine Z8d ?_; exact Yar rfl ⟨rfl, rfl⟩)
theorem Z1fk (t : Vl) (σ : Zc) : Z1q Try.prog Zee [encV t] σ fun r σ' => r = .bool (decide (fewV 1 t ≤ 400)) ∧ σ' = σ := by
  have hc := Z1fj t
  rw [Zm7] at hc ⊢
  refine Z8t rfl Z1f3 (Nat.le_of_ble_eq_true rfl) ?_
  refine Z9z ?_
  refine Z9j rfl (Yfi rfl) fun b2 hb2 => ?_
  (repeat (refine st_q rfl rfl rfl ?_))
  (refine Z8y ?_; (repeat (first | refine Z9v rfl ?_ | refine Z9w ?_)); refine Z9u ?_)
  refine Zb3 (d := 1) (cs := Zm6 t) rfl ?_
  (repeat (first | refine st_q rfl rfl rfl ?_ | refine Z8v rfl (st_q rfl rfl rfl ?_) | refine Z92 rfl Z8z rfl rfl ?_ | refine Z8v rfl (Z92 rfl Z8z rfl rfl ?_) | refine Zbz rfl rfl ?_ | refine Z8v rfl (Zbz rfl rfl ?_) | refine Z8w rfl ?_ | refine Z8x rfl ?_ | (refine Z8y ?_; (repeat (first | refine Z9v rfl ?_ | refine Z9w ?_)); refine Z9u ?_) | refine awp_seq ?_ | refine Zbm (fun _ _ => rfl) ?_ | refine Z8h ?_ | refine Zbn (fun _ _ => rfl) ?_ | refine Zbo (fun _ _ => rfl) ?_ | refine Yq1 rfl ?_ | refine Yq2 rfl ?_))
  (first | refine Z9t rfl (hc _) ?_ | refine Z8v rfl (Z9t rfl (hc _) ?_) | refine Zbw rfl hc ?_ | refine Z8v rfl (Zbw rfl hc ?_))
  (repeat (first | refine st_q rfl rfl rfl ?_ | refine Z8v rfl (st_q rfl rfl rfl ?_) | refine Z92 rfl Z8z rfl rfl ?_ | refine Z8v rfl (Z92 rfl Z8z rfl rfl ?_) | refine Zbz rfl rfl ?_ | refine Z8v rfl (Zbz rfl rfl ?_) | refine Z8w rfl ?_ | refine Z8x rfl ?_ | (refine Z8y ?_; (repeat (first | refine Z9v rfl ?_ | refine Z9w ?_)); refine Z9u ?_) | refine awp_seq ?_ | refine Zbm (fun _ _ => rfl) ?_ | refine Z8h ?_ | refine Zbn (fun _ _ => rfl) ?_ | refine Zbo (fun _ _ => rfl) ?_ | refine Yq1 rfl ?_ | refine Yq2 rfl ?_))
  refine Z8d ?_
  refine ares rfl (HSub.refl _) ⟨?_, rfl⟩
  simp only [Z8m, Z0.bool.injEq, decide_eq_decide]
  omega
def few15 (t : Ty) (rows : List Vl) : Bool := decide (fewT 1 t ≤ 150) && (decide (rows.length ≤ 200) && fewR 0 rows)
theorem Z1fl (t : Ty) (rows : List Vl) (f : Bool) (σ : Zc) : Z1q Try.prog Zcp [encT t, .slc 5 (Zm5 rows) f] σ fun r σ' => r = .bool (few15 t rows) ∧ σ' = σ := by
  have hc := Z1fh t
  rw [Zlp] at hc ⊢
  refine Z8t rfl Z1ew (Nat.le_of_ble_eq_true rfl) ?_
  refine Z9z ?_
  refine Z9j rfl (Yfi rfl) fun b2 hb2 => ?_
  (repeat (refine st_q rfl rfl rfl ?_))
  (refine Z8y ?_; (repeat (first | refine Z9v rfl ?_ | refine Z9w ?_)); refine Z9u ?_)
  refine Zb3 (d := 2) (cs := Zlo t) rfl ?_
  (repeat (first | refine st_q rfl rfl rfl ?_ | refine Z8v rfl (st_q rfl rfl rfl ?_) | refine Z92 rfl Z8z rfl rfl ?_ | refine Z8v rfl (Z92 rfl Z8z rfl rfl ?_) | refine Zbz rfl rfl ?_ | refine Z8v rfl (Zbz rfl rfl ?_) | refine Z8w rfl ?_ | refine Z8x rfl ?_ | (refine Z8y ?_; (repeat (first | refine Z9v rfl ?_ | refine Z9w ?_)); refine Z9u ?_) | refine awp_seq ?_ | refine Zbm (fun _ _ => rfl) ?_ | refine Z8h ?_ | refine Zbn (fun _ _ => rfl) ?_ | refine Zbo (fun _ _ => rfl) ?_ | refine Yq1 rfl ?_ | refine Yq2 rfl ?_))
  (first | refine Z9t rfl (hc _) ?_ | refine Z8v rfl (Z9t rfl (hc _) ?_) | refine Zbw rfl hc ?_ | refine Z8v rfl (Zbw rfl hc ?_))
  unfold few15
  generalize decide (fewT 1 t ≤ 150) = q
  cases q with
  | false =>
    (repeat (first | refine st_q rfl rfl rfl ?_ | refine Z8v rfl (st_q rfl rfl rfl ?_) | refine Z92 rfl Z8z rfl rfl ?_ | refine Z8v rfl (Z92 rfl Z8z rfl rfl ?_) | refine Zbz rfl rfl ?_ | refine Z8v rfl (Zbz rfl rfl ?_) | refine Z8w rfl ?_ | refine Z8x rfl ?_ | (refine Z8y ?_; (repeat (first | refine Z9v rfl ?_ | refine Z9w ?_)); refine Z9u ?_) | refine awp_seq ?_ | refine Zbm (fun _ _ => rfl) ?_ | refine Z8h ?_ | refine Zbn (fun _ _ => rfl) ?_ | refine Zbo (fun _ _ => rfl) ?_ | refine Yq1 rfl ?_ | refine Yq2 rfl ?_))
    (refine Z8d ?_; exact Yar rfl ⟨rfl, rfl⟩)
  | true =>
  (repeat (first | refine st_q rfl rfl rfl ?_ | refine Z8v rfl (st_q rfl rfl rfl ?_) | refine Z92 rfl Z8z rfl rfl ?_ | refine Z8v rfl (Z92 rfl Z8z rfl rfl ?_) | refine Zbz rfl rfl ?_ | refine Z8v rfl (Zbz rfl rfl ?_) | refine Z8w rfl ?_ | refine Z8x rfl ?_ | (refine Z8y ?_; (repeat (first | refine Z9v rfl ?_ | refine Z9w ?_)); refine Z9u ?_) | refine awp_seq ?_ | refine Zbm (fun _ _ => rfl) ?_ | refine Z8h ?_ | refine Zbn (fun _ _ => rfl) ?_ | refine Zbo (fun _ _ => rfl) ?_ | refine Yq1 rfl ?_ | refine Yq2 rfl ?_))
  rw [Zm9]
  by_cases h1 : 200 < rows.length
  · (rw [decide_eq_true (p := (200 : Int) < (rows.length : Int)) (by omega)])
    (repeat (first | refine st_q rfl rfl rfl ?_ | refine Z8v rfl (st_q rfl rfl rfl ?_) | refine Z92 rfl Z8z rfl rfl ?_ | refine Z8v rfl (Z92 rfl Z8z rfl rfl ?_) | refine Zbz rfl rfl ?_ | refine Z8v rfl (Zbz rfl rfl ?_) | refine Z8w rfl ?_ | refine Z8x rfl ?_ | (refine Z8y ?_; (repeat (first | refine Z9v rfl ?_ | refine Z9w ?_)); refine Z9u ?_) | refine awp_seq ?_ | refine Zbm (fun _ _ => rfl) ?_ | refine Z8h ?_ | refine Zbn (fun _ _ => rfl) ?_ | refine Zbo (fun _ _ => rfl) ?_ | refine Yq1 rfl ?_ | refine Yq2 rfl ?_))
    (refine Z8d ?_; exact Yar rfl ⟨(by rw [decide_eq_false (p := rows.length ≤ 200) (by omega)]; rfl), rfl⟩)
  (rw [decide_eq_false (p := (200 : Int) < (rows.length : Int)) (by omega)])
  rw [show decide (rows.length ≤ 200) = true from decide_eq_true (by omega), Bool.true_and, Bool.true_and]
  generalize hX : fewR 0 rows = X
  (repeat (first | refine st_q rfl rfl rfl ?_ | refine Z8v rfl (st_q rfl rfl rfl ?_) | refine Z92 rfl Z8z rfl rfl ?_ | refine Z8v rfl (Z92 rfl Z8z rfl rfl ?_) | refine Zbz rfl rfl ?_ | refine Z8v rfl (Zbz rfl rfl ?_) | refine Z8w rfl ?_ | refine Z8x rfl ?_ | (refine Z8y ?_; (repeat (first | refine Z9v rfl ?_ | refine Z9w ?_)); refine Z9u ?_) | refine awp_seq ?_ | refine Zbm (fun _ _ => rfl) ?_ | refine Z8h ?_ | refine Zbn (fun _ _ => rfl) ?_ | refine Zbo (fun _ _ => rfl) ?_ | refine Yq1 rfl ?_ | refine Yq2 rfl ?_))
  refine Zaa (fun m F σ' => ∃ (j n' : Nat), F = fset 1 (some (.slc 5 (Zm5 rows) f)) (fset 5 (some (.int .i64 (n' : Int))) (fset 6 (some (.int .i64 (j : Int))) Z27)) ∧
    σ = σ' ∧ j ≤ rows.length ∧ n' ≤ 1000 ∧ fewR n' (rows.drop j) = X ∧ m = rows.length - j) (n := rows.length) ⟨0, 0, rfl, rfl, by omega, by omega, hX, rfl⟩ ?_
  rintro m F σ' ⟨j, n', rfl, rfl, hj, hn, hXj, rfl⟩
  (repeat (first | refine st_q rfl rfl rfl ?_ | refine Z8v rfl (st_q rfl rfl rfl ?_) | refine Z92 rfl Z8z rfl rfl ?_ | refine Z8v rfl (Z92 rfl Z8z rfl rfl ?_) | refine Zbz rfl rfl ?_ | refine Z8v rfl (Zbz rfl rfl ?_) | refine Z8w rfl ?_ | refine Z8x rfl ?_ | (refine Z8y ?_; (repeat (first | refine Z9v rfl ?_ | refine Z9w ?_)); refine Z9u ?_) | refine awp_seq ?_ | refine Zbm (fun _ _ => rfl) ?_ | refine Z8h ?_ | refine Zbn (fun _ _ => rfl) ?_ | refine Zbo (fun _ _ => rfl) ?_ | refine Yq1 rfl ?_ | refine Yq2 rfl ?_))
  rw [Zm9]
  refine Za3 (p := (j : Int) < (rows.length : Int)) rfl (fun h5 => ?_) (fun h5 => ?_)
  · have hjl : j < rows.length := by omega
    have h1 : (Zm5 rows)[((j : Nat) : Int).toNat]? = some (.agg (Zm6 rows[j])) := by rw [← Zm7]; exact Zma (by rw [Int.toNat_natCast, List.getElem?_eq_getElem hjl])
    have hc := Z1fj rows[j]
    rw [Zm7] at hc
    have hle := Z1fe rows[j] 1
    rw [List.drop_eq_getElem_cons hjl, fewR] at hXj
    generalize fewV 1 rows[j] = q at hc hle hXj
    (repeat (first | refine st_q rfl rfl rfl ?_ | refine Z8v rfl (st_q rfl rfl rfl ?_) | refine Z92 rfl Z8z rfl rfl ?_ | refine Z8v rfl (Z92 rfl Z8z rfl rfl ?_) | refine Zbz rfl rfl ?_ | refine Z8v rfl (Zbz rfl rfl ?_) | refine Z8w rfl ?_ | refine Z8x rfl ?_ | (refine Z8y ?_; (repeat (first | refine Z9v rfl ?_ | refine Z9w ?_)); refine Z9u ?_) | refine awp_seq ?_ | refine Zbm (fun _ _ => rfl) ?_ | refine Z8h ?_ | refine Zbn (fun _ _ => rfl) ?_ | refine Zbo (fun _ _ => rfl) ?_ | refine Yq1 rfl ?_ | refine Yq2 rfl ?_))
    refine Z93 rfl (by omega) h1 ?_
    (repeat (first | refine st_q rfl rfl rfl ?_ | refine Z8v rfl (st_q rfl rfl rfl ?_) | refine Z92 rfl Z8z rfl rfl ?_ | refine Z8v rfl (Z92 rfl Z8z rfl rfl ?_) | refine Zbz rfl rfl ?_ | refine Z8v rfl (Zbz rfl rfl ?_) | refine Z8w rfl ?_ | refine Z8x rfl ?_ | (refine Z8y ?_; (repeat (first | refine Z9v rfl ?_ | refine Z9w ?_)); refine Z9u ?_) | refine awp_seq ?_ | refine Zbm (fun _ _ => rfl) ?_ | refine Z8h ?_ | refine Zbn (fun _ _ => rfl) ?_ | refine Zbo (fun _ _ => rfl) ?_ | refine Yq1 rfl ?_ | refine Yq2 rfl ?_))
    (first | refine Z9t rfl (hc _) ?_ | refine Z8v rfl (Z9t rfl (hc _) ?_) | refine Zbw rfl hc ?_ | refine Z8v rfl (Zbw rfl hc ?_))
    (repeat (first | refine st_q rfl rfl rfl ?_ | refine Z8v rfl (st_q rfl rfl rfl ?_) | refine Z92 rfl Z8z rfl rfl ?_ | refine Z8v rfl (Z92 rfl Z8z rfl rfl ?_) | refine Zbz rfl rfl ?_ | refine Z8v rfl (Zbz rfl rfl ?_) | refine Z8w rfl ?_ | refine Z8x rfl ?_ | (refine Z8y ?_; (repeat (first | refine Z9v rfl ?_ | refine Z9w ?_)); refine Z9u ?_) | refine awp_seq ?_ | refine Zbm (fun _ _ => rfl) ?_ | refine Z8h ?_ | refine Zbn (fun _ _ => rfl) ?_ | refine Zbo (fun _ _ => rfl) ?_ | refine Yq1 rfl ?_ | refine Yq2 rfl ?_))
    rw [show IntKind.wrap .i64 ((n' : Int) + (q : Int)) = ((n' + q : Nat) : Int) by rw [w64 _ (by omega) (by omega)]; omega]
    by_cases h7 : 1000 < n' + q
    · (rw [decide_eq_true (p := (1000 : Int) < ((n' + q : Nat) : Int)) (by omega)])
      (repeat (first | refine st_q rfl rfl rfl ?_ | refine Z8v rfl (st_q rfl rfl rfl ?_) | refine Z92 rfl Z8z rfl rfl ?_ | refine Z8v rfl (Z92 rfl Z8z rfl rfl ?_) | refine Zbz rfl rfl ?_ | refine Z8v rfl (Zbz rfl rfl ?_) | refine Z8w rfl ?_ | refine Z8x rfl ?_ | (refine Z8y ?_; (repeat (first | refine Z9v rfl ?_ | refine Z9w ?_)); refine Z9u ?_) | refine awp_seq ?_ | refine Zbm (fun _ _ => rfl) ?_ | refine Z8h ?_ | refine Zbn (fun _ _ => rfl) ?_ | refine Zbo (fun _ _ => rfl) ?_ | refine Yq1 rfl ?_ | refine Yq2 rfl ?_))
      (refine Z8d ?_; exact Yar rfl ⟨(by rw [← hXj, if_pos h7]; rfl), rfl⟩)
    · (rw [decide_eq_false (p := (1000 : Int) < ((n' + q : Nat) : Int)) (by omega)])
      rw [if_neg h7] at hXj
      (repeat (first | refine st_q rfl rfl rfl ?_ | refine Z8v rfl (st_q rfl rfl rfl ?_) | refine Z92 rfl Z8z rfl rfl ?_ | refine Z8v rfl (Z92 rfl Z8z rfl rfl ?_) | refine Zbz rfl rfl ?_ | refine Z8v rfl (Zbz rfl rfl ?_) | refine Z8w rfl ?_ | refine Z8x rfl ?_ | (refine Z8y ?_; (repeat (first | refine Z9v rfl ?_ | refine Z9w ?_)); refine Z9u ?_) | refine awp_seq ?_ | refine Zbm (fun _ _ => rfl) ?_ | refine Z8h ?_ | refine Zbn (fun _ _ => rfl) ?_ | refine Zbo (fun _ _ => rfl) ?_ | refine Yq1 rfl ?_ | refine Yq2 rfl ?_))
      refine Zbp ?_
      (repeat (refine st_q rfl rfl rfl ?_))
      rw [show IntKind.wrap .i64 ((j : Int) + 1) = ((j + 1 : Nat) : Int) by rw [w64 _ (by omega) (by omega)]; omega]
      (refine Z8y ?_; (repeat (first | refine Z9v rfl ?_ | refine Z9w ?_)); refine Z9u ?_)
      exact ⟨_, rows.length - (j + 1), HSub.refl _, ⟨j + 1, n' + q, rfl, rfl, by omega, by omega, hXj, rfl⟩, by omega⟩
  · rw [List.drop_of_length_le (by omega), fewR] at hXj
    subst hXj
    (repeat (first | refine st_q rfl rfl rfl ?_ | refine Z8v rfl (st_q rfl rfl rfl ?_) | refine Z92 rfl Z8z rfl rfl ?_ | refine Z8v rfl (Z92 rfl Z8z rfl rfl ?_) | refine Zbz rfl rfl ?_ | refine Z8v rfl (Zbz rfl rfl ?_) | refine Z8w rfl ?_ | refine Z8x rfl ?_ | (refine Z8y ?_; (repeat (first | refine Z9v rfl ?_ | refine Z9w ?_)); refine Z9u ?_) | refine awp_seq ?_ | refine Zbm (fun _ _ => rfl) ?_ | refine Z8h ?_ | refine Zbn (fun _ _ => rfl) ?_ | refine Zbo (fun _ _ => rfl) ?_ | refine Yq1 rfl ?_ | refine Yq2 rfl ?_))
    (refine Z8d ?_; exact Yar rfl ⟨rfl, rfl⟩)
theorem Z1fm {l : List Nd} {i : Int} {n : Nd} (h : l[i.toNat]? = some n) : (l.map encR)[i.toNat]? = some (encR n) := by rw [List.getElem?_map, h]; rfl
theorem Z1fn {l : List Nd} (hw : WfN l) : ∀ (a b : Nat) (x : Int), (x + 1).toNat ≤ a → (x + 1).toNat ≤ b → x < l.length → upF l a x = upF l b x := by
  intro a
  induction a with
  | zero =>
    intro b x h1 _ _
    cases b with
    | zero => rfl
    | succ b => rw [upF, upF, if_pos (.inl (by omega))]
  | succ a ih =>
    intro b x h1 h2 h3
    cases b with
    | zero => rw [upF, upF, if_pos (.inl (by omega))]
    | succ b =>
      rw [upF, upF]
      split
      · rfl
      · rename_i hx
        cases hlx : l[x.toNat]? with
        | none => rfl
        | some y =>
          have := hw.up _ _ hlx
          simp only
          split
          · exact ih b y.parent (by omega) (by omega) (by omega)
          · rfl
theorem Z1fo (l : List Nd) (hw : WfN l) (f : Bool) (col : Int) (σ : Zc) : Z1q Try.prog Zeg [.slc 9 (l.map encR) f, .int .i64 col] σ fun r σ' => r = .bool (goodF l col) ∧ σ' = σ := by
  have hml : (l.map encR).length = l.length := List.length_map ..
  have hlen := hw.len
  refine Z8t rfl Z1f6 (Nat.le_of_ble_eq_true rfl) ?_
  by_cases h1 : col < 0
  · (repeat (first | refine st_q rfl rfl rfl ?_ | refine Z8v rfl (st_q rfl rfl rfl ?_) | refine Z8w rfl ?_ | refine Z8x rfl ?_ | (refine Z8y ?_; (repeat (first | refine Z9v rfl ?_ | refine Z9w ?_)); refine Z9u ?_) | refine awp_seq ?_ | refine Zbm (fun _ _ => rfl) ?_ | refine Z8h ?_ | refine Zbn (fun _ _ => rfl) ?_ | refine Zbo (fun _ _ => rfl) ?_ | refine Yq1 rfl ?_ | refine Yq2 rfl ?_))
    (rw [decide_eq_true (p := col < 0) (by omega)])
    (repeat (first | refine st_q rfl rfl rfl ?_ | refine Z8v rfl (st_q rfl rfl rfl ?_) | refine Z8w rfl ?_ | refine Z8x rfl ?_ | (refine Z8y ?_; (repeat (first | refine Z9v rfl ?_ | refine Z9w ?_)); refine Z9u ?_) | refine awp_seq ?_ | refine Zbm (fun _ _ => rfl) ?_ | refine Z8h ?_ | refine Zbn (fun _ _ => rfl) ?_ | refine Zbo (fun _ _ => rfl) ?_ | refine Yq1 rfl ?_ | refine Yq2 rfl ?_))
    refine Z8d ?_
    exact Yar rfl ⟨by rw [goodF, if_pos (.inl h1)]; rfl, rfl⟩
  by_cases h2 : (l.length : Int) ≤ col
  · (repeat (first | refine st_q rfl rfl rfl ?_ | refine Z8v rfl (st_q rfl rfl rfl ?_) | refine Z8w rfl ?_ | refine Z8x rfl ?_ | (refine Z8y ?_; (repeat (first | refine Z9v rfl ?_ | refine Z9w ?_)); refine Z9u ?_) | refine awp_seq ?_ | refine Zbm (fun _ _ => rfl) ?_ | refine Z8h ?_ | refine Zbn (fun _ _ => rfl) ?_ | refine Zbo (fun _ _ => rfl) ?_ | refine Yq1 rfl ?_ | refine Yq2 rfl ?_))
    (rw [decide_eq_false (p := col < 0) (by omega)])
    (repeat (first | refine st_q rfl rfl rfl ?_ | refine Z8v rfl (st_q rfl rfl rfl ?_) | refine Z8w rfl ?_ | refine Z8x rfl ?_ | (refine Z8y ?_; (repeat (first | refine Z9v rfl ?_ | refine Z9w ?_)); refine Z9u ?_) | refine awp_seq ?_ | refine Zbm (fun _ _ => rfl) ?_ | refine Z8h ?_ | refine Zbn (fun _ _ => rfl) ?_ | refine Zbo (fun _ _ => rfl) ?_ | refine Yq1 rfl ?_ | refine Yq2 rfl ?_))
    rw [hml]
    (rw [decide_eq_true (p := col ≥ (l.length : Int)) (by omega)])
    (repeat (first | refine st_q rfl rfl rfl ?_ | refine Z8v rfl (st_q rfl rfl rfl ?_) | refine Z8w rfl ?_ | refine Z8x rfl ?_ | (refine Z8y ?_; (repeat (first | refine Z9v rfl ?_ | refine Z9w ?_)); refine Z9u ?_) | refine awp_seq ?_ | refine Zbm (fun _ _ => rfl) ?_ | refine Z8h ?_ | refine Zbn (fun _ _ => rfl) ?_ | refine Zbo (fun _ _ => rfl) ?_ | refine Yq1 rfl ?_ | refine Yq2 rfl ?_))
    refine Z8d ?_
    exact Yar rfl ⟨by rw [goodF, if_pos (.inr h2)]; rfl, rfl⟩
  obtain ⟨n, hn⟩ : ∃ n, l[col.toNat]? = some n := ⟨_, List.getElem?_eq_getElem (by omega)⟩
  have hg : goodF l col = (Zlt n.t.kind && upF l (n.parent + 1).toNat n.parent) := by rw [goodF, if_neg (by omega), hn]
  rw [hg]
  have hup := hw.up _ _ hn
  (repeat (first | refine st_q rfl rfl rfl ?_ | refine Z8v rfl (st_q rfl rfl rfl ?_) | refine Z8w rfl ?_ | refine Z8x rfl ?_ | (refine Z8y ?_; (repeat (first | refine Z9v rfl ?_ | refine Z9w ?_)); refine Z9u ?_) | refine awp_seq ?_ | refine Zbm (fun _ _ => rfl) ?_ | refine Z8h ?_ | refine Zbn (fun _ _ => rfl) ?_ | refine Zbo (fun _ _ => rfl) ?_ | refine Yq1 rfl ?_ | refine Yq2 rfl ?_))
  (rw [decide_eq_false (p := col < 0) (by omega)])
  (repeat (first | refine st_q rfl rfl rfl ?_ | refine Z8v rfl (st_q rfl rfl rfl ?_) | refine Z8w rfl ?_ | refine Z8x rfl ?_ | (refine Z8y ?_; (repeat (first | refine Z9v rfl ?_ | refine Z9w ?_)); refine Z9u ?_) | refine awp_seq ?_ | refine Zbm (fun _ _ => rfl) ?_ | refine Z8h ?_ | refine Zbn (fun _ _ => rfl) ?_ | refine Zbo (fun _ _ => rfl) ?_ | refine Yq1 rfl ?_ | refine Yq2 rfl ?_))
  rw [hml]
  (rw [decide_eq_false (p := col ≥ (l.length : Int)) (by omega)])
  (repeat (first | refine st_q rfl rfl rfl ?_ | refine Z8v rfl (st_q rfl rfl rfl ?_) | refine Z8w rfl ?_ | refine Z8x rfl ?_ | (refine Z8y ?_; (repeat (first | refine Z9v rfl ?_ | refine Z9w ?_)); refine Z9u ?_) | refine awp_seq ?_ | refine Zbm (fun _ _ => rfl) ?_ | refine Z8h ?_ | refine Zbn (fun _ _ => rfl) ?_ | refine Zbo (fun _ _ => rfl) ?_ | refine Yq1 rfl ?_ | refine Yq2 rfl ?_))
  refine Z8v rfl (Z93 rfl (by omega) (Z1fm hn) ?_)
  rw [encR, Zm3]
  (repeat (first | refine st_q rfl rfl rfl ?_ | refine Z8v rfl (st_q rfl rfl rfl ?_) | refine Z8w rfl ?_ | refine Z8x rfl ?_ | (refine Z8y ?_; (repeat (first | refine Z9v rfl ?_ | refine Z9w ?_)); refine Z9u ?_) | refine awp_seq ?_ | refine Zbm (fun _ _ => rfl) ?_ | refine Z8h ?_ | refine Zbn (fun _ _ => rfl) ?_ | refine Zbo (fun _ _ => rfl) ?_ | refine Yq1 rfl ?_ | refine Yq2 rfl ?_))
  refine Z8v rfl (Z9t rfl (Ztm _ _) ?_)
  cases hl : Zlt n.t.kind with
  | false =>
    (repeat (first | refine st_q rfl rfl rfl ?_ | refine Z8v rfl (st_q rfl rfl rfl ?_) | refine Z8w rfl ?_ | refine Z8x rfl ?_ | (refine Z8y ?_; (repeat (first | refine Z9v rfl ?_ | refine Z9w ?_)); refine Z9u ?_) | refine awp_seq ?_ | refine Zbm (fun _ _ => rfl) ?_ | refine Z8h ?_ | refine Zbn (fun _ _ => rfl) ?_ | refine Zbo (fun _ _ => rfl) ?_ | refine Yq1 rfl ?_ | refine Yq2 rfl ?_))
    refine Z8d ?_
    exact Yar rfl ⟨rfl, rfl⟩
  | true =>
    rw [Bool.true_and]
    (repeat (first | refine st_q rfl rfl rfl ?_ | refine Z8v rfl (st_q rfl rfl rfl ?_) | refine Z8w rfl ?_ | refine Z8x rfl ?_ | (refine Z8y ?_; (repeat (first | refine Z9v rfl ?_ | refine Z9w ?_)); refine Z9u ?_) | refine awp_seq ?_ | refine Zbm (fun _ _ => rfl) ?_ | refine Z8h ?_ | refine Zbn (fun _ _ => rfl) ?_ | refine Zbo (fun _ _ => rfl) ?_ | refine Yq1 rfl ?_ | refine Yq2 rfl ?_))
    refine Z93 rfl (by omega) (Z1fm hn) ?_
    rw [encR, Zm3]
    (repeat (first | refine st_q rfl rfl rfl ?_ | refine Z8v rfl (st_q rfl rfl rfl ?_) | refine Z8w rfl ?_ | refine Z8x rfl ?_ | (refine Z8y ?_; (repeat (first | refine Z9v rfl ?_ | refine Z9w ?_)); refine Z9u ?_) | refine awp_seq ?_ | refine Zbm (fun _ _ => rfl) ?_ | refine Z8h ?_ | refine Zbn (fun _ _ => rfl) ?_ | refine Zbo (fun _ _ => rfl) ?_ | refine Yq1 rfl ?_ | refine Yq2 rfl ?_))
    refine Zaa (fun m F σ' => ∃ p : Int, F = fset 0 (some (.slc 9 (l.map encR) f)) (fset 5 (some (.int .i64 p)) Z27) ∧ σ = σ' ∧ -1 ≤ p ∧ p < l.length ∧ m = (p + 1).toNat ∧ upF l (p + 1).toNat p = upF l (n.parent + 1).toNat n.parent) (n := (n.parent + 1).toNat)
      ⟨n.parent, rfl, rfl, by omega, by omega, rfl, rfl⟩ ?_
    rintro m F σ' ⟨p, rfl, rfl, hp1, hp2, rfl, he⟩
    by_cases h3 : 0 ≤ p
    · obtain ⟨q, hq⟩ : ∃ q, l[p.toNat]? = some q := ⟨_, List.getElem?_eq_getElem (by omega)⟩
      obtain ⟨j, hj⟩ : ∃ j, (p + 1).toNat = j + 1 := ⟨p.toNat, by omega⟩
      have hupq := hw.up _ _ hq
      rw [hj, upF, if_neg (by omega), hq] at he
      simp only at he
      (repeat (first | refine st_q rfl rfl rfl ?_ | refine Z8v rfl (st_q rfl rfl rfl ?_) | refine Z8w rfl ?_ | refine Z8x rfl ?_ | (refine Z8y ?_; (repeat (first | refine Z9v rfl ?_ | refine Z9w ?_)); refine Z9u ?_) | refine awp_seq ?_ | refine Zbm (fun _ _ => rfl) ?_ | refine Z8h ?_ | refine Zbn (fun _ _ => rfl) ?_ | refine Zbo (fun _ _ => rfl) ?_ | refine Yq1 rfl ?_ | refine Yq2 rfl ?_))
      (rw [decide_eq_true (p := p ≥ 0) (by omega)])
      (repeat (first | refine st_q rfl rfl rfl ?_ | refine Z8v rfl (st_q rfl rfl rfl ?_) | refine Z8w rfl ?_ | refine Z8x rfl ?_ | (refine Z8y ?_; (repeat (first | refine Z9v rfl ?_ | refine Z9w ?_)); refine Z9u ?_) | refine awp_seq ?_ | refine Zbm (fun _ _ => rfl) ?_ | refine Z8h ?_ | refine Zbn (fun _ _ => rfl) ?_ | refine Zbo (fun _ _ => rfl) ?_ | refine Yq1 rfl ?_ | refine Yq2 rfl ?_))
      refine Z93 rfl (by omega) (Z1fm hq) ?_
      rw [encR, Zm3]
      (repeat (first | refine st_q rfl rfl rfl ?_ | refine Z8v rfl (st_q rfl rfl rfl ?_) | refine Z8w rfl ?_ | refine Z8x rfl ?_ | (refine Z8y ?_; (repeat (first | refine Z9v rfl ?_ | refine Z9w ?_)); refine Z9u ?_) | refine awp_seq ?_ | refine Zbm (fun _ _ => rfl) ?_ | refine Z8h ?_ | refine Zbn (fun _ _ => rfl) ?_ | refine Zbo (fun _ _ => rfl) ?_ | refine Yq1 rfl ?_ | refine Yq2 rfl ?_))
      refine Za3 (p := q.t.kind ≠ 12) rfl (fun h4 => ?_) (fun h4 => ?_)
      · rw [if_neg h4] at he
        rw [← he]
        (repeat (first | refine st_q rfl rfl rfl ?_ | refine Z8v rfl (st_q rfl rfl rfl ?_) | refine Z8w rfl ?_ | refine Z8x rfl ?_ | (refine Z8y ?_; (repeat (first | refine Z9v rfl ?_ | refine Z9w ?_)); refine Z9u ?_) | refine awp_seq ?_ | refine Zbm (fun _ _ => rfl) ?_ | refine Z8h ?_ | refine Zbn (fun _ _ => rfl) ?_ | refine Zbo (fun _ _ => rfl) ?_ | refine Yq1 rfl ?_ | refine Yq2 rfl ?_))
        refine Z8d ?_
        exact Yar rfl ⟨rfl, rfl⟩
      · rw [if_pos (by omega)] at he
        refine Zbn (fun _ _ => rfl) ?_
        refine awp_region ?_
        (repeat (refine st_q rfl rfl rfl ?_))
        refine Z93 rfl (by omega) (Z1fm hq) ?_
        rw [encR, Zm3]
        (repeat (refine st_q rfl rfl rfl ?_))
        refine Z8y ?_
        refine Zac (keep := [0, 5]) ?_
        ((repeat (first | refine Z9v rfl ?_ | refine Z9w ?_)); refine Z9u ?_)
        refine ⟨_, _, HSub.refl _, ⟨q.parent, rfl, rfl, by omega, by omega, rfl, ?_⟩, by omega⟩
        rw [← he]
        exact Z1fn hw _ _ _ (by omega) (by omega) (by omega)
    · have hp : p = -1 := by omega
      subst hp
      have e : upF l ((-1 : Int) + 1).toNat (-1) = true := rfl
      rw [e] at he
      rw [← he]
      (repeat (first | refine st_q rfl rfl rfl ?_ | refine Z8v rfl (st_q rfl rfl rfl ?_) | refine Z8w rfl ?_ | refine Z8x rfl ?_ | (refine Z8y ?_; (repeat (first | refine Z9v rfl ?_ | refine Z9w ?_)); refine Z9u ?_) | refine awp_seq ?_ | refine Zbm (fun _ _ => rfl) ?_ | refine Z8h ?_ | refine Zbn (fun _ _ => rfl) ?_ | refine Zbo (fun _ _ => rfl) ?_ | refine Yq1 rfl ?_ | refine Yq2 rfl ?_))
      refine Z8d ?_
      exact Yar rfl ⟨rfl, rfl⟩
theorem Z1fp (p : List Tm) (hp : p.length ≤ 100000000) (f : Bool) (σ : Zc) : Z1q Try.prog Zd9 [.slc 7 (p.map encM) f] σ fun r σ' => r = .slc 7 (p.map encM) false ∧ σ' = σ := by
  have hpl : (p.map encM).length = p.length := List.length_map ..
  refine Zb5 (R := fun r σ' => ∃ β, Zbr 7 r (p.map encM) β ∧ σ' = β ++ σ) ?_ fun r σ' h => ?_
  case refine_2 =>
    obtain ⟨β, ho, rfl⟩ := h
    exact ⟨_, _, Zb6.one (Zb6.growG ho), rfl, rfl⟩
  refine Z8t rfl Z1ez (Nat.le_of_ble_eq_true rfl) ?_
  (repeat (first | refine st_q rfl rfl rfl ?_ | refine Z8v rfl (st_q rfl rfl rfl ?_) | refine Z8w rfl ?_ | refine Z8x rfl ?_ | (refine Z8y ?_; (repeat (first | refine Z9v rfl ?_ | refine Z9w ?_)); refine Z9u ?_) | refine awp_seq ?_ | refine Zbm (fun _ _ => rfl) ?_ | refine Z8h ?_ | refine Zbn (fun _ _ => rfl) ?_ | refine Zbo (fun _ _ => rfl) ?_ | refine Yq1 rfl ?_ | refine Yq2 rfl ?_))
  refine Zaa (fun m F σ' => ∃ (i : Nat) (v : Z0) (β : Zc), F = fset 0 (some (.slc 7 (p.map encM) f)) (fset 3 (some v) (fset 4 (some (.int .i64 i)) Z27)) ∧ σ' = β ++ σ ∧ Zbr 7 v ((p.take i).map encM) β ∧ i ≤ p.length ∧ m = p.length - i) (n := p.length)
    ⟨0, .slc 0 [] true, [], rfl, rfl, Zbr.nil 7 0, by omega, by omega⟩ ?_
  rintro m F σ' ⟨i, v, β, rfl, rfl, ho, hi, rfl⟩
  (repeat (first | refine st_q rfl rfl rfl ?_ | refine Z8v rfl (st_q rfl rfl rfl ?_) | refine Z8w rfl ?_ | refine Z8x rfl ?_ | (refine Z8y ?_; (repeat (first | refine Z9v rfl ?_ | refine Z9w ?_)); refine Z9u ?_) | refine awp_seq ?_ | refine Zbm (fun _ _ => rfl) ?_ | refine Z8h ?_ | refine Zbn (fun _ _ => rfl) ?_ | refine Zbo (fun _ _ => rfl) ?_ | refine Yq1 rfl ?_ | refine Yq2 rfl ?_))
  rw [hpl]
  refine Za3 (p := (i : Int) < (p.length : Int)) rfl (fun h3 => ?_) (fun h3 => ?_)
  · have hil : i < p.length := by omega
    have hx := Z187 (i := (i : Int)) (show p[(i : Int).toNat]? = some p[i] from List.getElem?_eq_getElem hil)
    have htk : (p.take (i + 1)).map encM = (p.take i).map encM ++ [encM p[i]] := by
      rw [List.take_add_one, List.getElem?_eq_getElem hil, List.map_append]; rfl
    generalize p[i] = t at hx htk
    obtain ⟨tc, op, tv⟩ := t
    rw [encM, Z17q, Zm6] at hx htk
    simp only at hx htk
    (repeat (first | refine st_q rfl rfl rfl ?_ | refine Z8v rfl (st_q rfl rfl rfl ?_) | refine Z8w rfl ?_ | refine Z8x rfl ?_ | (refine Z8y ?_; (repeat (first | refine Z9v rfl ?_ | refine Z9w ?_)); refine Z9u ?_) | refine awp_seq ?_ | refine Zbm (fun _ _ => rfl) ?_ | refine Z8h ?_ | refine Zbn (fun _ _ => rfl) ?_ | refine Zbo (fun _ _ => rfl) ?_ | refine Yq1 rfl ?_ | refine Yq2 rfl ?_))
    refine Z93 rfl (by omega) hx ?_
    (repeat (first | refine st_q rfl rfl rfl ?_ | refine Z8v rfl (st_q rfl rfl rfl ?_) | refine Z8w rfl ?_ | refine Z8x rfl ?_ | (refine Z8y ?_; (repeat (first | refine Z9v rfl ?_ | refine Z9w ?_)); refine Z9u ?_) | refine awp_seq ?_ | refine Zbm (fun _ _ => rfl) ?_ | refine Z8h ?_ | refine Zbn (fun _ _ => rfl) ?_ | refine Zbo (fun _ _ => rfl) ?_ | refine Yq1 rfl ?_ | refine Yq2 rfl ?_))
    refine Z93 rfl (by omega) hx ?_
    (repeat (first | refine st_q rfl rfl rfl ?_ | refine Z8v rfl (st_q rfl rfl rfl ?_) | refine Z8w rfl ?_ | refine Z8x rfl ?_ | (refine Z8y ?_; (repeat (first | refine Z9v rfl ?_ | refine Z9w ?_)); refine Z9u ?_) | refine awp_seq ?_ | refine Zbm (fun _ _ => rfl) ?_ | refine Z8h ?_ | refine Zbn (fun _ _ => rfl) ?_ | refine Zbo (fun _ _ => rfl) ?_ | refine Yq1 rfl ?_ | refine Yq2 rfl ?_))
    refine Z93 rfl (by omega) hx ?_
    (repeat (first | refine st_q rfl rfl rfl ?_ | refine Z8v rfl (st_q rfl rfl rfl ?_) | refine Z8w rfl ?_ | refine Z8x rfl ?_ | (refine Z8y ?_; (repeat (first | refine Z9v rfl ?_ | refine Z9w ?_)); refine Z9u ?_) | refine awp_seq ?_ | refine Zbm (fun _ _ => rfl) ?_ | refine Z8h ?_ | refine Zbn (fun _ _ => rfl) ?_ | refine Zbo (fun _ _ => rfl) ?_ | refine Yq1 rfl ?_ | refine Yq2 rfl ?_))
    refine Zbs (ys := [.agg [.int .i64 tc, .int .i64 op, .bool tv.null, .int .i64 tv.i, .int .i64 tv.n, .slc 1 (bytes tv.b) false, .slc 5 (Zm5 tv.kids) false]]) ho rfl rfl (by simp only [List.length_map, List.length_take, List.length_cons, List.length_nil]; omega) fun b hb => ?_
    rw [← htk]
    (repeat (refine st_q rfl rfl rfl ?_))
    (refine Z8y ?_; (repeat (first | refine Z9v rfl ?_ | refine Z9w ?_)); refine Z9u ?_)
    refine awp_region ?_
    (repeat (refine st_q rfl rfl rfl ?_))
    rw [show IntKind.wrap .i64 ((i : Int) + 1) = ((i + 1 : Nat) : Int) by rw [w64 _ (by omega) (by omega)]; omega]
    (repeat (refine st_q rfl rfl rfl ?_))
    refine Z8y ?_
    refine Zac (keep := [0, 3, 4]) ?_
    ((repeat (first | refine Z9v rfl ?_ | refine Z9w ?_)); refine Z9u ?_)
    exact ⟨_, _, HSub.refl _, ⟨i + 1, _, _, rfl, rfl, Zbr.mk, by omega, rfl⟩, by omega⟩
  · have e : p.take i = p := List.take_of_length_le (by omega)
    rw [e] at ho
    (repeat (first | refine st_q rfl rfl rfl ?_ | refine Z8v rfl (st_q rfl rfl rfl ?_) | refine Z8w rfl ?_ | refine Z8x rfl ?_ | (refine Z8y ?_; (repeat (first | refine Z9v rfl ?_ | refine Z9w ?_)); refine Z9u ?_) | refine awp_seq ?_ | refine Zbm (fun _ _ => rfl) ?_ | refine Z8h ?_ | refine Zbn (fun _ _ => rfl) ?_ | refine Zbo (fun _ _ => rfl) ?_ | refine Yq1 rfl ?_ | refine Yq2 rfl ?_))
    refine Z8d ?_
    exact Yar rfl ⟨β, ho, rfl⟩
def few25 (p : List Tm) : Bool := if 20 < p.length then false else p.all fun t => decide (fewV 1 t.v ≤ 400)
theorem Z1fq (p : List Tm) (f : Bool) (σ : Zc) : Z1q Try.prog Zd6 [.slc 7 (p.map encM) f] σ fun r σ' => r = .bool (few25 p) ∧ σ' = σ := by
  have hpl : (p.map encM).length = p.length := List.length_map ..
  refine Z8t rfl Z1ey (Nat.le_of_ble_eq_true rfl) ?_
  (repeat (first | refine st_q rfl rfl rfl ?_ | refine Z8v rfl (st_q rfl rfl rfl ?_) | refine Z8w rfl ?_ | refine Z8x rfl ?_ | (refine Z8y ?_; (repeat (first | refine Z9v rfl ?_ | refine Z9w ?_)); refine Z9u ?_) | refine awp_seq ?_ | refine Zbm (fun _ _ => rfl) ?_ | refine Z8h ?_ | refine Zbn (fun _ _ => rfl) ?_ | refine Zbo (fun _ _ => rfl) ?_ | refine Yq1 rfl ?_ | refine Yq2 rfl ?_))
  rw [hpl]
  by_cases h20 : 20 < p.length
  · rw [few25, if_pos h20]
    (rw [decide_eq_true (p := (p.length : Int) > 20) (by omega)])
    (repeat (first | refine st_q rfl rfl rfl ?_ | refine Z8v rfl (st_q rfl rfl rfl ?_) | refine Z8w rfl ?_ | refine Z8x rfl ?_ | (refine Z8y ?_; (repeat (first | refine Z9v rfl ?_ | refine Z9w ?_)); refine Z9u ?_) | refine awp_seq ?_ | refine Zbm (fun _ _ => rfl) ?_ | refine Z8h ?_ | refine Zbn (fun _ _ => rfl) ?_ | refine Zbo (fun _ _ => rfl) ?_ | refine Yq1 rfl ?_ | refine Yq2 rfl ?_))
    refine Z8d ?_
    exact Yar rfl ⟨rfl, rfl⟩
  rw [few25, if_neg h20]
  (rw [decide_eq_false (p := (p.length : Int) > 20) (by omega)])
  (repeat (first | refine st_q rfl rfl rfl ?_ | refine Z8v rfl (st_q rfl rfl rfl ?_) | refine Z8w rfl ?_ | refine Z8x rfl ?_ | (refine Z8y ?_; (repeat (first | refine Z9v rfl ?_ | refine Z9w ?_)); refine Z9u ?_) | refine awp_seq ?_ | refine Zbm (fun _ _ => rfl) ?_ | refine Z8h ?_ | refine Zbn (fun _ _ => rfl) ?_ | refine Zbo (fun _ _ => rfl) ?_ | refine Yq1 rfl ?_ | refine Yq2 rfl ?_))
  generalize hX : (p.all fun t => decide (fewV 1 t.v ≤ 400)) = X
  refine Zaa (fun m F σ' => ∃ i : Nat, F = fset 0 (some (.slc 7 (p.map encM) f)) (fset 3 (some (.int .i64 i)) Z27) ∧ σ = σ' ∧ i ≤ p.length ∧ m = p.length - i ∧ ((p.drop i).all fun t => decide (fewV 1 t.v ≤ 400)) = X) (n := p.length)
    ⟨0, rfl, rfl, by omega, by omega, by rw [List.drop_zero]; exact hX⟩ ?_
  rintro m F σ' ⟨i, rfl, rfl, hi, rfl, hM⟩
  (repeat (first | refine st_q rfl rfl rfl ?_ | refine Z8v rfl (st_q rfl rfl rfl ?_) | refine Z8w rfl ?_ | refine Z8x rfl ?_ | (refine Z8y ?_; (repeat (first | refine Z9v rfl ?_ | refine Z9w ?_)); refine Z9u ?_) | refine awp_seq ?_ | refine Zbm (fun _ _ => rfl) ?_ | refine Z8h ?_ | refine Zbn (fun _ _ => rfl) ?_ | refine Zbo (fun _ _ => rfl) ?_ | refine Yq1 rfl ?_ | refine Yq2 rfl ?_))
  rw [hpl]
  refine Za3 (p := (i : Int) < (p.length : Int)) rfl (fun h3 => ?_) (fun h3 => ?_)
  · have hil : i < p.length := by omega
    have hx := Z187 (i := (i : Int)) (show p[(i : Int).toNat]? = some p[i] from List.getElem?_eq_getElem hil)
    rw [List.drop_eq_getElem_cons hil, List.all_cons] at hM
    generalize p[i] = t at hx hM
    have hc := fun τ => Z1fk t.v τ
    rw [Zm7] at hc
    obtain ⟨tc, op, tv⟩ := t
    simp only at *
    rw [encM, Z17q, Zm6] at hx
    simp only at hx
    (repeat (first | refine st_q rfl rfl rfl ?_ | refine Z8v rfl (st_q rfl rfl rfl ?_) | refine Z8w rfl ?_ | refine Z8x rfl ?_ | (refine Z8y ?_; (repeat (first | refine Z9v rfl ?_ | refine Z9w ?_)); refine Z9u ?_) | refine awp_seq ?_ | refine Zbm (fun _ _ => rfl) ?_ | refine Z8h ?_ | refine Zbn (fun _ _ => rfl) ?_ | refine Zbo (fun _ _ => rfl) ?_ | refine Yq1 rfl ?_ | refine Yq2 rfl ?_))
    refine Z93 rfl (by omega) hx ?_
    (repeat (first | refine st_q rfl rfl rfl ?_ | refine Z8v rfl (st_q rfl rfl rfl ?_) | refine Z8w rfl ?_ | refine Z8x rfl ?_ | (refine Z8y ?_; (repeat (first | refine Z9v rfl ?_ | refine Z9w ?_)); refine Z9u ?_) | refine awp_seq ?_ | refine Zbm (fun _ _ => rfl) ?_ | refine Z8h ?_ | refine Zbn (fun _ _ => rfl) ?_ | refine Zbo (fun _ _ => rfl) ?_ | refine Yq1 rfl ?_ | refine Yq2 rfl ?_))
    refine Z9t rfl (hc _) ?_
    by_cases hf : fewV 1 tv ≤ 400
    · rw [decide_eq_true hf, Bool.true_and] at hM
      rw [decide_eq_true hf]
      (repeat (first | refine st_q rfl rfl rfl ?_ | refine Z8v rfl (st_q rfl rfl rfl ?_) | refine Z8w rfl ?_ | refine Z8x rfl ?_ | (refine Z8y ?_; (repeat (first | refine Z9v rfl ?_ | refine Z9w ?_)); refine Z9u ?_) | refine awp_seq ?_ | refine Zbm (fun _ _ => rfl) ?_ | refine Z8h ?_ | refine Zbn (fun _ _ => rfl) ?_ | refine Zbo (fun _ _ => rfl) ?_ | refine Yq1 rfl ?_ | refine Yq2 rfl ?_))
      refine awp_region ?_
      (repeat (refine st_q rfl rfl rfl ?_))
      rw [show IntKind.wrap .i64 ((i : Int) + 1) = ((i + 1 : Nat) : Int) by rw [w64 _ (by omega) (by omega)]; omega]
      (repeat (refine st_q rfl rfl rfl ?_))
      refine Z8y ?_
      refine Zac (keep := [0, 3]) ?_
      ((repeat (first | refine Z9v rfl ?_ | refine Z9w ?_)); refine Z9u ?_)
      exact ⟨_, _, HSub.refl _, ⟨i + 1, rfl, rfl, by omega, rfl, hM⟩, by omega⟩
    · rw [decide_eq_false hf, Bool.false_and] at hM
      rw [decide_eq_false hf, ← hM]
      (repeat (first | refine st_q rfl rfl rfl ?_ | refine Z8v rfl (st_q rfl rfl rfl ?_) | refine Z8w rfl ?_ | refine Z8x rfl ?_ | (refine Z8y ?_; (repeat (first | refine Z9v rfl ?_ | refine Z9w ?_)); refine Z9u ?_) | refine awp_seq ?_ | refine Zbm (fun _ _ => rfl) ?_ | refine Z8h ?_ | refine Zbn (fun _ _ => rfl) ?_ | refine Zbo (fun _ _ => rfl) ?_ | refine Yq1 rfl ?_ | refine Yq2 rfl ?_))
      refine Z8d ?_
      exact Yar rfl ⟨rfl, rfl⟩
  · (repeat (first | refine st_q rfl rfl rfl ?_ | refine Z8v rfl (st_q rfl rfl rfl ?_) | refine Z8w rfl ?_ | refine Z8x rfl ?_ | (refine Z8y ?_; (repeat (first | refine Z9v rfl ?_ | refine Z9w ?_)); refine Z9u ?_) | refine awp_seq ?_ | refine Zbm (fun _ _ => rfl) ?_ | refine Z8h ?_ | refine Zbn (fun _ _ => rfl) ?_ | refine Zbo (fun _ _ => rfl) ?_ | refine Yq1 rfl ?_ | refine Yq2 rfl ?_))
    have e : p.drop i = [] := List.drop_eq_nil_of_le (by omega)
    rw [e, List.all_nil] at hM
    rw [← hM]
    refine Z8d ?_
    exact Yar rfl ⟨rfl, rfl⟩
def okR (l : List Nd) (t : Tm) : Bool :=
  goodF l t.col && (decide (1 ≤ t.op ∧ t.op ≤ 8) && (!t.v.null && (if 7 ≤ t.op then Z1az t.v vl0 else match l[t.col.toNat]? with | none => false | some n => decide (vchk n.t t.v = 0))))
def Z1fr (l : List Nd) (p : List Tm) : Nat := if 16 < p.length then 1 else if p.all (okR l) = true then 0 else 1
theorem Z1fs (l : List Nd) (hw : WfN l) (hok : ∀ n ∈ l, n.t.Ok) (f e : Bool) (p : List Tm) (hfit : ∀ t ∈ p, t.v.Fit) (σ : Zc) :
    Z1q Try.prog Zd8 [.slc 9 (l.map encR) f, .slc 7 (p.map encM) e] σ fun r σ' => r = .int .i64 (Z1fr l p : Int) ∧ σ' = σ := by
  have hpl : (p.map encM).length = p.length := List.length_map ..
  refine Z8t rfl Z1f5 (Nat.le_of_ble_eq_true rfl) ?_
  (repeat (first | refine st_q rfl rfl rfl ?_ | refine Z8v rfl (st_q rfl rfl rfl ?_) | refine Z8w rfl ?_ | refine Z8x rfl ?_ | (refine Z8y ?_; (repeat (first | refine Z9v rfl ?_ | refine Z9w ?_)); refine Z9u ?_) | refine awp_seq ?_ | refine Zbm (fun _ _ => rfl) ?_ | refine Z8h ?_ | refine Zbn (fun _ _ => rfl) ?_ | refine Zbo (fun _ _ => rfl) ?_ | refine Yq1 rfl ?_ | refine Yq2 rfl ?_))
  rw [hpl]
  by_cases h16 : 16 < p.length
  · rw [Z1fr, if_pos h16]
    (rw [decide_eq_true (p := (p.length : Int) > 16) (by omega)])
    (repeat (first | refine st_q rfl rfl rfl ?_ | refine Z8v rfl (st_q rfl rfl rfl ?_) | refine Z8w rfl ?_ | refine Z8x rfl ?_ | (refine Z8y ?_; (repeat (first | refine Z9v rfl ?_ | refine Z9w ?_)); refine Z9u ?_) | refine awp_seq ?_ | refine Zbm (fun _ _ => rfl) ?_ | refine Z8h ?_ | refine Zbn (fun _ _ => rfl) ?_ | refine Zbo (fun _ _ => rfl) ?_ | refine Yq1 rfl ?_ | refine Yq2 rfl ?_))
    refine Z8d ?_
    exact Yar rfl ⟨rfl, rfl⟩
  rw [Z1fr, if_neg h16]
  (rw [decide_eq_false (p := (p.length : Int) > 16) (by omega)])
  (repeat (first | refine st_q rfl rfl rfl ?_ | refine Z8v rfl (st_q rfl rfl rfl ?_) | refine Z8w rfl ?_ | refine Z8x rfl ?_ | (refine Z8y ?_; (repeat (first | refine Z9v rfl ?_ | refine Z9w ?_)); refine Z9u ?_) | refine awp_seq ?_ | refine Zbm (fun _ _ => rfl) ?_ | refine Z8h ?_ | refine Zbn (fun _ _ => rfl) ?_ | refine Zbo (fun _ _ => rfl) ?_ | refine Yq1 rfl ?_ | refine Yq2 rfl ?_))
  generalize hX : (if p.all (okR l) = true then 0 else 1 : Nat) = X
  obtain ⟨I, hI⟩ : ∃ I : Nat → Z26 → Zc → Prop, I = fun m F σ' => ∃ i : Nat, F = fset 0 (some (.slc 9 (l.map encR) f)) (fset 1 (some (.slc 7 (p.map encM) e)) (fset 5 (some (.int .i64 i)) Z27)) ∧ σ = σ' ∧ i ≤ p.length ∧ m = p.length - i ∧ (if (p.drop i).all (okR l) = true then 0 else 1 : Nat) = X := ⟨_, rfl⟩
  refine Zaa I (n := p.length) (by rw [hI]; exact ⟨0, rfl, rfl, by omega, by omega, by rw [List.drop_zero]; exact hX⟩) ?_
  intro m F σ' hIm
  rw [hI] at hIm
  obtain ⟨i, rfl, rfl, hi, rfl, hM⟩ := hIm
  (repeat (first | refine st_q rfl rfl rfl ?_ | refine Z8v rfl (st_q rfl rfl rfl ?_) | refine Z8w rfl ?_ | refine Z8x rfl ?_ | (refine Z8y ?_; (repeat (first | refine Z9v rfl ?_ | refine Z9w ?_)); refine Z9u ?_) | refine awp_seq ?_ | refine Zbm (fun _ _ => rfl) ?_ | refine Z8h ?_ | refine Zbn (fun _ _ => rfl) ?_ | refine Zbo (fun _ _ => rfl) ?_ | refine Yq1 rfl ?_ | refine Yq2 rfl ?_))
  rw [hpl]
  refine Za3 (p := (i : Int) < (p.length : Int)) rfl (fun h3 => ?_) (fun h3 => ?_)
  · have hil : i < p.length := by omega
    have hx := Z187 (i := (i : Int)) (show p[(i : Int).toNat]? = some p[i] from List.getElem?_eq_getElem hil)
    have hft := hfit p[i] (List.getElem_mem hil)
    rw [List.drop_eq_getElem_cons hil, List.all_cons] at hM
    generalize p[i] = t at hx hM hft
    have hgd := fun τ => Z1fo l hw f t.col τ
    have hsm := fun τ => Z1b3 t.v hft vl0 τ
    simp only [Zm7] at hsm
    obtain ⟨tc, op, tv⟩ := t
    simp only at *
    rw [encM, Z17q, Zm6] at hx
    simp only at hx
    have next : okR l ⟨tc, op, tv⟩ = true → ∀ Q : Z87, AWp Try.prog Z1ek.n (.region Z1eh [0, 1, 5]) (Za9 I (p.length - i) Q)
        (fset 0 (some (.slc 9 (l.map encR) f)) (fset 1 (some (.slc 7 (p.map encM) e)) (fset 5 (some (.int .i64 i)) Z27))) σ := fun ho Q => by
      rw [ho, Bool.true_and] at hM
      refine Zbp ?_
      (repeat (refine st_q rfl rfl rfl ?_))
      rw [show IntKind.wrap .i64 ((i : Int) + 1) = ((i + 1 : Nat) : Int) by rw [w64 _ (by omega) (by omega)]; omega]
      (repeat (refine st_q rfl rfl rfl ?_))
      (refine Z8y ?_; (repeat (first | refine Z9v rfl ?_ | refine Z9w ?_)); refine Z9u ?_)
      refine ⟨_, p.length - (i + 1), HSub.refl _, ?_, by omega⟩
      rw [hI]
      exact ⟨i + 1, rfl, rfl, by omega, rfl, hM⟩
    have bad : okR l ⟨tc, op, tv⟩ = false → 1 = X := fun h => by
      rw [h, Bool.false_and, if_neg (by simp)] at hM
      exact hM
    (repeat (first | refine st_q rfl rfl rfl ?_ | refine Z8v rfl (st_q rfl rfl rfl ?_) | refine Z8w rfl ?_ | refine Z8x rfl ?_ | (refine Z8y ?_; (repeat (first | refine Z9v rfl ?_ | refine Z9w ?_)); refine Z9u ?_) | refine awp_seq ?_ | refine Zbm (fun _ _ => rfl) ?_ | refine Z8h ?_ | refine Zbn (fun _ _ => rfl) ?_ | refine Zbo (fun _ _ => rfl) ?_ | refine Yq1 rfl ?_ | refine Yq2 rfl ?_))
    refine Z93 rfl (by omega) hx ?_
    (repeat (first | refine st_q rfl rfl rfl ?_ | refine Z8v rfl (st_q rfl rfl rfl ?_) | refine Z8w rfl ?_ | refine Z8x rfl ?_ | (refine Z8y ?_; (repeat (first | refine Z9v rfl ?_ | refine Z9w ?_)); refine Z9u ?_) | refine awp_seq ?_ | refine Zbm (fun _ _ => rfl) ?_ | refine Z8h ?_ | refine Zbn (fun _ _ => rfl) ?_ | refine Zbo (fun _ _ => rfl) ?_ | refine Yq1 rfl ?_ | refine Yq2 rfl ?_))
    refine Z9t rfl (hgd _) ?_
    cases hgc : goodF l tc with
    | false =>
      rw [← bad (by rw [okR]; simp only [hgc, Bool.false_and])]
      (repeat (first | refine st_q rfl rfl rfl ?_ | refine Z8v rfl (st_q rfl rfl rfl ?_) | refine Z8w rfl ?_ | refine Z8x rfl ?_ | (refine Z8y ?_; (repeat (first | refine Z9v rfl ?_ | refine Z9w ?_)); refine Z9u ?_) | refine awp_seq ?_ | refine Zbm (fun _ _ => rfl) ?_ | refine Z8h ?_ | refine Zbn (fun _ _ => rfl) ?_ | refine Zbo (fun _ _ => rfl) ?_ | refine Yq1 rfl ?_ | refine Yq2 rfl ?_))
      refine Z8d ?_
      exact Yar rfl ⟨rfl, rfl⟩
    | true =>
    obtain ⟨k0, k1⟩ := Z181 hgc
    obtain ⟨n, hn⟩ : ∃ n, l[tc.toNat]? = some n := ⟨_, List.getElem?_eq_getElem (by omega)⟩
    have hchk := fun τ => Ztz tv hft n.t (hok n (List.mem_of_getElem? hn)) τ
    simp only [Zm7, Zlp] at hchk
    have hom : okR l ⟨tc, op, tv⟩ = (decide (1 ≤ op ∧ op ≤ 8) && (!tv.null && (if 7 ≤ op then Z1az tv vl0 else decide (vchk n.t tv = 0)))) := by
      rw [okR]
      simp only [hgc, hn, Bool.true_and]
    (repeat (first | refine st_q rfl rfl rfl ?_ | refine Z8v rfl (st_q rfl rfl rfl ?_) | refine Z8w rfl ?_ | refine Z8x rfl ?_ | (refine Z8y ?_; (repeat (first | refine Z9v rfl ?_ | refine Z9w ?_)); refine Z9u ?_) | refine awp_seq ?_ | refine Zbm (fun _ _ => rfl) ?_ | refine Z8h ?_ | refine Zbn (fun _ _ => rfl) ?_ | refine Zbo (fun _ _ => rfl) ?_ | refine Yq1 rfl ?_ | refine Yq2 rfl ?_))
    refine Z8v rfl (Z93 rfl (by omega) hx ?_)
    (repeat (first | refine st_q rfl rfl rfl ?_ | refine Z8v rfl (st_q rfl rfl rfl ?_) | refine Z8w rfl ?_ | refine Z8x rfl ?_ | (refine Z8y ?_; (repeat (first | refine Z9v rfl ?_ | refine Z9w ?_)); refine Z9u ?_) | refine awp_seq ?_ | refine Zbm (fun _ _ => rfl) ?_ | refine Z8h ?_ | refine Zbn (fun _ _ => rfl) ?_ | refine Zbo (fun _ _ => rfl) ?_ | refine Yq1 rfl ?_ | refine Yq2 rfl ?_))
    by_cases q1 : op < 1
    · rw [← bad (by rw [hom, decide_eq_false (by omega), Bool.false_and])]
      (rw [decide_eq_true (p := op < 1) (by omega)])
      (repeat (first | refine st_q rfl rfl rfl ?_ | refine Z8v rfl (st_q rfl rfl rfl ?_) | refine Z8w rfl ?_ | refine Z8x rfl ?_ | (refine Z8y ?_; (repeat (first | refine Z9v rfl ?_ | refine Z9w ?_)); refine Z9u ?_) | refine awp_seq ?_ | refine Zbm (fun _ _ => rfl) ?_ | refine Z8h ?_ | refine Zbn (fun _ _ => rfl) ?_ | refine Zbo (fun _ _ => rfl) ?_ | refine Yq1 rfl ?_ | refine Yq2 rfl ?_))
      refine Z8d ?_
      exact Yar rfl ⟨rfl, rfl⟩
    (rw [decide_eq_false (p := op < 1) (by omega)])
    (repeat (first | refine st_q rfl rfl rfl ?_ | refine Z8v rfl (st_q rfl rfl rfl ?_) | refine Z8w rfl ?_ | refine Z8x rfl ?_ | (refine Z8y ?_; (repeat (first | refine Z9v rfl ?_ | refine Z9w ?_)); refine Z9u ?_) | refine awp_seq ?_ | refine Zbm (fun _ _ => rfl) ?_ | refine Z8h ?_ | refine Zbn (fun _ _ => rfl) ?_ | refine Zbo (fun _ _ => rfl) ?_ | refine Yq1 rfl ?_ | refine Yq2 rfl ?_))
    refine Z8v rfl (Z93 rfl (by omega) hx ?_)
    (repeat (first | refine st_q rfl rfl rfl ?_ | refine Z8v rfl (st_q rfl rfl rfl ?_) | refine Z8w rfl ?_ | refine Z8x rfl ?_ | (refine Z8y ?_; (repeat (first | refine Z9v rfl ?_ | refine Z9w ?_)); refine Z9u ?_) | refine awp_seq ?_ | refine Zbm (fun _ _ => rfl) ?_ | refine Z8h ?_ | refine Zbn (fun _ _ => rfl) ?_ | refine Zbo (fun _ _ => rfl) ?_ | refine Yq1 rfl ?_ | refine Yq2 rfl ?_))
    by_cases q2 : op > 8
    · rw [← bad (by rw [hom, decide_eq_false (by omega), Bool.false_and])]
      (rw [decide_eq_true (p := op > 8) (by omega)])
      (repeat (first | refine st_q rfl rfl rfl ?_ | refine Z8v rfl (st_q rfl rfl rfl ?_) | refine Z8w rfl ?_ | refine Z8x rfl ?_ | (refine Z8y ?_; (repeat (first | refine Z9v rfl ?_ | refine Z9w ?_)); refine Z9u ?_) | refine awp_seq ?_ | refine Zbm (fun _ _ => rfl) ?_ | refine Z8h ?_ | refine Zbn (fun _ _ => rfl) ?_ | refine Zbo (fun _ _ => rfl) ?_ | refine Yq1 rfl ?_ | refine Yq2 rfl ?_))
      refine Z8d ?_
      exact Yar rfl ⟨rfl, rfl⟩
    (rw [decide_eq_false (p := op > 8) (by omega)])
    rw [decide_eq_true (by omega), Bool.true_and] at hom
    (repeat (first | refine st_q rfl rfl rfl ?_ | refine Z8v rfl (st_q rfl rfl rfl ?_) | refine Z8w rfl ?_ | refine Z8x rfl ?_ | (refine Z8y ?_; (repeat (first | refine Z9v rfl ?_ | refine Z9w ?_)); refine Z9u ?_) | refine awp_seq ?_ | refine Zbm (fun _ _ => rfl) ?_ | refine Z8h ?_ | refine Zbn (fun _ _ => rfl) ?_ | refine Zbo (fun _ _ => rfl) ?_ | refine Yq1 rfl ?_ | refine Yq2 rfl ?_))
    refine Z93 rfl (by omega) hx ?_
    (repeat (first | refine st_q rfl rfl rfl ?_ | refine Z8v rfl (st_q rfl rfl rfl ?_) | refine Z8w rfl ?_ | refine Z8x rfl ?_ | (refine Z8y ?_; (repeat (first | refine Z9v rfl ?_ | refine Z9w ?_)); refine Z9u ?_) | refine awp_seq ?_ | refine Zbm (fun _ _ => rfl) ?_ | refine Z8h ?_ | refine Zbn (fun _ _ => rfl) ?_ | refine Zbo (fun _ _ => rfl) ?_ | refine Yq1 rfl ?_ | refine Yq2 rfl ?_))
    refine Z9k (by simp [Z0.cells, Z0.one]) fun b hb => ?_
    refine Z9a rfl Z8z rfl (by decide) (Yfi rfl) (fun h => by cases h) Z9b ?_
    (repeat (refine st_q rfl rfl rfl ?_))
    (refine Z8y ?_; (repeat (first | refine Z9v rfl ?_ | refine Z9w ?_)); refine Z9u ?_)
    refine Zb3 (d := 6) (cs := Zm6 tv) rfl ?_
    (refine Z9y (keep := [0, 1, 5, 6]) ?_; ((repeat (first | refine Z9v rfl ?_ | refine Z9w ?_)); refine Z9u ?_))
    (repeat (first | refine st_q rfl rfl rfl ?_ | refine Z8v rfl (st_q rfl rfl rfl ?_) | refine Z8w rfl ?_ | refine Z8x rfl ?_ | (refine Z8y ?_; (repeat (first | refine Z9v rfl ?_ | refine Z9w ?_)); refine Z9u ?_) | refine awp_seq ?_ | refine Zbm (fun _ _ => rfl) ?_ | refine Z8h ?_ | refine Zbn (fun _ _ => rfl) ?_ | refine Zbo (fun _ _ => rfl) ?_ | refine Yq1 rfl ?_ | refine Yq2 rfl ?_))
    refine Z93 rfl (by omega) hx ?_
    (repeat (first | refine st_q rfl rfl rfl ?_ | refine Z8v rfl (st_q rfl rfl rfl ?_) | refine Z8w rfl ?_ | refine Z8x rfl ?_ | (refine Z8y ?_; (repeat (first | refine Z9v rfl ?_ | refine Z9w ?_)); refine Z9u ?_) | refine awp_seq ?_ | refine Zbm (fun _ _ => rfl) ?_ | refine Z8h ?_ | refine Zbn (fun _ _ => rfl) ?_ | refine Zbo (fun _ _ => rfl) ?_ | refine Yq1 rfl ?_ | refine Yq2 rfl ?_))
    by_cases q7 : op ≥ 7
    · rw [if_pos q7] at hom
      (rw [decide_eq_true (p := op ≥ 7) (by omega)])
      (repeat (first | refine st_q rfl rfl rfl ?_ | refine Z8v rfl (st_q rfl rfl rfl ?_) | refine Z8w rfl ?_ | refine Z8x rfl ?_ | (refine Z8y ?_; (repeat (first | refine Z9v rfl ?_ | refine Z9w ?_)); refine Z9u ?_) | refine awp_seq ?_ | refine Zbm (fun _ _ => rfl) ?_ | refine Z8h ?_ | refine Zbn (fun _ _ => rfl) ?_ | refine Zbo (fun _ _ => rfl) ?_ | refine Yq1 rfl ?_ | refine Yq2 rfl ?_))
      cases hvn : tv.null with
      | true =>
        rw [hvn] at hom
        rw [← bad (by rw [hom]; rfl)]
        (repeat (first | refine st_q rfl rfl rfl ?_ | refine Z8v rfl (st_q rfl rfl rfl ?_) | refine Z8w rfl ?_ | refine Z8x rfl ?_ | (refine Z8y ?_; (repeat (first | refine Z9v rfl ?_ | refine Z9w ?_)); refine Z9u ?_) | refine awp_seq ?_ | refine Zbm (fun _ _ => rfl) ?_ | refine Z8h ?_ | refine Zbn (fun _ _ => rfl) ?_ | refine Zbo (fun _ _ => rfl) ?_ | refine Yq1 rfl ?_ | refine Yq2 rfl ?_))
        refine Z8d ?_
        exact Yar rfl ⟨rfl, rfl⟩
      | false =>
        rw [hvn] at hom
        (repeat (first | refine st_q rfl rfl rfl ?_ | refine Z8v rfl (st_q rfl rfl rfl ?_) | refine Z8w rfl ?_ | refine Z8x rfl ?_ | (refine Z8y ?_; (repeat (first | refine Z9v rfl ?_ | refine Z9w ?_)); refine Z9u ?_) | refine awp_seq ?_ | refine Zbm (fun _ _ => rfl) ?_ | refine Z8h ?_ | refine Zbn (fun _ _ => rfl) ?_ | refine Zbo (fun _ _ => rfl) ?_ | refine Yq1 rfl ?_ | refine Yq2 rfl ?_))
        refine Z8v rfl (Z9t rfl (Z1q.args (by (repeat (first | exact VRle.refl _ | exact Zc5 | refine Zc6 rfl rfl ?_ | refine Zc7 rfl ?_ | refine Zc4 ?_ ?_))) (hsm _)) ?_)
        cases hs : Z1az tv vl0 with
        | true =>
          (repeat (first | refine st_q rfl rfl rfl ?_ | refine Z8v rfl (st_q rfl rfl rfl ?_) | refine Z8w rfl ?_ | refine Z8x rfl ?_ | (refine Z8y ?_; (repeat (first | refine Z9v rfl ?_ | refine Z9w ?_)); refine Z9u ?_) | refine awp_seq ?_ | refine Zbm (fun _ _ => rfl) ?_ | refine Z8h ?_ | refine Zbn (fun _ _ => rfl) ?_ | refine Zbo (fun _ _ => rfl) ?_ | refine Yq1 rfl ?_ | refine Yq2 rfl ?_))
          (refine Z9y (keep := [0, 1, 5]) ?_; ((repeat (first | refine Z9v rfl ?_ | refine Z9w ?_)); refine Z9u ?_))
          exact next (by rw [hom, hs]; rfl) _
        | false =>
          rw [← bad (by rw [hom, hs]; rfl)]
          (repeat (first | refine st_q rfl rfl rfl ?_ | refine Z8v rfl (st_q rfl rfl rfl ?_) | refine Z8w rfl ?_ | refine Z8x rfl ?_ | (refine Z8y ?_; (repeat (first | refine Z9v rfl ?_ | refine Z9w ?_)); refine Z9u ?_) | refine awp_seq ?_ | refine Zbm (fun _ _ => rfl) ?_ | refine Z8h ?_ | refine Zbn (fun _ _ => rfl) ?_ | refine Zbo (fun _ _ => rfl) ?_ | refine Yq1 rfl ?_ | refine Yq2 rfl ?_))
          refine Z8d ?_
          exact Yar rfl ⟨rfl, rfl⟩
    rw [if_neg q7] at hom
    (rw [decide_eq_false (p := op ≥ 7) (by omega)])
    (repeat (first | refine st_q rfl rfl rfl ?_ | refine Z8v rfl (st_q rfl rfl rfl ?_) | refine Z8w rfl ?_ | refine Z8x rfl ?_ | (refine Z8y ?_; (repeat (first | refine Z9v rfl ?_ | refine Z9w ?_)); refine Z9u ?_) | refine awp_seq ?_ | refine Zbm (fun _ _ => rfl) ?_ | refine Z8h ?_ | refine Zbn (fun _ _ => rfl) ?_ | refine Zbo (fun _ _ => rfl) ?_ | refine Yq1 rfl ?_ | refine Yq2 rfl ?_))
    cases hvn : tv.null with
    | true =>
      rw [hvn] at hom
      rw [← bad (by rw [hom]; rfl)]
      (repeat (first | refine st_q rfl rfl rfl ?_ | refine Z8v rfl (st_q rfl rfl rfl ?_) | refine Z8w rfl ?_ | refine Z8x rfl ?_ | (refine Z8y ?_; (repeat (first | refine Z9v rfl ?_ | refine Z9w ?_)); refine Z9u ?_) | refine awp_seq ?_ | refine Zbm (fun _ _ => rfl) ?_ | refine Z8h ?_ | refine Zbn (fun _ _ => rfl) ?_ | refine Zbo (fun _ _ => rfl) ?_ | refine Yq1 rfl ?_ | refine Yq2 rfl ?_))
      refine Z8d ?_
      exact Yar rfl ⟨rfl, rfl⟩
    | false =>
      rw [hvn] at hom
      (repeat (first | refine st_q rfl rfl rfl ?_ | refine Z8v rfl (st_q rfl rfl rfl ?_) | refine Z8w rfl ?_ | refine Z8x rfl ?_ | (refine Z8y ?_; (repeat (first | refine Z9v rfl ?_ | refine Z9w ?_)); refine Z9u ?_) | refine awp_seq ?_ | refine Zbm (fun _ _ => rfl) ?_ | refine Z8h ?_ | refine Zbn (fun _ _ => rfl) ?_ | refine Zbo (fun _ _ => rfl) ?_ | refine Yq1 rfl ?_ | refine Yq2 rfl ?_))
      refine Z8v rfl (Z93 rfl (by omega) hx ?_)
      (repeat (first | refine st_q rfl rfl rfl ?_ | refine Z8v rfl (st_q rfl rfl rfl ?_) | refine Z8w rfl ?_ | refine Z8x rfl ?_ | (refine Z8y ?_; (repeat (first | refine Z9v rfl ?_ | refine Z9w ?_)); refine Z9u ?_) | refine awp_seq ?_ | refine Zbm (fun _ _ => rfl) ?_ | refine Z8h ?_ | refine Zbn (fun _ _ => rfl) ?_ | refine Zbo (fun _ _ => rfl) ?_ | refine Yq1 rfl ?_ | refine Yq2 rfl ?_))
      refine Z8v rfl (Z93 rfl k0 (Z1fm hn) ?_)
      rw [encR, Zm3]
      (repeat (first | refine st_q rfl rfl rfl ?_ | refine Z8v rfl (st_q rfl rfl rfl ?_) | refine Z8w rfl ?_ | refine Z8x rfl ?_ | (refine Z8y ?_; (repeat (first | refine Z9v rfl ?_ | refine Z9w ?_)); refine Z9u ?_) | refine awp_seq ?_ | refine Zbm (fun _ _ => rfl) ?_ | refine Z8h ?_ | refine Zbn (fun _ _ => rfl) ?_ | refine Zbo (fun _ _ => rfl) ?_ | refine Yq1 rfl ?_ | refine Yq2 rfl ?_))
      refine Z8v rfl (Z9t rfl (hchk _) ?_)
      (repeat (first | refine st_q rfl rfl rfl ?_ | refine Z8v rfl (st_q rfl rfl rfl ?_) | refine Z8w rfl ?_ | refine Z8x rfl ?_ | (refine Z8y ?_; (repeat (first | refine Z9v rfl ?_ | refine Z9w ?_)); refine Z9u ?_) | refine awp_seq ?_ | refine Zbm (fun _ _ => rfl) ?_ | refine Z8h ?_ | refine Zbn (fun _ _ => rfl) ?_ | refine Zbo (fun _ _ => rfl) ?_ | refine Yq1 rfl ?_ | refine Yq2 rfl ?_))
      by_cases hv0 : vchk n.t tv = 0
      · (rw [decide_eq_false (p := (vchk n.t tv : Int) ≠ 0) (by omega)])
        (repeat (first | refine st_q rfl rfl rfl ?_ | refine Z8v rfl (st_q rfl rfl rfl ?_) | refine Z8w rfl ?_ | refine Z8x rfl ?_ | (refine Z8y ?_; (repeat (first | refine Z9v rfl ?_ | refine Z9w ?_)); refine Z9u ?_) | refine awp_seq ?_ | refine Zbm (fun _ _ => rfl) ?_ | refine Z8h ?_ | refine Zbn (fun _ _ => rfl) ?_ | refine Zbo (fun _ _ => rfl) ?_ | refine Yq1 rfl ?_ | refine Yq2 rfl ?_))
        (refine Z9y (keep := [0, 1, 5]) ?_; ((repeat (first | refine Z9v rfl ?_ | refine Z9w ?_)); refine Z9u ?_))
        exact next (by rw [hom, decide_eq_true hv0]; rfl) _
      · (rw [decide_eq_true (p := (vchk n.t tv : Int) ≠ 0) (by omega)])
        rw [← bad (by rw [hom, decide_eq_false hv0]; rfl)]
        (repeat (first | refine st_q rfl rfl rfl ?_ | refine Z8v rfl (st_q rfl rfl rfl ?_) | refine Z8w rfl ?_ | refine Z8x rfl ?_ | (refine Z8y ?_; (repeat (first | refine Z9v rfl ?_ | refine Z9w ?_)); refine Z9u ?_) | refine awp_seq ?_ | refine Zbm (fun _ _ => rfl) ?_ | refine Z8h ?_ | refine Zbn (fun _ _ => rfl) ?_ | refine Zbo (fun _ _ => rfl) ?_ | refine Yq1 rfl ?_ | refine Yq2 rfl ?_))
        refine Z8d ?_
        exact Yar rfl ⟨rfl, rfl⟩
  · (repeat (first | refine st_q rfl rfl rfl ?_ | refine Z8v rfl (st_q rfl rfl rfl ?_) | refine Z8w rfl ?_ | refine Z8x rfl ?_ | (refine Z8y ?_; (repeat (first | refine Z9v rfl ?_ | refine Z9w ?_)); refine Z9u ?_) | refine awp_seq ?_ | refine Zbm (fun _ _ => rfl) ?_ | refine Z8h ?_ | refine Zbn (fun _ _ => rfl) ?_ | refine Zbo (fun _ _ => rfl) ?_ | refine Yq1 rfl ?_ | refine Yq2 rfl ?_))
    have e : p.drop i = [] := List.drop_eq_nil_of_le (by omega)
    rw [e, List.all_nil, if_pos rfl] at hM
    rw [← hM]
    refine Z8d ?_
    exact Yar rfl ⟨rfl, rfl⟩
theorem Z1ft : Try.prog.cellsOf 25 = 6 := by kernel_rfl
theorem Z1fu : Try.prog.cellsOf 38 = 5 := by kernel_rfl
theorem Z1fv : Try.prog.cellsOf 9 = 1 := by kernel_rfl
theorem Z1fw : Try.prog.cellsOf 5 = 1 := by kernel_rfl
theorem Z1fx {α : Type} {f : α → Z0} {p : α → Prop} : ∀ {xs : List Z0}, (∀ x ∈ xs, ∃ a, x = f a ∧ p a) → ∃ l : List α, xs = l.map f ∧ ∀ a ∈ l, p a := fun h => Zbl h
theorem Z1fy {t : TypeId} {a : Z0} (h : Has Try.prog t a) : (t = 25 → ∃ ty : Ty, a = encT ty) ∧ (t = 23 → ∃ ks : List Ty, a = .slc 6 (Zln ks) false) := by
  induction h with
  | bool h => exact ⟨fun e => (by subst e; rw [Try.underlying25] at h; cases h), fun e => (by subst e; rw [Try.underlying23] at h; cases h)⟩
  | int h _ => exact ⟨fun e => (by subst e; rw [Try.underlying25] at h; cases h), fun e => (by subst e; rw [Try.underlying23] at h; cases h)⟩
  | str h _ => exact ⟨fun e => (by subst e; rw [Try.underlying25] at h; cases h), fun e => (by subst e; rw [Try.underlying23] at h; cases h)⟩
  | @slc t e xs h hl hx ih =>
    refine ⟨fun e => (by subst e; rw [Try.underlying25] at h; cases h), fun e => ?_⟩
    subst e
    rw [Try.underlying23] at h
    simp only [Option.some.injEq, TypeDesc.slice.injEq] at h
    subst h
    obtain ⟨ks, rfl, _⟩ := Z1fx (f := encT) (p := fun _ => True) (fun x hm => by
      obtain ⟨ty, e⟩ := (ih x hm).1 rfl
      exact ⟨ty, e, trivial⟩)
    exact ⟨ks, by rw [Z1ft, Zlq]⟩
  | @agg t fs ys h hn hy ih =>
    refine ⟨fun e => ?_, fun e => (by subst e; rw [Try.underlying23] at h; cases h)⟩
    subst e
    rw [Try.underlying25] at h
    simp only [Option.some.injEq, TypeDesc.struct.injEq] at h
    subst h
    match ys, hn with
    | [y0, y1, y2, y3, y4, y5], _ =>
    obtain ⟨k, rfl, _⟩ := (hy 0 _ y0 rfl rfl).int_inv Try.underlying3
    obtain ⟨xs, rfl, _, hx⟩ := (hy 1 _ y1 rfl rfl).slc_inv Try.underlying22
    obtain ⟨ks, rfl⟩ := (ih 2 _ y2 rfl rfl).2 rfl
    obtain ⟨l, rfl, _⟩ := (hy 3 _ y3 rfl rfl).int_inv Try.underlying3
    obtain ⟨p, rfl, _⟩ := (hy 4 _ y4 rfl rfl).int_inv Try.underlying3
    obtain ⟨s, rfl, _⟩ := (hy 5 _ y5 rfl rfl).int_inv Try.underlying3
    obtain ⟨ns, rfl, _⟩ := Z1fx (f := Z0.str) (p := fun _ => True) (fun x hm => by
      obtain ⟨s, e, _⟩ := (hx x hm).str_inv Try.underlying9
      exact ⟨s, e, trivial⟩)
    refine ⟨.mk k ns ks l p s, ?_⟩
    rw [Z1fv, Zlp]
    rfl
theorem Z1fz {t : TypeId} {a : Z0} (h : Has Try.prog t a) : (t = 38 → ∃ v : Vl, a = encV v ∧ v.Fit) ∧ (t = 26 → ∃ vs : List Vl, a = .slc 5 (Zm5 vs) false ∧ (∀ v ∈ vs, v.Fit) ∧ vs.length ≤ 9223372036854775807) := by
  induction h with
  | bool h => exact ⟨fun e => (by subst e; rw [Try.underlying38] at h; cases h), fun e => (by subst e; rw [Try.underlying26] at h; cases h)⟩
  | int h _ => exact ⟨fun e => (by subst e; rw [Try.underlying38] at h; cases h), fun e => (by subst e; rw [Try.underlying26] at h; cases h)⟩
  | str h _ => exact ⟨fun e => (by subst e; rw [Try.underlying38] at h; cases h), fun e => (by subst e; rw [Try.underlying26] at h; cases h)⟩
  | @slc t e xs h hl hx ih =>
    refine ⟨fun e => (by subst e; rw [Try.underlying38] at h; cases h), fun e => ?_⟩
    subst e
    rw [Try.underlying26] at h
    simp only [Option.some.injEq, TypeDesc.slice.injEq] at h
    subst h
    obtain ⟨vs, rfl, hv⟩ := Z1fx (f := encV) (p := Vl.Fit) (fun x hm => (ih x hm).1 rfl)
    exact ⟨vs, by rw [Z1fu, Zm8], hv, by simpa [maxLen] using hl⟩
  | @agg t fs ys h hn hy ih =>
    refine ⟨fun e => ?_, fun e => (by subst e; rw [Try.underlying26] at h; cases h)⟩
    subst e
    rw [Try.underlying38] at h
    simp only [Option.some.injEq, TypeDesc.struct.injEq] at h
    subst h
    match ys, hn with
    | [y0, y1, y2, y3, y4], _ =>
    obtain ⟨nu, rfl⟩ := (hy 0 _ y0 rfl rfl).bool_inv Try.underlying4
    obtain ⟨i, rfl, w1⟩ := (hy 1 _ y1 rfl rfl).int_inv Try.underlying2
    obtain ⟨n, rfl, _⟩ := (hy 2 _ y2 rfl rfl).int_inv Try.underlying3
    obtain ⟨b, rfl, hb⟩ := (hy 3 _ y3 rfl rfl).bytes_inv Try.underlying36 Try.underlying5 Z1fw
    obtain ⟨ks, rfl, hk, hkl⟩ := (ih 4 _ y4 rfl rfl).2 rfl
    refine ⟨.mk nu i n b ks, ?_, .mk (Zbi w1) (by simpa [maxLen, Vl.b] using hb) hkl hk⟩
    rw [Zm7]
    rfl
def con (op : Int) : Int := if op = 1 then 2 else if op = 2 then 1 else if op = 3 then 6 else if op = 4 then 5 else if op = 5 then 4 else if op = 6 then 3 else if op = 7 then 8 else 7
def mt (l : List Nd) (row : Vl) (t : Tm) : Int := Z189 l row [t] 1
theorem Z1g0 {op : Int} (h : 1 ≤ op ∧ op ≤ 6) (c : Int) : Z17x (con op) c = !Z17x op c := by
  have h6 : op = 1 ∨ op = 2 ∨ op = 3 ∨ op = 4 ∨ op = 5 ∨ op = 6 := by omega
  have key : ∀ (p q : Prop) [Decidable p] [Decidable q], (p ↔ ¬ q) → decide p = !decide q := by
    intro p q _ _ h
    by_cases hq : q
    · rw [decide_eq_true hq, decide_eq_false (fun hp => h.1 hp hq)]; rfl
    · rw [decide_eq_false hq, decide_eq_true (h.2 hq)]; rfl
  rcases h6 with rfl | rfl | rfl | rfl | rfl | rfl
  · exact key (c ≠ 0) (c = 0) (by omega)
  · exact key (c = 0) (c ≠ 0) (by omega)
  · exact key (c ≥ 0) (c < 0) (by omega)
  · exact key (c > 0) (c ≤ 0) (by omega)
  · exact key (c ≤ 0) (c > 0) (by omega)
  · exact key (c < 0) (c ≥ 0) (by omega)
theorem mt_eq {l : List Nd} {row : Vl} {t : Tm} {n : Nd} (hg : goodF l t.col = true) (hn : l[t.col.toNat]? = some n) : mt l row t =
    (if t.op = 7 then (if (getF l (t.col.toNat + 1) t.col row).null = true then 1 else 0) else if t.op = 8 then (if (getF l (t.col.toNat + 1) t.col row).null = true then 0 else 1)
    else if (getF l (t.col.toNat + 1) t.col row).null = true then 2 else if Z17x t.op (cmpV n.t.kind (getF l (t.col.toNat + 1) t.col row) t.v).1 = true then 1 else 0) := by
  rw [mt, Z189, if_neg (by rw [hg]; simp), hn]
  simp only [Z189]
theorem Z1g1 {l : List Nd} {row : Vl} {t : Tm} {n : Nd} (hg : goodF l t.col = true) (hn : l[t.col.toNat]? = some n) (ts : List Tm) (out : Int) : Z189 l row (t :: ts) out =
    if mt l row t = 0 then 0 else Z189 l row ts (if mt l row t = 2 then 2 else out) := by
  rw [mt_eq hg hn, Z189, if_neg (by rw [hg]; simp), hn]
  simp only
  cases hv : (getF l (t.col.toNat + 1) t.col row).null <;> by_cases h7 : t.op = 7 <;> by_cases h8 : t.op = 8 <;> cases hh : Z17x t.op (cmpV n.t.kind (getF l (t.col.toNat + 1) t.col row) t.v).1 <;> simp [h7, h8] <;> omega
theorem Z1g2 {l : List Nd} {row : Vl} {c op : Int} {v : Vl} (hop : 1 ≤ op ∧ op ≤ 8) {n : Nd} (hg : goodF l c = true) (hn : l[c.toNat]? = some n) :
    (mt l row ⟨c, op, v⟩ = 1 ∧ mt l row ⟨c, con op, v⟩ = 0) ∨ (mt l row ⟨c, op, v⟩ = 0 ∧ mt l row ⟨c, con op, v⟩ = 1) ∨ (mt l row ⟨c, op, v⟩ = 2 ∧ mt l row ⟨c, con op, v⟩ = 2) := by
  have e1 := mt_eq (row := row) (t := ⟨c, op, v⟩) hg hn
  have e2 := mt_eq (row := row) (t := ⟨c, con op, v⟩) hg hn
  simp only at e1 e2
  rw [e1, e2]
  generalize getF l (c.toNat + 1) c row = w
  by_cases h7 : op = 7
  · subst h7
    cases w.null <;> simp [con]
  by_cases h8 : op = 8
  · subst h8
    cases w.null <;> simp [con]
  have h6 : 1 ≤ op ∧ op ≤ 6 := by omega
  have hc7 : con op ≠ 7 ∧ con op ≠ 8 := by
    have : op = 1 ∨ op = 2 ∨ op = 3 ∨ op = 4 ∨ op = 5 ∨ op = 6 := by omega
    rcases this with rfl | rfl | rfl | rfl | rfl | rfl <;> decide
  rw [if_neg h7, if_neg h8, if_neg hc7.1, if_neg hc7.2, Z1g0 h6]
  cases w.null <;> cases Z17x op (cmpV n.t.kind w v).1 <;> simp
theorem Z1g3 {l : List Nd} {row : Vl} : ∀ (ts : List Tm) (out : Int), (∀ t ∈ ts, goodF l t.col = true ∧ 1 ≤ t.op ∧ t.op ≤ 8) → out = 1 ∨ out = 2 →
    decide (Z189 l row ts out = 0) = ts.any (fun t => decide (mt l row t = 0)) ∧ decide (Z189 l row ts out = 1) = (decide (out = 1) && ts.all fun t => decide (mt l row t = 1))
  | [], out, _, ho => by
    rcases ho with rfl | rfl <;> exact ⟨rfl, rfl⟩
  | t :: ts, out, h, ho => by
    obtain ⟨hg, hop⟩ := h t (by simp)
    obtain ⟨k0, k1⟩ := Z181 hg
    obtain ⟨n, hn⟩ : ∃ n, l[t.col.toNat]? = some n := ⟨_, List.getElem?_eq_getElem (by omega)⟩
    obtain ⟨c, op, v⟩ := t
    have hm := Z1g2 (row := row) (v := v) hop hg hn
    rw [Z1g1 hg hn, List.any_cons, List.all_cons]
    have ih1 := Z1g3 (row := row) ts 1 (fun t ht => h t (by simp [ht])) (.inl rfl)
    have ih2 := Z1g3 (row := row) ts 2 (fun t ht => h t (by simp [ht])) (.inr rfl)
    rcases hm with ⟨hm, _⟩ | ⟨hm, _⟩ | ⟨hm, _⟩
    · rw [hm, if_neg (by decide), if_neg (by decide)]
      rcases ho with rfl | rfl
      · simpa using ih1
      · simpa using ih2
    · rw [hm, if_pos rfl]
      simp
    · rw [hm, if_neg (by decide), if_pos rfl]
      obtain ⟨a, b⟩ := ih2
      rw [a, b]
      simp
theorem Z1g4 {l : List Nd} {row : Vl} {c op : Int} {v : Vl} (hop : 1 ≤ op ∧ op ≤ 8) (hg : goodF l c = true) :
    (mt l row ⟨c, op, v⟩ = 1 ∧ mt l row ⟨c, con op, v⟩ = 0) ∨ (mt l row ⟨c, op, v⟩ = 0 ∧ mt l row ⟨c, con op, v⟩ = 1) ∨ (mt l row ⟨c, op, v⟩ = 2 ∧ mt l row ⟨c, con op, v⟩ = 2) := by
  obtain ⟨k0, k1⟩ := Z181 hg
  exact Z1g2 hop hg (n := l[c.toNat]) (List.getElem?_eq_getElem (by omega))
theorem Z1g5 {l : List Nd} {p : List Tm} (h : Z1fr l p = 0) : ∀ t ∈ p, goodF l t.col = true ∧ 1 ≤ t.op ∧ t.op ≤ 8 := by
  intro t ht
  rw [Z1fr] at h
  split at h
  · cases h
  · split at h
    · rename_i h2
      have := List.all_eq_true.1 h2 t ht
      simp only [okR, Bool.and_eq_true, decide_eq_true_eq] at this
      exact ⟨this.1, this.2.1⟩
    · cases h
theorem Z1g6 {op : Int} (h : 1 ≤ op ∧ op ≤ 8) : ([.int .i64 0, .int .i64 2, .int .i64 1, .int .i64 6, .int .i64 5, .int .i64 4, .int .i64 3, .int .i64 8, .int .i64 7] : List Z0)[op.toNat]? = some (.int .i64 (con op)) := by
  have : op = 1 ∨ op = 2 ∨ op = 3 ∨ op = 4 ∨ op = 5 ∨ op = 6 ∨ op = 7 ∨ op = 8 := by omega
  rcases this with rfl | rfl | rfl | rfl | rfl | rfl | rfl | rfl <;> rfl
theorem Z1g7 {t : Ty} {rows : List Vl} (h : few15 t rows = true) : t.Fit ∧ rows.length ≤ 200 := by
  unfold few15 at h
  simp only [Bool.and_eq_true, decide_eq_true_eq] at h
  exact ⟨(Z1ff t 1 (by omega)).fit, h.2.1⟩
theorem Z1g8 (t : Ty) (p : List Tm) (row : Vl) (hp : ∀ t ∈ p, t.v.Fit) (hrow : row.Fit) (σ : Zc) : Z1q Try.prog Zce [encT t, .slc 7 (p.map encM) false, encV row] σ fun r σ' => r = .bool true ∧ σ' = σ := by
  have hpl : (p.map encM).length = p.length := List.length_map ..
  have hrv := Zm7 row
  have hFew := Z1fl t [row] true
  have hFp := Z1fq p false
  rw [Zlp] at hFew ⊢
  rw [hrv]
  simp only [Zm5, hrv] at hFew
  refine Z8t rfl Z1ex (Nat.le_of_ble_eq_true rfl) ?_
  refine Z9z ?_
  refine Z9j rfl (Yfi rfl) fun b3 hb3 => ?_
  refine Z9j rfl (Yfi rfl) fun b5 hb5 => ?_
  (repeat (refine st_q rfl rfl rfl ?_))
  (refine Z8y ?_; (repeat (first | refine Z9v rfl ?_ | refine Z9w ?_)); refine Z9u ?_)
  refine Zb3 (d := 5) (cs := Zm6 row) rfl ?_
  (refine Z9y (keep := [1, 3, 5]) ?_; ((repeat (first | refine Z9v rfl ?_ | refine Z9w ?_)); refine Z9u ?_))
  refine Zb3 (d := 3) (cs := Zlo t) rfl ?_
  (refine Z9y (keep := [1, 3, 5]) ?_; ((repeat (first | refine Z9v rfl ?_ | refine Z9w ?_)); refine Z9u ?_))
  (repeat (first | refine st_q rfl rfl rfl ?_ | refine Z8v rfl (st_q rfl rfl rfl ?_) | refine Z8w rfl ?_ | refine Z8x rfl ?_ | (refine Z8y ?_; (repeat (first | refine Z9v rfl ?_ | refine Z9w ?_)); refine Z9u ?_) | refine awp_seq ?_ | refine Zbm (fun _ _ => rfl) ?_ | refine Z8h ?_ | refine Zbn (fun _ _ => rfl) ?_ | refine Zbo (fun _ _ => rfl) ?_ | refine Yq1 rfl ?_ | refine Yq2 rfl ?_))
  refine Z9t rfl (Z19o _) ?_
  (repeat (first | refine st_q rfl rfl rfl ?_ | refine Z8v rfl (st_q rfl rfl rfl ?_) | refine Z8w rfl ?_ | refine Z8x rfl ?_ | (refine Z8y ?_; (repeat (first | refine Z9v rfl ?_ | refine Z9w ?_)); refine Z9u ?_) | refine awp_seq ?_ | refine Zbm (fun _ _ => rfl) ?_ | refine Z8h ?_ | refine Zbn (fun _ _ => rfl) ?_ | refine Zbo (fun _ _ => rfl) ?_ | refine Yq1 rfl ?_ | refine Yq2 rfl ?_))
  refine Z9t rfl (hFew _) ?_
  have hret : ∀ (X : Z2b) (F : Z26), AWp Try.prog Z1cd.n (.seq (.region Z1bt [6]) .ret) (Z8e Try.prog Z1cd.n X (ARet Z1cd.res fun r σ' => r = .bool true ∧ σ' = σ)) F σ := fun X F => by
    refine Z9z ?_
    (repeat (refine st_q rfl rfl rfl ?_))
    (refine Z8y ?_; (repeat (first | refine Z9v rfl ?_ | refine Z9w ?_)); refine Z9u ?_)
    refine Z8d ?_
    exact Yar rfl ⟨rfl, rfl⟩
  cases hfw : few15 t [row] with
  | false =>
    (repeat (first | refine st_q rfl rfl rfl ?_ | refine Z8v rfl (st_q rfl rfl rfl ?_) | refine Z8w rfl ?_ | refine Z8x rfl ?_))
    (refine Z8y ?_; (repeat (first | refine Z9v rfl ?_ | refine Z9w ?_)); refine Z9u ?_)
    exact Z8f rfl (fun _ => hret _ _) (fun e => by cases e)
  | true =>
  obtain ⟨hfit, _⟩ := Z1g7 hfw
  have hRC := Zn4 t hfit
  have hRF := Zno t (Zn4 t hfit)
  have hFl := Znk t hfit
  rw [Zlp] at hRC hRF hFl
  (repeat (first | refine st_q rfl rfl rfl ?_ | refine Z8v rfl (st_q rfl rfl rfl ?_) | refine Z8w rfl ?_ | refine Z8x rfl ?_))
  refine Z8v rfl (Z9t rfl (hFp _) ?_)
  cases hfp : few25 p with
  | false =>
    (repeat (first | refine st_q rfl rfl rfl ?_ | refine Z8v rfl (st_q rfl rfl rfl ?_) | refine Z8w rfl ?_ | refine Z8x rfl ?_))
    (refine Z8y ?_; (repeat (first | refine Z9v rfl ?_ | refine Z9w ?_)); refine Z9u ?_)
    exact Z8f rfl (fun _ => hret _ _) (fun e => by cases e)
  | true =>
  have hp20 : p.length ≤ 20 := by
    rw [few25] at hfp
    split at hfp
    · cases hfp
    · omega
  (repeat (first | refine st_q rfl rfl rfl ?_ | refine Z8v rfl (st_q rfl rfl rfl ?_) | refine Z8w rfl ?_ | refine Z8x rfl ?_))
  refine Z8v rfl (Z9t rfl (hRC _) ?_)
  by_cases hck : Zlx t = 0
  rotate_left
  · (repeat (first | refine st_q rfl rfl rfl ?_ | refine Z8v rfl (st_q rfl rfl rfl ?_) | refine Z8w rfl ?_ | refine Z8x rfl ?_))
    (rw [decide_eq_true (p := (Zlx t : Int) ≠ 0) (by omega)])
    (repeat (first | refine st_q rfl rfl rfl ?_ | refine Z8v rfl (st_q rfl rfl rfl ?_) | refine Z8w rfl ?_ | refine Z8x rfl ?_))
    (refine Z8y ?_; (repeat (first | refine Z9v rfl ?_ | refine Z9w ?_)); refine Z9u ?_)
    exact Z8f rfl (fun _ => hret _ _) (fun e => by cases e)
  have hVC := Ztz row hrow t (Ztu t 1 0 hck)
  rw [Zlp, hrv] at hVC
  (repeat (first | refine st_q rfl rfl rfl ?_ | refine Z8v rfl (st_q rfl rfl rfl ?_) | refine Z8w rfl ?_ | refine Z8x rfl ?_))
  (rw [decide_eq_false (p := (Zlx t : Int) ≠ 0) (by omega)])
  (repeat (first | refine st_q rfl rfl rfl ?_ | refine Z8v rfl (st_q rfl rfl rfl ?_) | refine Z8w rfl ?_ | refine Z8x rfl ?_))
  refine Z8v rfl (Z9t rfl (hVC _) ?_)
  by_cases hvk : vchk t row = 0
  rotate_left
  · (repeat (first | refine st_q rfl rfl rfl ?_ | refine Z8v rfl (st_q rfl rfl rfl ?_) | refine Z8w rfl ?_ | refine Z8x rfl ?_))
    (rw [decide_eq_true (p := (vchk t row : Int) ≠ 0) (by omega)])
    (repeat (first | refine st_q rfl rfl rfl ?_ | refine Z8v rfl (st_q rfl rfl rfl ?_) | refine Z8w rfl ?_ | refine Z8x rfl ?_))
    (refine Z8y ?_; (repeat (first | refine Z9v rfl ?_ | refine Z9w ?_)); refine Z9u ?_)
    exact Z8f rfl (fun _ => hret _ _) (fun e => by cases e)
  (repeat (first | refine st_q rfl rfl rfl ?_ | refine Z8v rfl (st_q rfl rfl rfl ?_) | refine Z8w rfl ?_ | refine Z8x rfl ?_))
  (rw [decide_eq_false (p := (vchk t row : Int) ≠ 0) (by omega)])
  (repeat (first | refine st_q rfl rfl rfl ?_ | refine Z8v rfl (st_q rfl rfl rfl ?_) | refine Z8w rfl ?_ | refine Z8x rfl ?_))
  cases hrn : row.null with
  | true =>
    (repeat (first | refine st_q rfl rfl rfl ?_ | refine Z8v rfl (st_q rfl rfl rfl ?_) | refine Z8w rfl ?_ | refine Z8x rfl ?_))
    (refine Z8y ?_; (repeat (first | refine Z9v rfl ?_ | refine Z9w ?_)); refine Z9u ?_)
    exact Z8f rfl (fun _ => hret _ _) (fun e => by cases e)
  | false =>
  (repeat (first | refine st_q rfl rfl rfl ?_ | refine Z8v rfl (st_q rfl rfl rfl ?_) | refine Z8w rfl ?_ | refine Z8x rfl ?_))
  (refine Z8y ?_; (repeat (first | refine Z9v rfl ?_ | refine Z9w ?_)); refine Z9u ?_)
  refine Yq2 rfl ?_
  refine Za4 ?_
  have hw := Z1f9 t
  have hRK := Z1fs (Zm4 t) hw (Z1fa t) false false p hp
  generalize Zm4 t = l at hRF hFl hw hRK
  (repeat (first | refine st_q rfl rfl rfl ?_ | refine Z8v rfl (st_q rfl rfl rfl ?_) | refine Z8w rfl ?_ | refine Z8x rfl ?_ | (refine Z8y ?_; (repeat (first | refine Z9v rfl ?_ | refine Z9w ?_)); refine Z9u ?_) | refine awp_seq ?_ | refine Zbm (fun _ _ => rfl) ?_ | refine Z8h ?_ | refine Zbn (fun _ _ => rfl) ?_ | refine Zbo (fun _ _ => rfl) ?_ | refine Yq1 rfl ?_ | refine Yq2 rfl ?_))
  refine Z9t rfl (hFl _) ?_
  (repeat (first | refine st_q rfl rfl rfl ?_ | refine Z8v rfl (st_q rfl rfl rfl ?_) | refine Z8w rfl ?_ | refine Z8x rfl ?_ | (refine Z8y ?_; (repeat (first | refine Z9v rfl ?_ | refine Z9w ?_)); refine Z9u ?_) | refine awp_seq ?_ | refine Zbm (fun _ _ => rfl) ?_ | refine Z8h ?_ | refine Zbn (fun _ _ => rfl) ?_ | refine Zbo (fun _ _ => rfl) ?_ | refine Yq1 rfl ?_ | refine Yq2 rfl ?_))
  refine Z9t rfl (hRF _) ?_
  (repeat (first | refine st_q rfl rfl rfl ?_ | refine Z8v rfl (st_q rfl rfl rfl ?_) | refine Z8w rfl ?_ | refine Z8x rfl ?_ | (refine Z8y ?_; (repeat (first | refine Z9v rfl ?_ | refine Z9w ?_)); refine Z9u ?_) | refine awp_seq ?_ | refine Zbm (fun _ _ => rfl) ?_ | refine Z8h ?_ | refine Zbn (fun _ _ => rfl) ?_ | refine Zbo (fun _ _ => rfl) ?_ | refine Yq1 rfl ?_ | refine Yq2 rfl ?_))
  refine Z9t rfl (Z1fp p (by omega) false _) ?_
  refine Z9t rfl (hRK _) ?_
  by_cases hkr : Z1fr l p = 0
  rotate_left
  · (repeat (first | refine st_q rfl rfl rfl ?_ | refine Z8v rfl (st_q rfl rfl rfl ?_) | refine Z8w rfl ?_ | refine Z8x rfl ?_))
    (rw [decide_eq_true (p := (Z1fr l p : Int) ≠ 0) (by omega)])
    (repeat (first | refine st_q rfl rfl rfl ?_ | refine Z8v rfl (st_q rfl rfl rfl ?_) | refine Z8w rfl ?_ | refine Z8x rfl ?_ | (refine Z8y ?_; (repeat (first | refine Z9v rfl ?_ | refine Z9w ?_)); refine Z9u ?_) | refine awp_seq ?_ | refine Zbm (fun _ _ => rfl) ?_ | refine Z8h ?_ | refine Zbn (fun _ _ => rfl) ?_ | refine Zbo (fun _ _ => rfl) ?_ | refine Yq1 rfl ?_ | refine Yq2 rfl ?_))
    refine Z8d ?_
    exact Yar rfl ⟨rfl, rfl⟩
  (repeat (first | refine st_q rfl rfl rfl ?_ | refine Z8v rfl (st_q rfl rfl rfl ?_) | refine Z8w rfl ?_ | refine Z8x rfl ?_))
  (rw [decide_eq_false (p := (Z1fr l p : Int) ≠ 0) (by omega)])
  have hgood := Z1g5 hkr
  (repeat (first | refine st_q rfl rfl rfl ?_ | refine Z8v rfl (st_q rfl rfl rfl ?_) | refine Z8w rfl ?_ | refine Z8x rfl ?_ | (refine Z8y ?_; (repeat (first | refine Z9v rfl ?_ | refine Z9w ?_)); refine Z9u ?_) | refine awp_seq ?_ | refine Zbm (fun _ _ => rfl) ?_ | refine Z8h ?_ | refine Zbn (fun _ _ => rfl) ?_ | refine Zbo (fun _ _ => rfl) ?_ | refine Yq1 rfl ?_ | refine Yq2 rfl ?_))
  have hAll := Z1g3 (l := l) (row := row) p 1 hgood (.inl rfl)
  have hM0 := Z18a l hw true false p (by omega) row
  rw [hrv] at hM0
  obtain ⟨I, hI⟩ : ∃ I : Nat → Z26 → Zc → Prop, I = fun m F σ' => ∃ i : Nat, F = fset 1 (some (.slc 7 (p.map encM) false)) (fset 5 (some (.iptr (Zm6 row))) (fset 7 (some (.slc 8 (l.map encN) true)) (fset 8 (some (.bool ((p.take i).all fun t => decide (mt l row t = 1)))) (fset 9 (some (.bool ((p.take i).any fun t => decide (mt l row t = 0)))) (fset 10 (some (.int .i64 i)) Z27))))) ∧ σ = σ' ∧ i ≤ p.length ∧ m = p.length - i := ⟨_, rfl⟩
  refine Zaa I (n := p.length) (by rw [hI]; exact ⟨0, rfl, rfl, by omega, by omega⟩) ?_
  intro m F σ' hIm
  rw [hI] at hIm
  obtain ⟨i, rfl, rfl, hi, rfl⟩ := hIm
  (repeat (first | refine st_q rfl rfl rfl ?_ | refine Z8v rfl (st_q rfl rfl rfl ?_) | refine Z8w rfl ?_ | refine Z8x rfl ?_ | (refine Z8y ?_; (repeat (first | refine Z9v rfl ?_ | refine Z9w ?_)); refine Z9u ?_) | refine awp_seq ?_ | refine Zbm (fun _ _ => rfl) ?_ | refine Z8h ?_ | refine Zbn (fun _ _ => rfl) ?_ | refine Zbo (fun _ _ => rfl) ?_ | refine Yq1 rfl ?_ | refine Yq2 rfl ?_))
  rw [hpl]
  refine Za3 (p := (i : Int) < (p.length : Int)) rfl (fun h3 => ?_) (fun h3 => ?_)
  · have hil : i < p.length := by omega
    have hti : p[i]? = some p[i] := List.getElem?_eq_getElem hil
    have hx := Z187 (i := (i : Int)) (show p[(i : Int).toNat]? = some p[i] from hti)
    obtain ⟨hgd, hop⟩ := hgood p[i] (List.getElem_mem hil)
    have htk : p.take (i + 1) = p.take i ++ [p[i]] := by rw [List.take_add_one, hti]; rfl
    have hsl : ((p.map encM).drop (i : Int).toNat).take (((i + 1 : Nat) : Int) - (i : Int)).toNat = [encM p[i]] := by
      rw [Int.toNat_natCast, show (((i + 1 : Nat) : Int) - (i : Int)).toNat = 1 by omega, ← List.map_drop, List.drop_eq_getElem_cons hil]
      rfl
    have hya : (p.take (i + 1)).all (fun t => decide (mt l row t = 1)) = ((p.take i).all (fun t => decide (mt l row t = 1)) && decide (mt l row p[i] = 1)) := by rw [htk, List.all_append, List.all_cons, List.all_nil, Bool.and_true]
    have hno : (p.take (i + 1)).any (fun t => decide (mt l row t = 0)) = ((p.take i).any (fun t => decide (mt l row t = 0)) || decide (mt l row p[i] = 0)) := by rw [htk, List.any_append, List.any_cons, List.any_nil, Bool.or_false]
    generalize p[i] = u at hx hgd hop hsl hya hno
    obtain ⟨tc, op, tv⟩ := u
    simp only at hgd hop
    have hM1 := Z18a l hw true false [⟨tc, op, tv⟩] (by simp) row
    have hM2 := Z18a l hw true true [⟨tc, con op, tv⟩] (by simp) row
    have hm1 : Z189 l row [⟨tc, op, tv⟩] 1 = mt l row ⟨tc, op, tv⟩ := rfl
    have hm2 : Z189 l row [⟨tc, con op, tv⟩] 1 = mt l row ⟨tc, con op, tv⟩ := rfl
    rw [hm1, hrv] at hM1
    rw [hm2, hrv] at hM2
    have hcs := Z1g4 (row := row) (v := tv) hop hgd
    have e1 : IntKind.wrap .i64 ((i : Int) + 1) = ((i + 1 : Nat) : Int) := by rw [w64 _ (by omega) (by omega)]; omega
    have next : ∀ y z : Bool, y = (p.take (i + 1)).all (fun t => decide (mt l row t = 1)) → z = (p.take (i + 1)).any (fun t => decide (mt l row t = 0)) → ∀ Q : Z87, AWp Try.prog Z1cd.n (.region Z1c9 [1, 5, 7, 8, 9, 10]) (Za9 I (p.length - i) Q)
        (fset 1 (some (.slc 7 (p.map encM) false)) (fset 5 (some (.iptr (Zm6 row))) (fset 7 (some (.slc 8 (l.map encN) true)) (fset 8 (some (.bool y)) (fset 9 (some (.bool z)) (fset 10 (some (.int .i64 i)) Z27)))))) σ := by
      rintro y z rfl rfl Q
      refine Zbp ?_
      (repeat (refine st_q rfl rfl rfl ?_))
      rw [e1]
      (repeat (refine st_q rfl rfl rfl ?_))
      (refine Z8y ?_; (repeat (first | refine Z9v rfl ?_ | refine Z9w ?_)); refine Z9u ?_)
      refine ⟨_, p.length - (i + 1), HSub.refl _, ?_, by omega⟩
      rw [hI]
      exact ⟨i + 1, rfl, rfl, by omega, rfl⟩
    rw [encM, Z17q, Zm6] at hx hsl
    simp only at hx hsl
    generalize (p.take i).all (fun t => decide (mt l row t = 1)) = Y at hya ⊢
    generalize (p.take i).any (fun t => decide (mt l row t = 0)) = Z at hno ⊢
    (repeat (first | refine st_q rfl rfl rfl ?_ | refine Z8v rfl (st_q rfl rfl rfl ?_) | refine Z8w rfl ?_ | refine Z8x rfl ?_ | (refine Z8y ?_; (repeat (first | refine Z9v rfl ?_ | refine Z9w ?_)); refine Z9u ?_) | refine awp_seq ?_ | refine Zbm (fun _ _ => rfl) ?_ | refine Z8h ?_ | refine Zbn (fun _ _ => rfl) ?_ | refine Zbo (fun _ _ => rfl) ?_ | refine Yq1 rfl ?_ | refine Yq2 rfl ?_))
    rw [e1]
    refine Z99 (a := (i : Int)) (b := ((i + 1 : Nat) : Int)) rfl rfl (by rw [hpl]; omega) ?_
    rw [hsl]
    (repeat (first | refine st_q rfl rfl rfl ?_ | refine Z8v rfl (st_q rfl rfl rfl ?_) | refine Z8w rfl ?_ | refine Z8x rfl ?_ | (refine Z8y ?_; (repeat (first | refine Z9v rfl ?_ | refine Z9w ?_)); refine Z9u ?_) | refine awp_seq ?_ | refine Zbm (fun _ _ => rfl) ?_ | refine Z8h ?_ | refine Zbn (fun _ _ => rfl) ?_ | refine Zbo (fun _ _ => rfl) ?_ | refine Yq1 rfl ?_ | refine Yq2 rfl ?_))
    refine Z9t rfl (hM1 _) ?_
    rcases hcs with ⟨hk, hj⟩ | ⟨hk, hj⟩ | ⟨hk, hj⟩
    all_goals
      rw [hk] at hya hno ⊢
      rw [hj] at hM2
      cases Y <;> cases Z
      all_goals
        (repeat (first | refine st_q rfl rfl rfl ?_ | refine Z8v rfl (st_q rfl rfl rfl ?_) | refine Z8w rfl ?_ | refine Z8x rfl ?_ | (refine Z8y ?_; (repeat (first | refine Z9v rfl ?_ | refine Z9w ?_)); refine Z9u ?_) | refine awp_seq ?_ | refine Zbm (fun _ _ => rfl) ?_ | refine Z8h ?_ | refine Zbn (fun _ _ => rfl) ?_ | refine Zbo (fun _ _ => rfl) ?_ | refine Yq1 rfl ?_ | refine Yq2 rfl ?_))
        refine Z93 rfl (by omega) hx ?_
        (repeat (first | refine st_q rfl rfl rfl ?_ | refine Z8v rfl (st_q rfl rfl rfl ?_) | refine Z8w rfl ?_ | refine Z8x rfl ?_ | (refine Z8y ?_; (repeat (first | refine Z9v rfl ?_ | refine Z9w ?_)); refine Z9u ?_) | refine awp_seq ?_ | refine Zbm (fun _ _ => rfl) ?_ | refine Z8h ?_ | refine Zbn (fun _ _ => rfl) ?_ | refine Zbo (fun _ _ => rfl) ?_ | refine Yq1 rfl ?_ | refine Yq2 rfl ?_))
        refine Z9k (by simp [Z0.cells, Z0.one]) fun b hb => ?_
        refine Z9a rfl Z8z rfl (by decide) (Yfi rfl) (fun h => by cases h) Z9b ?_
        (repeat (refine st_q rfl rfl rfl ?_))
        (refine Z8y ?_; (repeat (first | refine Z9v rfl ?_ | refine Z9w ?_)); refine Z9u ?_)
        (repeat (first | refine st_q rfl rfl rfl ?_ | refine Z8v rfl (st_q rfl rfl rfl ?_) | refine Z8w rfl ?_ | refine Z8x rfl ?_ | (refine Z8y ?_; (repeat (first | refine Z9v rfl ?_ | refine Z9w ?_)); refine Z9u ?_) | refine awp_seq ?_ | refine Zbm (fun _ _ => rfl) ?_ | refine Z8h ?_ | refine Zbn (fun _ _ => rfl) ?_ | refine Zbo (fun _ _ => rfl) ?_ | refine Yq1 rfl ?_ | refine Yq2 rfl ?_))
        refine Z93 rfl (by omega) hx ?_
        (repeat (first | refine st_q rfl rfl rfl ?_ | refine Z8v rfl (st_q rfl rfl rfl ?_) | refine Z8w rfl ?_ | refine Z8x rfl ?_ | (refine Z8y ?_; (repeat (first | refine Z9v rfl ?_ | refine Z9w ?_)); refine Z9u ?_) | refine awp_seq ?_ | refine Zbm (fun _ _ => rfl) ?_ | refine Z8h ?_ | refine Zbn (fun _ _ => rfl) ?_ | refine Zbo (fun _ _ => rfl) ?_ | refine Yq1 rfl ?_ | refine Yq2 rfl ?_))
        refine Z93 rfl (by omega) (Z1g6 hop) ?_
        (repeat (first | refine st_q rfl rfl rfl ?_ | refine Z8v rfl (st_q rfl rfl rfl ?_) | refine Z8w rfl ?_ | refine Z8x rfl ?_ | (refine Z8y ?_; (repeat (first | refine Z9v rfl ?_ | refine Z9w ?_)); refine Z9u ?_) | refine awp_seq ?_ | refine Zbm (fun _ _ => rfl) ?_ | refine Z8h ?_ | refine Zbn (fun _ _ => rfl) ?_ | refine Zbo (fun _ _ => rfl) ?_ | refine Yq1 rfl ?_ | refine Yq2 rfl ?_))
        refine Z9a rfl Z8z rfl (by decide) (Yfi rfl) (fun h => by cases h) Z9b ?_
        (repeat (refine st_q rfl rfl rfl ?_))
        (refine Z8y ?_; (repeat (first | refine Z9v rfl ?_ | refine Z9w ?_)); refine Z9u ?_)
        refine Zby (Zbx.view (ys := [.agg (Z17q ⟨tc, con op, tv⟩)]) rfl rfl (by (repeat (first | exact VRle.refl _ | exact Zc5 | refine Zc6 rfl rfl ?_ | refine Zc7 rfl ?_ | refine Zc4 ?_ ?_)))) ?_
        refine Zb3 (d := 12) (cs := Z17q ⟨tc, con op, tv⟩) rfl ?_
        (refine Z9y (keep := [1, 5, 7, 8, 9, 10, 11, 12]) ?_; ((repeat (first | refine Z9v rfl ?_ | refine Z9w ?_)); refine Z9u ?_))
        (repeat (first | refine st_q rfl rfl rfl ?_ | refine Z8v rfl (st_q rfl rfl rfl ?_) | refine Z8w rfl ?_ | refine Z8x rfl ?_ | (refine Z8y ?_; (repeat (first | refine Z9v rfl ?_ | refine Z9w ?_)); refine Z9u ?_) | refine awp_seq ?_ | refine Zbm (fun _ _ => rfl) ?_ | refine Z8h ?_ | refine Zbn (fun _ _ => rfl) ?_ | refine Zbo (fun _ _ => rfl) ?_ | refine Yq1 rfl ?_ | refine Yq2 rfl ?_))
        refine Z9t rfl (hM2 _) ?_
        (repeat (first | refine st_q rfl rfl rfl ?_ | refine Z8v rfl (st_q rfl rfl rfl ?_) | refine Z8w rfl ?_ | refine Z8x rfl ?_ | (refine Z8y ?_; (repeat (first | refine Z9v rfl ?_ | refine Z9w ?_)); refine Z9u ?_) | refine awp_seq ?_ | refine Zbm (fun _ _ => rfl) ?_ | refine Z8h ?_ | refine Zbn (fun _ _ => rfl) ?_ | refine Zbo (fun _ _ => rfl) ?_ | refine Yq1 rfl ?_ | refine Yq2 rfl ?_))
        (refine Z9y (keep := [1, 5, 7, 8, 9, 10]) ?_; ((repeat (first | refine Z9v rfl ?_ | refine Z9w ?_)); refine Z9u ?_))
        exact next _ _ (by rw [hya]; rfl) (by rw [hno]; rfl) _
  · have e : p.take i = p := List.take_of_length_le (by omega)
    rw [e]
    obtain ⟨hA0, hA1⟩ := hAll
    rw [decide_eq_true (rfl : (1 : Int) = 1), Bool.true_and] at hA1
    rw [← hA0, ← hA1]
    generalize Z189 l row p 1 = k at hM0 ⊢
    (repeat (first | refine st_q rfl rfl rfl ?_ | refine Z8v rfl (st_q rfl rfl rfl ?_) | refine Z8w rfl ?_ | refine Z8x rfl ?_ | (refine Z8y ?_; (repeat (first | refine Z9v rfl ?_ | refine Z9w ?_)); refine Z9u ?_) | refine awp_seq ?_ | refine Zbm (fun _ _ => rfl) ?_ | refine Z8h ?_ | refine Zbn (fun _ _ => rfl) ?_ | refine Zbo (fun _ _ => rfl) ?_ | refine Yq1 rfl ?_ | refine Yq2 rfl ?_))
    refine Z9t rfl (hM0 _) ?_
    cases hk1 : decide (k = 1) <;> cases hk0 : decide (k = 0)
    all_goals
      (repeat (first | refine st_q rfl rfl rfl ?_ | refine Z8v rfl (st_q rfl rfl rfl ?_) | refine Z8w rfl ?_ | refine Z8x rfl ?_ | (refine Z8y ?_; (repeat (first | refine Z9v rfl ?_ | refine Z9w ?_)); refine Z9u ?_) | refine awp_seq ?_ | refine Zbm (fun _ _ => rfl) ?_ | refine Z8h ?_ | refine Zbn (fun _ _ => rfl) ?_ | refine Zbo (fun _ _ => rfl) ?_ | refine Yq1 rfl ?_ | refine Yq2 rfl ?_))
      rw [hk1]
      (repeat (first | refine st_q rfl rfl rfl ?_ | refine Z8v rfl (st_q rfl rfl rfl ?_) | refine Z8w rfl ?_ | refine Z8x rfl ?_ | (refine Z8y ?_; (repeat (first | refine Z9v rfl ?_ | refine Z9w ?_)); refine Z9u ?_) | refine awp_seq ?_ | refine Zbm (fun _ _ => rfl) ?_ | refine Z8h ?_ | refine Zbn (fun _ _ => rfl) ?_ | refine Zbo (fun _ _ => rfl) ?_ | refine Yq1 rfl ?_ | refine Yq2 rfl ?_))
      first | (rw [hk0]; (repeat (first | refine st_q rfl rfl rfl ?_ | refine Z8v rfl (st_q rfl rfl rfl ?_) | refine Z8w rfl ?_ | refine Z8x rfl ?_ | (refine Z8y ?_; (repeat (first | refine Z9v rfl ?_ | refine Z9w ?_)); refine Z9u ?_) | refine awp_seq ?_ | refine Zbm (fun _ _ => rfl) ?_ | refine Z8h ?_ | refine Zbn (fun _ _ => rfl) ?_ | refine Zbo (fun _ _ => rfl) ?_ | refine Yq1 rfl ?_ | refine Yq2 rfl ?_))) | skip
      refine Z8d ?_
      exact Yar rfl ⟨rfl, rfl⟩
end Go.Abs

