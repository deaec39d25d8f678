/- Part C of a proof: merged by program. -/
import Derived.Test.YtgmefkhincnajaaProg
import Derived.WalkKit
import Derived.Maps.OwnSet
import Derived.Maps.AppendAt
import Derived.Test.YtgmefkhincnajaaPkB
import Derived.KernelRfl
namespace Go.Abs
def Zc7 : Nat := 2
def Zc8 : Nat := 3
def Zc9 : Nat := 4
def Zca : Nat := 5
def Zcb : Nat := 6
def Zcc : Nat := 7
def Zcd : Nat := 8
def Zce : Nat := 9
def Zcf : Nat := 10
def Zcg : Nat := 11
def Zch : Nat := 12
def Zci : Nat := 13
def Zcj : Nat := 14
def Zck : Nat := 15
def Zcl : Nat := 16
def Zcm : Nat := 17
def Zcn : Nat := 18
def Zco : Nat := 19
def Zcp : Nat := 20
def Zcq : Nat := 21
def Zcr : Nat := 22
def Zcs : Nat := 23
def Zct : Nat := 24
def Zcu : Nat := 25
def Zcv : Nat := 26
def Zcw : Nat := 27
def Zcx : Nat := 28
def Zcy : Nat := 29
def Zcz : Nat := 30
def Zd0 : Nat := 31
def Zd1 : Nat := 32
def Zd2 : Nat := 33
def Zd3 : Nat := 34
def Zd4 : Nat := 35
def Zd5 : Nat := 36
def Zd6 : Nat := 37
def Zd7 : Nat := 38
def Zd8 : Nat := 39
def Zd9 : Nat := 40
def Zda : Nat := 41
def Zdb : Nat := 42
def Zdc : Nat := 43
def Zdd : Nat := 44
def Zde : Nat := 45
def Zdf : Nat := 46
def Zdg : Nat := 47
def Zdh : Nat := 48
def Zdi : Nat := 49
def Zdj : Nat := 50
def Zdk : Nat := 51
def Zdl : Nat := 52
def Zdm : Nat := 53
def Zdn : Nat := 54
def Zdo : Nat := 55
def Zdp : Nat := 56
def Zdq : Nat := 57
def Zdr : Nat := 58
def Zds : Nat := 59
def Zdt : Nat := 60
def Zdu : Nat := 61
def Zdv : Nat := 62
def Zdw : Nat := 63
def Zdx : Nat := 64
def Zdy : Nat := 65
def Zdz : Nat := 66
def Ze0 : Nat := 67
def Ze1 : Nat := 68
def Ze2 : Nat := 69
def Ze3 : Nat := 70
def Ze4 : Nat := 71
def Ze5 : Nat := 72
def Ze6 : Nat := 73
def Ze7 : Nat := 74
def Ze8 : Nat := 75
def Ze9 : Nat := 76
def Zea : Nat := 77
def Zeb : Nat := 78
def Zec : Nat := 79
def Zed : Nat := 80
def Zee : Nat := 81
def Zef : Nat := 82
def Zeg : Nat := 83
def Zeh : Nat := 84
def Zei : Nat := 85
def Zej : Nat := 86
def Zek : Nat := 87
def Zel : Nat := 88
def Zem : Nat := 89
def Zen : Nat := 90
def Zeo : Nat := 91
def Zep : Nat := 92
def Zeq : Nat := 93
def Zer : Nat := 94
def Zes : Nat := 95
def Zet : Nat := 96
def Zeu : Nat := 97
def Zev : Nat := 98
def Zew : Nat := 99
def Zex : Nat := 100
def Zey : Nat := 101
def Zez : Nat := 102
def Zf0 : Nat := 103
def Zf1 : Nat := 104
def Zf2 : Nat := 105
def Zf3 : Nat := 106
def Zf4 : Nat := 107
def Zf5 : Nat := 108
def Zf6 : Nat := 109
def Zf7 : Nat := 110
def Zf8 : Nat := 111
def Zf9 : Nat := 112
def Zfa : Nat := 113
def Zfb : Nat := 114
def Zfc : Nat := 115
def Zfd : Nat := 116
def Zfe : Nat := 117
def Zff : Nat := 118
def Zfg : Nat := 119
def Zfh : Nat := 120
def Zfi : Nat := 121
def Zfj : Nat := 122
def Zfk : Nat := 123
def Zfl : Nat := 124
def Zfm : Nat := 125
def Zfn : Nat := 126
def Zfo : Nat := 127
def Zfp : Nat := 128
def Zfq : Nat := 129
def Zfr : Nat := 130
def Zfs : Nat := 131
def Zft : Nat := 132
def Zfu : Nat := 133
def Zfv : Nat := 134
def Zfw : Nat := 135
def Zfx : Nat := 136
def Zfy : Nat := 137
def Zfz : Nat := 138
def Zg0 : Nat := 139
def Zg1 : Nat := 140
def Zg2 : Nat := 141
def Zg3 : Nat := 142
def Zg4 : Nat := 143
def Zg5 : Nat := 144
def Zg6 : Nat := 146
def Zg7 : Nat := 147
def Zg8 : Nat := 148
def Zg9 : Nat := 149
def Zga : Nat := 150
def Zgb : Nat := 151
def Zgc : Nat := 152
def Zgd : Nat := 153
def Zge : Nat := 154
def Zgf : Nat := 155
def Zgg : Nat := 156
def Zgh : Nat := 157
end Go.Abs
namespace Go.Abs
open Go
def Zgi : List Z2a := [
  ⟨some 1, (.box 6), [.t 0], none⟩,
  ⟨some 2, .mov, [.c (.slc 0 [] true)], none⟩]
def Zgj : List Z2a := [
  ⟨some 3, (.load true 6), [.t 1], none⟩,
  ⟨some 4, (.call Zd6), [.t 3], none⟩,
  ⟨some 5, (.bin .neq), [.t 4, .c (.int .i64 0)], none⟩]
def Zgk : List Z2a := [
  ⟨some 2, .mov, [.c (.slc 0 [] true)], none⟩]
def Zgl : List Z2a := [
  ⟨some 6, (.load true 6), [.t 1], none⟩,
  ⟨some 7, (.call Ze0), [.c (.slc 0 [] true), .t 6, .c (.int .i64 (-1)), .c (.int .i64 1)], none⟩,
  ⟨some 2, .mov, [.t 7], none⟩]
def Zgm : Z2y := ⟨8, (.seq (.region Zgi [1]) (.seq (.seq (.region Zgj [1, 5]) (.cond (.t 5) (.seq (.region Zgk [2]) .ret) .skip)) (.seq (.region Zgl [2]) .ret))), [.t 2]⟩
def Zgn : List Z2a := [
  ⟨some 1, (.box 6), [.t 0], none⟩,
  ⟨some 2, .mov, [.c (.slc 0 [] true)], none⟩]
def Zgo : List Z2a := [
  ⟨some 3, (.load true 6), [.t 1], none⟩,
  ⟨some 4, (.call Ze1), [.t 3], none⟩,
  ⟨some 5, (.bin .neq), [.t 4, .c (.int .i64 0)], none⟩]
def Zgp : List Z2a := [
  ⟨some 2, .mov, [.c (.slc 0 [] true)], none⟩]
def Zgq : List Z2a := [
  ⟨some 6, (.load true 6), [.t 1], none⟩,
  ⟨some 7, (.call Ze3), [.c (.slc 0 [] true), .t 6, .c (.int .i64 (-1)), .c (.int .i64 1)], none⟩,
  ⟨some 8, (.call Ze2), [.t 7], none⟩,
  ⟨some 2, .mov, [.t 8], none⟩]
def Zgr : Z2y := ⟨9, (.seq (.region Zgn [1]) (.seq (.seq (.region Zgo [1, 5]) (.cond (.t 5) (.seq (.region Zgp [2]) .ret) .skip)) (.seq (.region Zgq [2]) .ret))), [.t 2]⟩
def Zgs : List Z2a := [
  ⟨some 1, (.box 6), [.t 0], none⟩,
  ⟨some 2, .mov, [.c (.int .i64 0)], none⟩]
def Zgt : List Z2a := [
  ⟨some 6, (.load true 6), [.t 1], none⟩,
  ⟨some 7, (.call Zee), [.t 6, .c (.int .i64 1), .c (.int .i64 0)], none⟩,
  ⟨some 5, .mov, [.t 7], none⟩,
  ⟨some 8, (.ext 0), [.t 5], none⟩,
  ⟨some 9, (.ext 1), [.t 5], none⟩,
  ⟨some 3, .mov, [.t 8], none⟩,
  ⟨some 4, .mov, [.t 9], none⟩]
def Zgu : List Z2a := [
  ⟨some 10, .mov, [.t 4], none⟩,
  ⟨some 2, .mov, [.t 10], none⟩]
def Zgv : Z2y := ⟨11, (.seq (.region Zgs [1]) (.seq (.region Zgt [4]) (.seq (.region Zgu [2]) .ret))), [.t 2]⟩
def Zgw : List Z2a := [
  ⟨some 5, (.box 6), [.t 1], none⟩,
  ⟨some 8, .mov, [.c (.slc 0 [] true)], none⟩]
def Zgx : List Z2a := [
  ⟨some 12, .mov, [.t 0], none⟩,
  ⟨some 13, .lens, [.t 12], none⟩,
  ⟨some 9, .mov, [.t 13], none⟩]
def Zgy : List Z2a := [
  ⟨some 14, .mov, [.t 0], none⟩,
  ⟨some 15, (.load true 6), [.t 5], none⟩,
  ⟨some 16, .mov, [.t 2], none⟩,
  ⟨some 17, .mov, [.t 3], none⟩,
  ⟨some 18, (.bld [(.int .i64 0), (.slc 0 [] true), (.slc 0 [] true), (.int .i64 0), (.int .i64 0), (.int .i64 0), (.slc 0 [] true), (.int .i64 0), (.int .i64 0)] [(0, 6), (7, 1), (8, 1)]), [.t 15, .t 16, .t 17], none⟩,
  ⟨some 19, (.bsl 9), [.t 18], none⟩,
  ⟨some 20, (.app 9 120), [.t 14, .t 19], none⟩,
  ⟨some 0, .mov, [.t 20], none⟩]
def Zgz : List Z2a := [
  ⟨some 10, .mov, [.c (.int .i64 0)], none⟩]
def Zh0 : List Z2a := [
  ⟨some 21, .mov, [.t 10], none⟩,
  ⟨some 22, (.fad 2), [.t 5], none⟩,
  ⟨some 23, (.load false 1), [.t 22], none⟩,
  ⟨some 24, .lens, [.t 23], none⟩,
  ⟨some 25, (.bin .lss), [.t 21, .t 24], none⟩]
def Zh1 : List Z2a := [
  ⟨some 28, .mov, [.t 0], none⟩,
  ⟨some 29, .lens, [.t 28], none⟩,
  ⟨some 11, .mov, [.t 29], none⟩]
def Zh2 : List Z2a := [
  ⟨some 30, .mov, [.t 0], none⟩,
  ⟨some 31, (.fad 2), [.t 5], none⟩,
  ⟨some 32, (.load false 1), [.t 31], none⟩,
  ⟨some 33, .mov, [.t 10], none⟩,
  ⟨some 34, (.iad 6), [.t 32, .t 33], none⟩,
  ⟨some 35, (.load true 6), [.t 34], none⟩,
  ⟨some 36, .mov, [.t 9], none⟩,
  ⟨some 37, .mov, [.t 3], none⟩,
  ⟨some 38, (.bin .add), [.t 37, .c (.int .i64 1)], none⟩,
  ⟨some 39, (.call Ze0), [.t 30, .t 35, .t 36, .t 38], none⟩,
  ⟨some 0, .mov, [.t 39], none⟩]
def Zh3 : List Z2a := [
  ⟨some 40, .mov, [.t 0], none⟩,
  ⟨some 41, .mov, [.t 9], none⟩,
  ⟨some 42, .mov, [.t 0], none⟩,
  ⟨some 43, .mov, [.t 9], none⟩,
  ⟨some 44, (.iad 9), [.t 42, .t 43], none⟩,
  ⟨some 45, (.fad 6), [.t 44], none⟩,
  ⟨some 46, (.load false 1), [.t 45], none⟩,
  ⟨some 47, .mov, [.t 11], none⟩,
  ⟨some 48, (.bsl 1), [.t 47], none⟩,
  ⟨some 49, (.app 1 8), [.t 46, .t 48], none⟩,
  ⟨some 50, (.iad 9), [.t 40, .t 41], none⟩,
  ⟨some 51, (.fad 6), [.t 50], none⟩,
  ⟨none, (.store 1), [.t 51, .t 49], none⟩]
def Zh4 : List Z2a := [
  ⟨some 26, .mov, [.t 10], none⟩,
  ⟨some 27, (.bin .add), [.t 26, .c (.int .i64 1)], none⟩,
  ⟨some 10, .mov, [.t 27], none⟩]
def Zh5 : Z2b := (.seq (.seq (.region Zh0 [0, 3, 5, 9, 10, 25]) (.cond (.t 25) .skip (.exit 0))) (.seq (.block 1 (.seq (.region Zh1 [0, 3, 5, 9, 10, 11]) (.seq (.region Zh2 [0, 3, 5, 9, 10, 11]) (.region Zh3 [0, 3, 5, 9, 10])))) (.region Zh4 [0, 3, 5, 9, 10])))
def Zh6 : List Z2a := [
  ⟨some 52, .mov, [.t 0], none⟩,
  ⟨some 8, .mov, [.t 52], none⟩]
def Zh7 : Z2y := ⟨53, (.seq (.region Zgw [0, 2, 3, 5]) (.seq (.region Zgx [0, 2, 3, 5, 9]) (.seq (.region Zgy [0, 3, 5, 9]) (.seq (.seq (.region Zgz [0, 3, 5, 9, 10]) (.block 0 (.loop Zh5))) (.seq (.region Zh6 [8]) .ret))))), [.t 8]⟩
def Zh8 : List Z2a := [
  ⟨some 1, (.box 6), [.t 0], none⟩,
  ⟨some 2, .mov, [.c (.int .i64 0)], none⟩]
def Zh9 : List Z2a := [
  ⟨some 3, (.alloc (.int .i64 0)), [], none⟩,
  ⟨none, (.store 1), [.t 3, .c (.int .i64 0)], none⟩]
def Zha : List Z2a := [
  ⟨some 4, (.load true 6), [.t 1], none⟩,
  ⟨some 5, (.call Zf8), [.t 4, .c (.int .i64 1), .t 3], none⟩,
  ⟨some 2, .mov, [.t 5], none⟩]
def Zhb : Z2y := ⟨6, (.seq (.region Zh8 [1]) (.seq (.region Zh9 [1, 3]) (.seq (.region Zha [2]) .ret))), [.t 2]⟩
def Zhc : List Z2a := [
  ⟨some 2, .mov, [.c (.slc 0 [] true)], none⟩]
def Zhd : List Z2a := [
  ⟨some 3, .mov, [.t 0], none⟩,
  ⟨some 4, .mov, [.t 0], none⟩,
  ⟨some 5, .lens, [.t 4], none⟩,
  ⟨some 6, .mov, [.t 0], none⟩,
  ⟨some 7, .lens, [.t 6], none⟩,
  ⟨some 8, (.clip 8), [.t 3, .t 5, .t 7], none⟩,
  ⟨some 2, .mov, [.t 8], none⟩]
def Zhe : Z2y := ⟨9, (.seq (.region Zhc [0]) (.seq (.region Zhd [2]) .ret)), [.t 2]⟩
def Zhf : List Z2a := [
  ⟨some 5, (.box 6), [.t 1], none⟩,
  ⟨some 8, .mov, [.c (.slc 0 [] true)], none⟩]
def Zhg : List Z2a := [
  ⟨some 13, .mov, [.t 0], none⟩,
  ⟨some 14, .lens, [.t 13], none⟩,
  ⟨some 9, .mov, [.t 14], none⟩]
def Zhh : List Z2a := [
  ⟨some 15, .mov, [.t 0], none⟩,
  ⟨some 16, (.fad 0), [.t 5], none⟩,
  ⟨some 17, (.load false 1), [.t 16], none⟩,
  ⟨some 18, (.fad 1), [.t 5], none⟩,
  ⟨some 19, (.load false 1), [.t 18], none⟩,
  ⟨some 20, (.callp Zfa), [.t 19], none⟩,
  ⟨some 21, (.callp Zf9), [.t 20], none⟩,
  ⟨some 22, (.fad 3), [.t 5], none⟩,
  ⟨some 23, (.load false 1), [.t 22], none⟩,
  ⟨some 24, (.fad 4), [.t 5], none⟩,
  ⟨some 25, (.load false 1), [.t 24], none⟩,
  ⟨some 26, (.fad 5), [.t 5], none⟩,
  ⟨some 27, (.load false 1), [.t 26], none⟩,
  ⟨some 28, .mov, [.t 2], none⟩,
  ⟨some 29, .mov, [.t 3], none⟩,
  ⟨some 30, (.bld [(.int .i64 0), (.slc 0 [] true), (.slc 0 [] true), (.int .i64 0), (.int .i64 0), (.int .i64 0), (.int .i64 0), (.int .i64 0)] [(0, 1), (1, 1), (2, 1), (3, 1), (4, 1), (5, 1), (6, 1), (7, 1)]), [.t 17, .c (.slc 0 [] true), .t 21, .t 23, .t 25, .t 27, .t 28, .t 29], none⟩,
  ⟨some 31, (.bsl 8), [.t 30], none⟩,
  ⟨some 32, (.app 8 96), [.t 15, .t 31], none⟩,
  ⟨some 0, .mov, [.t 32], none⟩]
def Zhi : List Z2a := [
  ⟨some 10, .mov, [.c (.slc 0 [] true)], none⟩]
def Zhj : List Z2a := [
  ⟨some 33, (.fad 2), [.t 5], none⟩,
  ⟨some 34, (.load false 1), [.t 33], none⟩,
  ⟨some 35, .lens, [.t 34], none⟩,
  ⟨some 36, .mov, [.c (.int .i64 0)], none⟩]
def Zhk : List Z2a := [
  ⟨some 37, (.bin .lss), [.t 36, .t 35], none⟩]
def Zhl : List Z2a := [
  ⟨some 38, (.iad 6), [.t 34, .t 36], none⟩,
  ⟨some 39, (.load true 6), [.t 38], none⟩,
  ⟨some 12, (.alloc (.agg [(.int .i64 0), (.slc 0 [] true), (.slc 0 [] true), (.int .i64 0), (.int .i64 0), (.int .i64 0)])), [], none⟩,
  ⟨none, (.store 6), [.t 12, .t 39], none⟩]
def Zhm : List Z2a := [
  ⟨some 40, .mov, [.t 10], none⟩,
  ⟨some 41, .mov, [.t 0], none⟩,
  ⟨some 42, .lens, [.t 41], none⟩,
  ⟨some 43, (.bsl 1), [.t 42], none⟩,
  ⟨some 44, (.app 1 8), [.t 40, .t 43], none⟩,
  ⟨some 10, .mov, [.t 44], none⟩]
def Zhn : List Z2a := [
  ⟨some 45, .mov, [.t 0], none⟩,
  ⟨some 46, (.load true 6), [.t 12], none⟩,
  ⟨some 47, .mov, [.t 9], none⟩,
  ⟨some 48, .mov, [.t 3], none⟩,
  ⟨some 49, (.bin .add), [.t 48, .c (.int .i64 1)], none⟩,
  ⟨some 50, (.call Ze3), [.t 45, .t 46, .t 47, .t 49], none⟩,
  ⟨some 0, .mov, [.t 50], none⟩]
def Zho : List Z2a := [
  ⟨some 51, (.bin .add), [.t 36, .c (.int .i64 1)], none⟩,
  ⟨some 36, .mov, [.t 51], none⟩]
def Zhp : Z2b := (.seq (.region Zhk [0, 3, 9, 10, 34, 35, 36, 37]) (.seq (.cond (.t 37) .skip (.exit 0)) (.seq (.block 1 (.seq (.region Zhl [0, 3, 9, 10, 12, 34, 35, 36]) (.seq (.region Zhm [0, 3, 9, 10, 12, 34, 35, 36]) (.region Zhn [0, 3, 9, 10, 34, 35, 36])))) (.region Zho [0, 3, 9, 10, 34, 35, 36]))))
def Zhq : List Z2a := [
  ⟨some 52, .mov, [.t 0], none⟩,
  ⟨some 53, .mov, [.t 9], none⟩,
  ⟨some 54, .mov, [.t 10], none⟩,
  ⟨some 55, (.call Zfb), [.t 54], none⟩,
  ⟨some 56, (.iad 8), [.t 52, .t 53], none⟩,
  ⟨some 57, (.fad 1), [.t 56], none⟩,
  ⟨none, (.store 1), [.t 57, .t 55], none⟩]
def Zhr : List Z2a := [
  ⟨some 58, .mov, [.t 0], none⟩,
  ⟨some 8, .mov, [.t 58], none⟩]
def Zhs : Z2y := ⟨59, (.seq (.region Zhf [0, 2, 3, 5]) (.seq (.region Zhg [0, 2, 3, 5, 9]) (.seq (.region Zhh [0, 3, 5, 9]) (.seq (.region Zhi [0, 3, 5, 9, 10]) (.seq (.seq (.region Zhj [0, 3, 9, 10, 34, 35, 36]) (.block 0 (.loop Zhp))) (.seq (.region Zhq [0]) (.seq (.region Zhr [8]) .ret))))))), [.t 8]⟩
def Zht : List Z2a := [
  ⟨some 3, (.box 6), [.t 0], none⟩,
  ⟨some 6, .mov, [.c (.int .i64 0)], none⟩,
  ⟨some 7, .mov, [.c (.int .i64 0)], none⟩]
def Zhu : List Z2a := [
  ⟨some 12, .mov, [.t 1], none⟩,
  ⟨some 13, (.bin .gtr), [.t 12, .c (.int .i64 16)], none⟩,
  ⟨some 14, .mov, [.t 13], none⟩,
  ⟨some 15, .mov, [.t 2], some (14, false)⟩,
  ⟨some 16, (.bin .geq), [.t 15, .c (.int .i64 100)], some (14, false)⟩,
  ⟨some 17, .pick, [.t 14, .c (.bool true), .t 16], none⟩]
def Zhv : List Z2a := [
  ⟨some 18, .mov, [.t 2], none⟩,
  ⟨some 6, .mov, [.t 18], none⟩,
  ⟨some 7, .mov, [.c (.int .i64 4)], none⟩]
def Zhw : List Z2a := [
  ⟨some 19, (.load true 6), [.t 3], none⟩,
  ⟨some 20, (.call Zfe), [.t 19], none⟩,
  ⟨some 8, .mov, [.t 20], none⟩]
def Zhx : List Z2a := [
  ⟨some 21, .mov, [.t 8], none⟩,
  ⟨some 22, (.bin .neq), [.t 21, .c (.int .i64 0)], none⟩]
def Zhy : List Z2a := [
  ⟨some 23, .mov, [.t 2], none⟩,
  ⟨some 24, .mov, [.t 8], none⟩,
  ⟨some 6, .mov, [.t 23], none⟩,
  ⟨some 7, .mov, [.t 24], none⟩]
def Zhz : List Z2a := [
  ⟨some 25, .mov, [.t 2], none⟩,
  ⟨some 26, (.bin .add), [.t 25, .c (.int .i64 1)], none⟩,
  ⟨some 2, .mov, [.t 26], none⟩]
def Zi0 : List Z2a := [
  ⟨some 9, .mov, [.c (.int .i64 0)], none⟩]
def Zi1 : List Z2a := [
  ⟨some 27, .mov, [.t 9], none⟩,
  ⟨some 28, (.fad 2), [.t 3], none⟩,
  ⟨some 29, (.load false 1), [.t 28], none⟩,
  ⟨some 30, .lens, [.t 29], none⟩,
  ⟨some 31, (.bin .lss), [.t 27, .t 30], none⟩]
def Zi2 : List Z2a := [
  ⟨some 35, (.fad 2), [.t 3], none⟩,
  ⟨some 36, (.load false 1), [.t 35], none⟩,
  ⟨some 37, .mov, [.t 9], none⟩,
  ⟨some 38, (.iad 6), [.t 36, .t 37], none⟩,
  ⟨some 39, (.load true 6), [.t 38], none⟩,
  ⟨some 40, .mov, [.t 1], none⟩,
  ⟨some 41, (.bin .add), [.t 40, .c (.int .i64 1)], none⟩,
  ⟨some 42, .mov, [.t 2], none⟩,
  ⟨some 43, (.call Zee), [.t 39, .t 41, .t 42], none⟩,
  ⟨some 34, .mov, [.t 43], none⟩,
  ⟨some 44, (.ext 0), [.t 34], none⟩,
  ⟨some 45, (.ext 1), [.t 34], none⟩,
  ⟨some 10, .mov, [.t 44], none⟩,
  ⟨some 11, .mov, [.t 45], none⟩]
def Zi3 : List Z2a := [
  ⟨some 46, .mov, [.t 11], none⟩,
  ⟨some 47, (.bin .neq), [.t 46, .c (.int .i64 0)], none⟩]
def Zi4 : List Z2a := [
  ⟨some 48, .mov, [.t 10], none⟩,
  ⟨some 49, .mov, [.t 11], none⟩,
  ⟨some 6, .mov, [.t 48], none⟩,
  ⟨some 7, .mov, [.t 49], none⟩]
def Zi5 : List Z2a := [
  ⟨some 50, .mov, [.t 10], none⟩,
  ⟨some 2, .mov, [.t 50], none⟩]
def Zi6 : List Z2a := [
  ⟨some 32, .mov, [.t 9], none⟩,
  ⟨some 33, (.bin .add), [.t 32, .c (.int .i64 1)], none⟩,
  ⟨some 9, .mov, [.t 33], none⟩]
def Zi7 : Z2b := (.seq (.seq (.region Zi1 [1, 2, 3, 9, 31]) (.cond (.t 31) .skip (.exit 0))) (.seq (.block 1 (.seq (.region Zi2 [1, 3, 9, 10, 11]) (.seq (.seq (.region Zi3 [1, 3, 9, 10, 11, 47]) (.cond (.t 47) (.seq (.region Zi4 [6, 7]) .ret) .skip)) (.region Zi5 [1, 2, 3, 9])))) (.region Zi6 [1, 2, 3, 9])))
def Zi8 : List Z2a := [
  ⟨some 51, .mov, [.t 2], none⟩,
  ⟨some 6, .mov, [.t 51], none⟩,
  ⟨some 7, .mov, [.c (.int .i64 0)], none⟩]
def Zi9 : Z2y := ⟨52, (.seq (.region Zht [1, 2, 3, 15, 16]) (.seq (.seq (.region Zhu [1, 2, 3, 17]) (.cond (.t 17) (.seq (.region Zhv [6, 7]) .ret) .skip)) (.seq (.region Zhw [1, 2, 3, 8]) (.seq (.seq (.region Zhx [1, 2, 3, 8, 22]) (.cond (.t 22) (.seq (.region Zhy [6, 7]) .ret) .skip)) (.seq (.region Zhz [1, 2, 3]) (.seq (.seq (.region Zi0 [1, 2, 3, 9]) (.block 0 (.loop Zi7))) (.seq (.region Zi8 [6, 7]) .ret))))))), [.t 6, .t 7]⟩
def Zia : List Z2a := [
  ⟨some 3, (.box 6), [.t 0], none⟩,
  ⟨some 6, .mov, [.c (.int .i64 0)], none⟩]
def Zib : List Z2a := [
  ⟨some 11, .mov, [.t 1], none⟩,
  ⟨some 12, (.bin .gtr), [.t 11, .c (.int .i64 16)], none⟩,
  ⟨some 13, .mov, [.t 12], none⟩,
  ⟨some 14, .mov, [.t 2], some (13, false)⟩,
  ⟨some 15, .nilc, [.t 14], some (13, false)⟩,
  ⟨some 16, (.load false 1), [.t 15], some (13, false)⟩,
  ⟨some 17, (.bin .geq), [.t 16, .c (.int .i64 100)], some (13, false)⟩,
  ⟨some 18, .pick, [.t 13, .c (.bool true), .t 17], none⟩,
  ⟨some 10, .mov, [.t 18], none⟩]
def Zic : List Z2a := [
  ⟨some 6, .mov, [.c (.int .i64 4)], none⟩]
def Zid : List Z2a := [
  ⟨some 20, (.fad 0), [.t 3], none⟩,
  ⟨some 21, (.load false 1), [.t 20], none⟩,
  ⟨some 22, (.bin .eql), [.t 21, .c (.int .i64 5)], none⟩,
  ⟨some 23, .mov, [.t 22], none⟩,
  ⟨some 24, (.fad 0), [.t 3], some (23, false)⟩,
  ⟨some 25, (.load false 1), [.t 24], some (23, false)⟩,
  ⟨some 26, (.bin .eql), [.t 25, .c (.int .i64 6)], some (23, false)⟩,
  ⟨some 27, .pick, [.t 23, .c (.bool true), .t 26], none⟩,
  ⟨some 19, .mov, [.t 27], none⟩]
def Zie : List Z2a := [
  ⟨some 6, .mov, [.c (.int .i64 5)], none⟩]
def Zif : List Z2a := [
  ⟨some 29, (.fad 0), [.t 3], none⟩,
  ⟨some 30, (.load false 1), [.t 29], none⟩,
  ⟨some 31, (.bin .lss), [.t 30, .c (.int .i64 0)], none⟩,
  ⟨some 32, .mov, [.t 31], none⟩,
  ⟨some 33, (.fad 0), [.t 3], some (32, false)⟩,
  ⟨some 34, (.load false 1), [.t 33], some (32, false)⟩,
  ⟨some 35, (.bin .gtr), [.t 34, .c (.int .i64 17)], some (32, false)⟩,
  ⟨some 36, .pick, [.t 32, .c (.bool true), .t 35], none⟩,
  ⟨some 37, .mov, [.t 36], none⟩,
  ⟨some 38, (.load true 6), [.t 3], some (37, false)⟩,
  ⟨some 39, (.call Zg5), [.t 38], some (37, false)⟩,
  ⟨some 40, .unot, [.t 39], some (37, false)⟩,
  ⟨some 41, .pick, [.t 37, .c (.bool true), .t 40], none⟩,
  ⟨some 28, .mov, [.t 41], none⟩]
def Zig : List Z2a := [
  ⟨some 6, .mov, [.c (.int .i64 1)], none⟩]
def Zih : List Z2a := [
  ⟨some 42, .mov, [.t 2], none⟩,
  ⟨some 43, .nilc, [.t 42], none⟩,
  ⟨some 44, (.load false 1), [.t 43], none⟩,
  ⟨some 45, (.bin .add), [.t 44, .c (.int .i64 1)], none⟩,
  ⟨some 46, .nilc, [.t 42], none⟩,
  ⟨none, (.store 1), [.t 46, .t 45], none⟩]
def Zii : List Z2a := [
  ⟨some 47, (.fad 2), [.t 3], none⟩,
  ⟨some 48, (.load false 1), [.t 47], none⟩,
  ⟨some 49, .lens, [.t 48], none⟩,
  ⟨some 50, .mov, [.c (.int .i64 0)], none⟩]
def Zij : List Z2a := [
  ⟨some 51, (.bin .lss), [.t 50, .t 49], none⟩]
def Zik : List Z2a := [
  ⟨some 52, (.iad 6), [.t 48, .t 50], none⟩,
  ⟨some 53, (.load true 6), [.t 52], none⟩,
  ⟨some 8, (.alloc (.agg [(.int .i64 0), (.slc 0 [] true), (.slc 0 [] true), (.int .i64 0), (.int .i64 0), (.int .i64 0)])), [], none⟩,
  ⟨none, (.store 6), [.t 8, .t 53], none⟩]
def Zil : List Z2a := [
  ⟨some 54, (.load true 6), [.t 8], none⟩,
  ⟨some 55, .mov, [.t 1], none⟩,
  ⟨some 56, (.bin .add), [.t 55, .c (.int .i64 1)], none⟩,
  ⟨some 57, .mov, [.t 2], none⟩,
  ⟨some 58, (.call Zf8), [.t 54, .t 56, .t 57], none⟩,
  ⟨some 9, .mov, [.t 58], none⟩]
def Zim : List Z2a := [
  ⟨some 59, .mov, [.t 9], none⟩,
  ⟨some 60, (.bin .neq), [.t 59, .c (.int .i64 0)], none⟩]
def Zin : List Z2a := [
  ⟨some 61, .mov, [.t 9], none⟩,
  ⟨some 6, .mov, [.t 61], none⟩]
def Zio : List Z2a := [
  ⟨some 62, (.bin .add), [.t 50, .c (.int .i64 1)], none⟩,
  ⟨some 50, .mov, [.t 62], none⟩]
def Zip : Z2b := (.seq (.region Zij [1, 2, 48, 49, 50, 51]) (.seq (.cond (.t 51) .skip (.exit 1)) (.seq (.block 2 (.seq (.region Zik [1, 2, 8, 48, 49, 50]) (.seq (.region Zil [1, 2, 9, 48, 49, 50]) (.seq (.region Zim [1, 2, 9, 48, 49, 50, 60]) (.cond (.t 60) (.seq (.region Zin [6]) .ret) .skip))))) (.region Zio [1, 2, 48, 49, 50]))))
def Ziq : List Z2a := [
  ⟨some 6, .mov, [.c (.int .i64 0)], none⟩]
def Zir : Z2y := ⟨63, (.seq (.region Zia [1, 2, 3, 14, 15, 16, 17, 24, 25, 26, 33, 34, 35, 38, 39, 40]) (.seq (.block 0 (.seq (.region Zib [1, 2, 3, 10, 24, 25, 26, 33, 34, 35, 38, 39, 40]) (.cond (.t 10) (.seq (.region Zic [6]) .ret) (.seq (.region Zid [1, 2, 3, 19, 33, 34, 35, 38, 39, 40]) (.cond (.t 19) (.seq (.region Zie [6]) .ret) (.seq (.region Zif [1, 2, 3, 28]) (.cond (.t 28) (.seq (.region Zig [6]) .ret) .skip))))))) (.seq (.region Zih [1, 2, 3]) (.seq (.seq (.region Zii [1, 2, 48, 49, 50]) (.block 1 (.loop Zip))) (.seq (.region Ziq [6]) .ret))))), [.t 6]⟩
def Zis : List Z2a := [
  ⟨some 2, .mov, [.c (.slc 0 [] true)], none⟩]
def Zit : List Z2a := [
  ⟨some 3, .mov, [.t 0], none⟩,
  ⟨some 4, .mov, [.t 0], none⟩,
  ⟨some 5, .lens, [.t 4], none⟩,
  ⟨some 6, .mov, [.t 0], none⟩,
  ⟨some 7, .lens, [.t 6], none⟩,
  ⟨some 8, (.clip 1), [.t 3, .t 5, .t 7], none⟩,
  ⟨some 2, .mov, [.t 8], none⟩]
def Ziu : Z2y := ⟨9, (.seq (.region Zis [0]) (.seq (.region Zit [2]) .ret)), [.t 2]⟩
def Ziv : List Z2a := [
  ⟨some 2, .mov, [.c (.slc 0 [] true)], none⟩]
def Ziw : List Z2a := [
  ⟨some 3, .mov, [.t 0], none⟩,
  ⟨some 4, (.isnil false), [.t 3, .c (.slc 0 [] true)], none⟩]
def Zix : List Z2a := [
  ⟨some 2, .mov, [.c (.slc 0 [] true)], none⟩]
def Ziy : List Z2a := [
  ⟨some 5, (.bsl 1), [], none⟩,
  ⟨some 6, .mov, [.t 0], none⟩,
  ⟨some 7, (.app 1 16), [.t 5, .t 6], none⟩,
  ⟨some 2, .mov, [.t 7], none⟩]
def Ziz : Z2y := ⟨8, (.seq (.region Ziv [0]) (.seq (.seq (.region Ziw [0, 4]) (.cond (.t 4) (.seq (.region Zix [2]) .ret) .skip)) (.seq (.region Ziy [2]) .ret))), [.t 2]⟩
def Zj0 : List Z2a := [
  ⟨some 2, .mov, [.c (.slc 0 [] true)], none⟩]
def Zj1 : List Z2a := [
  ⟨some 3, .mov, [.t 0], none⟩,
  ⟨some 4, .mov, [.t 0], none⟩,
  ⟨some 5, .lens, [.t 4], none⟩,
  ⟨some 6, .mov, [.t 0], none⟩,
  ⟨some 7, .lens, [.t 6], none⟩,
  ⟨some 8, (.clip 1), [.t 3, .t 5, .t 7], none⟩,
  ⟨some 2, .mov, [.t 8], none⟩]
def Zj2 : Z2y := ⟨9, (.seq (.region Zj0 [0]) (.seq (.region Zj1 [2]) .ret)), [.t 2]⟩
def Zj3 : List Z2a := [
  ⟨some 2, .mov, [.c (.bool false)], none⟩]
def Zj4 : List Z2a := [
  ⟨some 3, .mov, [.t 0], none⟩]
def Zj5 : List Z2a := [
  ⟨some 5, (.bin .eql), [.t 3, .c (.int .i64 10)], none⟩,
  ⟨some 4, .mov, [.t 5], none⟩]
def Zj6 : List Z2a := [
  ⟨some 6, (.bin .eql), [.t 3, .c (.int .i64 11)], none⟩,
  ⟨some 4, .mov, [.t 6], none⟩]
def Zj7 : List Z2a := [
  ⟨some 8, (.bin .eql), [.t 3, .c (.int .i64 12)], none⟩,
  ⟨some 7, .mov, [.t 8], none⟩]
def Zj8 : List Z2a := [
  ⟨some 9, (.bin .eql), [.t 3, .c (.int .i64 13)], none⟩,
  ⟨some 7, .mov, [.t 9], none⟩]
def Zj9 : List Z2a := [
  ⟨some 2, .mov, [.c (.bool false)], none⟩]
def Zja : List Z2a := [
  ⟨some 2, .mov, [.c (.bool true)], none⟩]
def Zjb : Z2y := ⟨10, (.seq (.region Zj3 [0]) (.seq (.seq (.region Zj4 [3]) (.block 0 (.seq (.block 2 (.block 1 (.seq (.seq (.seq (.seq (.region Zj5 [3, 4]) (.cond (.t 4) .skip (.region Zj6 [3, 4]))) (.cond (.t 4) (.exit 1) .skip)) (.seq (.seq (.region Zj7 [3, 7]) (.cond (.t 7) .skip (.region Zj8 [7]))) (.cond (.t 7) (.exit 2) .skip))) (.exit 0)))) (.seq (.seq (.region Zj9 [2]) .ret) (.exit 0))))) (.seq (.region Zja [2]) .ret))), [.t 2]⟩
def Zjc : List Z2a := [
  ⟨some 1, (.box 6), [.t 0], none⟩,
  ⟨some 2, .mov, [.c (.int .i64 0)], none⟩]
def Zjd : List Z2a := [
  ⟨some 8, (.fad 0), [.t 1], none⟩,
  ⟨some 9, (.load false 1), [.t 8], none⟩,
  ⟨some 10, (.bin .eql), [.t 9, .c (.int .i64 5)], none⟩,
  ⟨some 11, .mov, [.t 10], none⟩,
  ⟨some 12, (.fad 0), [.t 1], some (11, false)⟩,
  ⟨some 13, (.load false 1), [.t 12], some (11, false)⟩,
  ⟨some 14, (.bin .eql), [.t 13, .c (.int .i64 6)], some (11, false)⟩,
  ⟨some 15, .pick, [.t 11, .c (.bool true), .t 14], none⟩]
def Zje : List Z2a := [
  ⟨some 2, .mov, [.c (.int .i64 5)], none⟩]
def Zjf : List Z2a := [
  ⟨some 16, (.fad 0), [.t 1], none⟩,
  ⟨some 17, (.load false 1), [.t 16], none⟩,
  ⟨some 18, (.bin .lss), [.t 17, .c (.int .i64 0)], none⟩,
  ⟨some 19, .mov, [.t 18], none⟩,
  ⟨some 20, (.fad 0), [.t 1], some (19, false)⟩,
  ⟨some 21, (.load false 1), [.t 20], some (19, false)⟩,
  ⟨some 22, (.bin .gtr), [.t 21, .c (.int .i64 17)], some (19, false)⟩,
  ⟨some 23, .pick, [.t 19, .c (.bool true), .t 22], none⟩]
def Zjg : List Z2a := [
  ⟨some 2, .mov, [.c (.int .i64 1)], none⟩]
def Zjh : List Z2a := [
  ⟨some 24, (.fad 2), [.t 1], none⟩,
  ⟨some 25, (.load false 1), [.t 24], none⟩,
  ⟨some 26, .lens, [.t 25], none⟩,
  ⟨some 3, .mov, [.t 26], none⟩]
def Zji : List Z2a := [
  ⟨some 27, .mov, [.t 3], none⟩,
  ⟨some 28, (.bin .eql), [.t 27, .c (.int .i64 0)], none⟩,
  ⟨some 4, .mov, [.t 28], none⟩]
def Zjj : List Z2a := [
  ⟨some 29, (.fad 0), [.t 1], none⟩,
  ⟨some 30, (.load false 1), [.t 29], none⟩]
def Zjk : List Z2a := [
  ⟨some 32, (.bin .eql), [.t 30, .c (.int .i64 10)], none⟩,
  ⟨some 31, .mov, [.t 32], none⟩]
def Zjl : List Z2a := [
  ⟨some 33, .mov, [.t 3], none⟩,
  ⟨some 34, (.bin .eql), [.t 33, .c (.int .i64 1)], none⟩,
  ⟨some 4, .mov, [.t 34], none⟩]
def Zjm : List Z2a := [
  ⟨some 36, (.bin .eql), [.t 30, .c (.int .i64 11)], none⟩,
  ⟨some 35, .mov, [.t 36], none⟩]
def Zjn : List Z2a := [
  ⟨some 37, .mov, [.t 3], none⟩,
  ⟨some 38, (.bin .eql), [.t 37, .c (.int .i64 2)], none⟩,
  ⟨some 4, .mov, [.t 38], none⟩]
def Zjo : List Z2a := [
  ⟨some 40, (.bin .eql), [.t 30, .c (.int .i64 12)], none⟩,
  ⟨some 39, .mov, [.t 40], none⟩]
def Zjp : List Z2a := [
  ⟨some 41, .mov, [.t 3], none⟩,
  ⟨some 42, (.fad 1), [.t 1], none⟩,
  ⟨some 43, (.load false 1), [.t 42], none⟩,
  ⟨some 44, .lens, [.t 43], none⟩,
  ⟨some 45, (.bin .eql), [.t 41, .t 44], none⟩,
  ⟨some 4, .mov, [.t 45], none⟩]
def Zjq : List Z2a := [
  ⟨some 47, (.bin .eql), [.t 30, .c (.int .i64 13)], none⟩,
  ⟨some 46, .mov, [.t 47], none⟩]
def Zjr : List Z2a := [
  ⟨some 48, .mov, [.t 3], none⟩,
  ⟨some 49, (.bin .geq), [.t 48, .c (.int .i64 1)], none⟩,
  ⟨some 50, .mov, [.t 49], none⟩,
  ⟨some 51, .mov, [.t 3], some (50, true)⟩,
  ⟨some 52, (.bin .leq), [.t 51, .c (.int .i64 255)], some (50, true)⟩,
  ⟨some 53, .pick, [.t 50, .t 52, .c (.bool false)], none⟩,
  ⟨some 4, .mov, [.t 53], none⟩]
def Zjs : List Z2a := [
  ⟨some 54, .mov, [.t 4], none⟩,
  ⟨some 55, .unot, [.t 54], none⟩,
  ⟨some 56, .mov, [.t 55], none⟩,
  ⟨some 57, (.fad 0), [.t 1], some (56, false)⟩,
  ⟨some 58, (.load false 1), [.t 57], some (56, false)⟩,
  ⟨some 59, (.bin .neq), [.t 58, .c (.int .i64 12)], some (56, false)⟩,
  ⟨some 60, .mov, [.t 59], some (56, false)⟩,
  ⟨some 61, (.fad 1), [.t 1], some (60, true)⟩,
  ⟨some 62, (.load false 1), [.t 61], some (60, true)⟩,
  ⟨some 63, .lens, [.t 62], some (60, true)⟩,
  ⟨some 64, (.bin .gtr), [.t 63, .c (.int .i64 0)], some (60, true)⟩,
  ⟨some 65, .pick, [.t 60, .t 64, .c (.bool false)], some (56, false)⟩,
  ⟨some 66, .pick, [.t 56, .c (.bool true), .t 65], none⟩]
def Zjt : List Z2a := [
  ⟨some 2, .mov, [.c (.int .i64 1)], none⟩]
def Zju : List Z2a := [
  ⟨some 5, .mov, [.c (.int .i64 0)], none⟩]
def Zjv : List Z2a := [
  ⟨some 67, .mov, [.t 5], none⟩,
  ⟨some 68, (.fad 1), [.t 1], none⟩,
  ⟨some 69, (.load false 1), [.t 68], none⟩,
  ⟨some 70, .lens, [.t 69], none⟩,
  ⟨some 71, (.bin .lss), [.t 67, .t 70], none⟩]
def Zjw : List Z2a := [
  ⟨some 74, (.fad 1), [.t 1], none⟩,
  ⟨some 75, (.load false 1), [.t 74], none⟩,
  ⟨some 76, .mov, [.t 5], none⟩,
  ⟨some 77, (.iad 1), [.t 75, .t 76], none⟩,
  ⟨some 78, (.load false 1), [.t 77], none⟩,
  ⟨some 79, (.bin .eql), [.t 78, .c (.str [])], none⟩,
  ⟨some 80, .mov, [.t 79], none⟩,
  ⟨some 81, (.fad 1), [.t 1], some (80, false)⟩,
  ⟨some 82, (.load false 1), [.t 81], some (80, false)⟩,
  ⟨some 83, .mov, [.t 5], some (80, false)⟩,
  ⟨some 84, (.iad 1), [.t 82, .t 83], some (80, false)⟩,
  ⟨some 85, (.load false 1), [.t 84], some (80, false)⟩,
  ⟨some 86, .lent, [.t 85], some (80, false)⟩,
  ⟨some 87, (.bin .gtr), [.t 86, .c (.int .i64 100)], some (80, false)⟩,
  ⟨some 88, .pick, [.t 80, .c (.bool true), .t 87], none⟩]
def Zjx : List Z2a := [
  ⟨some 2, .mov, [.c (.int .i64 1)], none⟩]
def Zjy : List Z2a := [
  ⟨some 6, .mov, [.c (.int .i64 0)], none⟩]
def Zjz : List Z2a := [
  ⟨some 89, .mov, [.t 6], none⟩,
  ⟨some 90, .mov, [.t 5], none⟩,
  ⟨some 91, (.bin .lss), [.t 89, .t 90], none⟩]
def Zk0 : List Z2a := [
  ⟨some 94, (.fad 1), [.t 1], none⟩,
  ⟨some 95, (.load false 1), [.t 94], none⟩,
  ⟨some 96, .mov, [.t 6], none⟩,
  ⟨some 97, (.iad 1), [.t 95, .t 96], none⟩,
  ⟨some 98, (.load false 1), [.t 97], none⟩,
  ⟨some 99, (.fad 1), [.t 1], none⟩,
  ⟨some 100, (.load false 1), [.t 99], none⟩,
  ⟨some 101, .mov, [.t 5], none⟩,
  ⟨some 102, (.iad 1), [.t 100, .t 101], none⟩,
  ⟨some 103, (.load false 1), [.t 102], none⟩,
  ⟨some 104, (.bin .eql), [.t 98, .t 103], none⟩]
def Zk1 : List Z2a := [
  ⟨some 2, .mov, [.c (.int .i64 1)], none⟩]
def Zk2 : List Z2a := [
  ⟨some 92, .mov, [.t 6], none⟩,
  ⟨some 93, (.bin .add), [.t 92, .c (.int .i64 1)], none⟩,
  ⟨some 6, .mov, [.t 93], none⟩]
def Zk3 : Z2b := (.seq (.seq (.region Zjz [1, 5, 6, 81, 82, 83, 84, 85, 86, 87, 91, 109, 110, 111, 115, 116, 117, 118, 119, 120, 121, 122, 125, 126, 127, 128, 129, 130, 131, 140, 141, 142, 145, 146, 147, 150, 151, 152, 153, 154, 160, 161, 162]) (.cond (.t 91) .skip (.exit 3))) (.seq (.block 4 (.seq (.region Zk0 [1, 5, 6, 81, 82, 83, 84, 85, 86, 87, 104, 109, 110, 111, 115, 116, 117, 118, 119, 120, 121, 122, 125, 126, 127, 128, 129, 130, 131, 140, 141, 142, 145, 146, 147, 150, 151, 152, 153, 154, 160, 161, 162]) (.cond (.t 104) (.seq (.region Zk1 [2]) .ret) .skip))) (.region Zk2 [1, 5, 6, 81, 82, 83, 84, 85, 86, 87, 109, 110, 111, 115, 116, 117, 118, 119, 120, 121, 122, 125, 126, 127, 128, 129, 130, 131, 140, 141, 142, 145, 146, 147, 150, 151, 152, 153, 154, 160, 161, 162])))
def Zk4 : List Z2a := [
  ⟨some 72, .mov, [.t 5], none⟩,
  ⟨some 73, (.bin .add), [.t 72, .c (.int .i64 1)], none⟩,
  ⟨some 5, .mov, [.t 73], none⟩]
def Zk5 : Z2b := (.seq (.seq (.region Zjv [1, 5, 71, 81, 82, 83, 84, 85, 86, 87, 109, 110, 111, 115, 116, 117, 118, 119, 120, 121, 122, 125, 126, 127, 128, 129, 130, 131, 140, 141, 142, 145, 146, 147, 150, 151, 152, 153, 154, 160, 161, 162]) (.cond (.t 71) .skip (.exit 1))) (.seq (.block 2 (.seq (.seq (.region Zjw [1, 5, 81, 82, 83, 84, 85, 86, 87, 88, 109, 110, 111, 115, 116, 117, 118, 119, 120, 121, 122, 125, 126, 127, 128, 129, 130, 131, 140, 141, 142, 145, 146, 147, 150, 151, 152, 153, 154, 160, 161, 162]) (.cond (.t 88) (.seq (.region Zjx [2]) .ret) .skip)) (.seq (.region Zjy [1, 5, 6, 81, 82, 83, 84, 85, 86, 87, 109, 110, 111, 115, 116, 117, 118, 119, 120, 121, 122, 125, 126, 127, 128, 129, 130, 131, 140, 141, 142, 145, 146, 147, 150, 151, 152, 153, 154, 160, 161, 162]) (.block 3 (.loop Zk3))))) (.region Zk4 [1, 5, 81, 82, 83, 84, 85, 86, 87, 109, 110, 111, 115, 116, 117, 118, 119, 120, 121, 122, 125, 126, 127, 128, 129, 130, 131, 140, 141, 142, 145, 146, 147, 150, 151, 152, 153, 154, 160, 161, 162])))
def Zk6 : List Z2a := [
  ⟨some 105, (.fad 0), [.t 1], none⟩,
  ⟨some 106, (.load false 1), [.t 105], none⟩,
  ⟨some 107, (.bin .eql), [.t 106, .c (.int .i64 16)], none⟩,
  ⟨some 108, .mov, [.t 107], none⟩,
  ⟨some 109, (.fad 0), [.t 1], some (108, false)⟩,
  ⟨some 110, (.load false 1), [.t 109], some (108, false)⟩,
  ⟨some 111, (.bin .eql), [.t 110, .c (.int .i64 17)], some (108, false)⟩,
  ⟨some 112, .pick, [.t 108, .c (.bool true), .t 111], none⟩,
  ⟨some 7, .mov, [.t 112], none⟩]
def Zk7 : List Z2a := [
  ⟨some 113, .mov, [.t 7], none⟩,
  ⟨some 114, .mov, [.t 113], none⟩,
  ⟨some 115, (.fad 3), [.t 1], some (114, true)⟩,
  ⟨some 116, (.load false 1), [.t 115], some (114, true)⟩,
  ⟨some 117, (.bin .lss), [.t 116, .c (.int .i64 1)], some (114, true)⟩,
  ⟨some 118, .mov, [.t 117], some (114, true)⟩,
  ⟨some 119, (.fad 3), [.t 1], some (118, false)⟩,
  ⟨some 120, (.load false 1), [.t 119], some (118, false)⟩,
  ⟨some 121, (.bin .gtr), [.t 120, .c (.int .i64 4096)], some (118, false)⟩,
  ⟨some 122, .pick, [.t 118, .c (.bool true), .t 121], some (114, true)⟩,
  ⟨some 123, .pick, [.t 114, .t 122, .c (.bool false)], none⟩,
  ⟨some 124, .mov, [.t 123], none⟩,
  ⟨some 125, .mov, [.t 7], some (124, false)⟩,
  ⟨some 126, .unot, [.t 125], some (124, false)⟩,
  ⟨some 127, .mov, [.t 126], some (124, false)⟩,
  ⟨some 128, (.fad 3), [.t 1], some (127, true)⟩,
  ⟨some 129, (.load false 1), [.t 128], some (127, true)⟩,
  ⟨some 130, (.bin .neq), [.t 129, .c (.int .i64 0)], some (127, true)⟩,
  ⟨some 131, .pick, [.t 127, .t 130, .c (.bool false)], some (124, false)⟩,
  ⟨some 132, .pick, [.t 124, .c (.bool true), .t 131], none⟩]
def Zk8 : List Z2a := [
  ⟨some 2, .mov, [.c (.int .i64 1)], none⟩]
def Zk9 : List Z2a := [
  ⟨some 133, (.fad 0), [.t 1], none⟩,
  ⟨some 134, (.load false 1), [.t 133], none⟩,
  ⟨some 135, (.bin .eql), [.t 134, .c (.int .i64 14)], none⟩]
def Zka : List Z2a := [
  ⟨some 136, (.fad 4), [.t 1], none⟩,
  ⟨some 137, (.load false 1), [.t 136], none⟩,
  ⟨some 138, (.bin .lss), [.t 137, .c (.int .i64 1)], none⟩,
  ⟨some 139, .mov, [.t 138], none⟩,
  ⟨some 140, (.fad 4), [.t 1], some (139, false)⟩,
  ⟨some 141, (.load false 1), [.t 140], some (139, false)⟩,
  ⟨some 142, (.bin .gtr), [.t 141, .c (.int .i64 18)], some (139, false)⟩,
  ⟨some 143, .pick, [.t 139, .c (.bool true), .t 142], none⟩,
  ⟨some 144, .mov, [.t 143], none⟩,
  ⟨some 145, (.fad 5), [.t 1], some (144, false)⟩,
  ⟨some 146, (.load false 1), [.t 145], some (144, false)⟩,
  ⟨some 147, (.bin .lss), [.t 146, .c (.int .i64 0)], some (144, false)⟩,
  ⟨some 148, .pick, [.t 144, .c (.bool true), .t 147], none⟩,
  ⟨some 149, .mov, [.t 148], none⟩,
  ⟨some 150, (.fad 5), [.t 1], some (149, false)⟩,
  ⟨some 151, (.load false 1), [.t 150], some (149, false)⟩,
  ⟨some 152, (.fad 4), [.t 1], some (149, false)⟩,
  ⟨some 153, (.load false 1), [.t 152], some (149, false)⟩,
  ⟨some 154, (.bin .gtr), [.t 151, .t 153], some (149, false)⟩,
  ⟨some 155, .pick, [.t 149, .c (.bool true), .t 154], none⟩]
def Zkb : List Z2a := [
  ⟨some 2, .mov, [.c (.int .i64 1)], none⟩]
def Zkc : List Z2a := [
  ⟨some 156, (.fad 4), [.t 1], none⟩,
  ⟨some 157, (.load false 1), [.t 156], none⟩,
  ⟨some 158, (.bin .neq), [.t 157, .c (.int .i64 0)], none⟩,
  ⟨some 159, .mov, [.t 158], none⟩,
  ⟨some 160, (.fad 5), [.t 1], some (159, false)⟩,
  ⟨some 161, (.load false 1), [.t 160], some (159, false)⟩,
  ⟨some 162, (.bin .neq), [.t 161, .c (.int .i64 0)], some (159, false)⟩,
  ⟨some 163, .pick, [.t 159, .c (.bool true), .t 162], none⟩]
def Zkd : List Z2a := [
  ⟨some 2, .mov, [.c (.int .i64 1)], none⟩]
def Zke : List Z2a := [
  ⟨some 2, .mov, [.c (.int .i64 0)], none⟩]
def Zkf : Z2y := ⟨164, (.seq (.region Zjc [1, 12, 13, 14, 20, 21, 22, 51, 52, 57, 58, 59, 60, 61, 62, 63, 64, 65, 81, 82, 83, 84, 85, 86, 87, 109, 110, 111, 115, 116, 117, 118, 119, 120, 121, 122, 125, 126, 127, 128, 129, 130, 131, 140, 141, 142, 145, 146, 147, 150, 151, 152, 153, 154, 160, 161, 162]) (.seq (.seq (.region Zjd [1, 15, 20, 21, 22, 51, 52, 57, 58, 59, 60, 61, 62, 63, 64, 65, 81, 82, 83, 84, 85, 86, 87, 109, 110, 111, 115, 116, 117, 118, 119, 120, 121, 122, 125, 126, 127, 128, 129, 130, 131, 140, 141, 142, 145, 146, 147, 150, 151, 152, 153, 154, 160, 161, 162]) (.cond (.t 15) (.seq (.region Zje [2]) .ret) .skip)) (.seq (.seq (.region Zjf [1, 23, 51, 52, 57, 58, 59, 60, 61, 62, 63, 64, 65, 81, 82, 83, 84, 85, 86, 87, 109, 110, 111, 115, 116, 117, 118, 119, 120, 121, 122, 125, 126, 127, 128, 129, 130, 131, 140, 141, 142, 145, 146, 147, 150, 151, 152, 153, 154, 160, 161, 162]) (.cond (.t 23) (.seq (.region Zjg [2]) .ret) .skip)) (.seq (.region Zjh [1, 3, 51, 52, 57, 58, 59, 60, 61, 62, 63, 64, 65, 81, 82, 83, 84, 85, 86, 87, 109, 110, 111, 115, 116, 117, 118, 119, 120, 121, 122, 125, 126, 127, 128, 129, 130, 131, 140, 141, 142, 145, 146, 147, 150, 151, 152, 153, 154, 160, 161, 162]) (.seq (.region Zji [1, 3, 4, 51, 52, 57, 58, 59, 60, 61, 62, 63, 64, 65, 81, 82, 83, 84, 85, 86, 87, 109, 110, 111, 115, 116, 117, 118, 119, 120, 121, 122, 125, 126, 127, 128, 129, 130, 131, 140, 141, 142, 145, 146, 147, 150, 151, 152, 153, 154, 160, 161, 162]) (.seq (.seq (.region Zjj [1, 3, 4, 30, 51, 52, 57, 58, 59, 60, 61, 62, 63, 64, 65, 81, 82, 83, 84, 85, 86, 87, 109, 110, 111, 115, 116, 117, 118, 119, 120, 121, 122, 125, 126, 127, 128, 129, 130, 131, 140, 141, 142, 145, 146, 147, 150, 151, 152, 153, 154, 160, 161, 162]) (.block 0 (.seq (.region Zjk [1, 3, 4, 30, 31, 51, 52, 57, 58, 59, 60, 61, 62, 63, 64, 65, 81, 82, 83, 84, 85, 86, 87, 109, 110, 111, 115, 116, 117, 118, 119, 120, 121, 122, 125, 126, 127, 128, 129, 130, 131, 140, 141, 142, 145, 146, 147, 150, 151, 152, 153, 154, 160, 161, 162]) (.cond (.t 31) (.region Zjl [1, 4, 57, 58, 59, 60, 61, 62, 63, 64, 65, 81, 82, 83, 84, 85, 86, 87, 109, 110, 111, 115, 116, 117, 118, 119, 120, 121, 122, 125, 126, 127, 128, 129, 130, 131, 140, 141, 142, 145, 146, 147, 150, 151, 152, 153, 154, 160, 161, 162]) (.seq (.region Zjm [1, 3, 4, 30, 35, 51, 52, 57, 58, 59, 60, 61, 62, 63, 64, 65, 81, 82, 83, 84, 85, 86, 87, 109, 110, 111, 115, 116, 117, 118, 119, 120, 121, 122, 125, 126, 127, 128, 129, 130, 131, 140, 141, 142, 145, 146, 147, 150, 151, 152, 153, 154, 160, 161, 162]) (.cond (.t 35) (.region Zjn [1, 4, 57, 58, 59, 60, 61, 62, 63, 64, 65, 81, 82, 83, 84, 85, 86, 87, 109, 110, 111, 115, 116, 117, 118, 119, 120, 121, 122, 125, 126, 127, 128, 129, 130, 131, 140, 141, 142, 145, 146, 147, 150, 151, 152, 153, 154, 160, 161, 162]) (.seq (.region Zjo [1, 3, 4, 30, 39, 51, 52, 57, 58, 59, 60, 61, 62, 63, 64, 65, 81, 82, 83, 84, 85, 86, 87, 109, 110, 111, 115, 116, 117, 118, 119, 120, 121, 122, 125, 126, 127, 128, 129, 130, 131, 140, 141, 142, 145, 146, 147, 150, 151, 152, 153, 154, 160, 161, 162]) (.cond (.t 39) (.region Zjp [1, 4, 57, 58, 59, 60, 61, 62, 63, 64, 65, 81, 82, 83, 84, 85, 86, 87, 109, 110, 111, 115, 116, 117, 118, 119, 120, 121, 122, 125, 126, 127, 128, 129, 130, 131, 140, 141, 142, 145, 146, 147, 150, 151, 152, 153, 154, 160, 161, 162]) (.seq (.region Zjq [1, 3, 4, 46, 51, 52, 57, 58, 59, 60, 61, 62, 63, 64, 65, 81, 82, 83, 84, 85, 86, 87, 109, 110, 111, 115, 116, 117, 118, 119, 120, 121, 122, 125, 126, 127, 128, 129, 130, 131, 140, 141, 142, 145, 146, 147, 150, 151, 152, 153, 154, 160, 161, 162]) (.cond (.t 46) (.region Zjr [1, 4, 57, 58, 59, 60, 61, 62, 63, 64, 65, 81, 82, 83, 84, 85, 86, 87, 109, 110, 111, 115, 116, 117, 118, 119, 120, 121, 122, 125, 126, 127, 128, 129, 130, 131, 140, 141, 142, 145, 146, 147, 150, 151, 152, 153, 154, 160, 161, 162]) .skip)))))))))) (.seq (.seq (.region Zjs [1, 66, 81, 82, 83, 84, 85, 86, 87, 109, 110, 111, 115, 116, 117, 118, 119, 120, 121, 122, 125, 126, 127, 128, 129, 130, 131, 140, 141, 142, 145, 146, 147, 150, 151, 152, 153, 154, 160, 161, 162]) (.cond (.t 66) (.seq (.region Zjt [2]) .ret) .skip)) (.seq (.seq (.region Zju [1, 5, 81, 82, 83, 84, 85, 86, 87, 109, 110, 111, 115, 116, 117, 118, 119, 120, 121, 122, 125, 126, 127, 128, 129, 130, 131, 140, 141, 142, 145, 146, 147, 150, 151, 152, 153, 154, 160, 161, 162]) (.block 1 (.loop Zk5))) (.seq (.region Zk6 [1, 7, 115, 116, 117, 118, 119, 120, 121, 122, 125, 126, 127, 128, 129, 130, 131, 140, 141, 142, 145, 146, 147, 150, 151, 152, 153, 154, 160, 161, 162]) (.seq (.seq (.region Zk7 [1, 132, 140, 141, 142, 145, 146, 147, 150, 151, 152, 153, 154, 160, 161, 162]) (.cond (.t 132) (.seq (.region Zk8 [2]) .ret) .skip)) (.seq (.seq (.region Zk9 [1, 135, 140, 141, 142, 145, 146, 147, 150, 151, 152, 153, 154, 160, 161, 162]) (.cond (.t 135) (.seq (.region Zka [155]) (.cond (.t 155) (.seq (.region Zkb [2]) .ret) .skip)) (.seq (.region Zkc [163]) (.cond (.t 163) (.seq (.region Zkd [2]) .ret) .skip)))) (.seq (.region Zke [2]) .ret)))))))))))), [.t 2]⟩
def Zkg : List Z2a := [
  ⟨some 1, (.box 6), [.t 0], none⟩,
  ⟨some 2, .mov, [.c (.bool false)], none⟩]
def Zkh : List Z2a := [
  ⟨some 3, .mov, [.c (.int .i64 0)], none⟩,
  ⟨some 4, .mov, [.c (.int .i64 0)], none⟩,
  ⟨some 5, .mov, [.c (.int .i64 0)], none⟩,
  ⟨some 6, .mov, [.c (.bool false)], none⟩]
def Zki : List Z2a := [
  ⟨some 7, (.fad 0), [.t 1], none⟩,
  ⟨some 8, (.load false 1), [.t 7], none⟩]
def Zkj : List Z2a := [
  ⟨some 10, (.bin .eql), [.t 8, .c (.int .i64 11)], none⟩,
  ⟨some 9, .mov, [.t 10], none⟩]
def Zkk : List Z2a := [
  ⟨some 12, (.bin .eql), [.t 8, .c (.int .i64 10)], none⟩,
  ⟨some 11, .mov, [.t 12], none⟩]
def Zkl : List Z2a := [
  ⟨some 14, (.bin .eql), [.t 8, .c (.int .i64 12)], none⟩,
  ⟨some 13, .mov, [.t 14], none⟩]
def Zkm : List Z2a := [
  ⟨some 16, (.bin .eql), [.t 8, .c (.int .i64 13)], none⟩,
  ⟨some 15, .mov, [.t 16], none⟩]
def Zkn : List Z2a := [
  ⟨some 18, (.bin .eql), [.t 8, .c (.int .i64 16)], none⟩,
  ⟨some 17, .mov, [.t 18], none⟩]
def Zko : List Z2a := [
  ⟨some 19, (.bin .eql), [.t 8, .c (.int .i64 17)], none⟩,
  ⟨some 17, .mov, [.t 19], none⟩]
def Zkp : List Z2a := [
  ⟨some 21, (.bin .eql), [.t 8, .c (.int .i64 14)], none⟩,
  ⟨some 20, .mov, [.t 21], none⟩]
def Zkq : List Z2a := [
  ⟨some 22, .mov, [.t 3], none⟩,
  ⟨some 23, (.bin .add), [.t 22, .c (.int .i64 1)], none⟩,
  ⟨some 3, .mov, [.t 23], none⟩]
def Zkr : List Z2a := [
  ⟨some 24, .mov, [.t 3], none⟩,
  ⟨some 25, (.bin .add), [.t 24, .c (.int .i64 1)], none⟩,
  ⟨some 3, .mov, [.t 25], none⟩]
def Zks : List Z2a := [
  ⟨some 26, (.fad 1), [.t 1], none⟩,
  ⟨some 27, (.load false 1), [.t 26], none⟩,
  ⟨some 28, .lens, [.t 27], none⟩,
  ⟨some 29, (.fad 1), [.t 1], none⟩,
  ⟨some 30, (.load false 1), [.t 29], none⟩,
  ⟨some 31, .lens, [.t 30], none⟩,
  ⟨some 3, .mov, [.t 28], none⟩,
  ⟨some 4, .mov, [.t 31], none⟩]
def Zkt : List Z2a := [
  ⟨some 32, (.fad 2), [.t 1], none⟩,
  ⟨some 33, (.load false 1), [.t 32], none⟩,
  ⟨some 34, .lens, [.t 33], none⟩,
  ⟨some 3, .mov, [.t 34], none⟩]
def Zku : List Z2a := [
  ⟨some 35, .mov, [.t 3], none⟩,
  ⟨some 36, (.bin .lss), [.t 35, .c (.int .i64 1)], none⟩,
  ⟨some 37, .mov, [.t 36], none⟩,
  ⟨some 38, .mov, [.t 3], some (37, false)⟩,
  ⟨some 39, (.bin .gtr), [.t 38, .c (.int .i64 255)], some (37, false)⟩,
  ⟨some 40, .pick, [.t 37, .c (.bool true), .t 39], none⟩]
def Zkv : List Z2a := [
  ⟨some 2, .mov, [.c (.bool false)], none⟩]
def Zkw : List Z2a := [
  ⟨some 41, (.fad 3), [.t 1], none⟩,
  ⟨some 42, (.load false 1), [.t 41], none⟩,
  ⟨some 5, .mov, [.t 42], none⟩]
def Zkx : List Z2a := [
  ⟨some 43, .mov, [.t 5], none⟩,
  ⟨some 44, (.bin .lss), [.t 43, .c (.int .i64 1)], none⟩,
  ⟨some 45, .mov, [.t 44], none⟩,
  ⟨some 46, .mov, [.t 5], some (45, false)⟩,
  ⟨some 47, (.bin .gtr), [.t 46, .c (.int .i64 4096)], some (45, false)⟩,
  ⟨some 48, .pick, [.t 45, .c (.bool true), .t 47], none⟩]
def Zky : List Z2a := [
  ⟨some 2, .mov, [.c (.bool false)], none⟩]
def Zkz : List Z2a := [
  ⟨some 6, .mov, [.c (.bool true)], none⟩]
def Zl0 : List Z2a := [
  ⟨some 49, (.fad 2), [.t 1], none⟩,
  ⟨some 50, (.load false 1), [.t 49], none⟩,
  ⟨some 51, .lens, [.t 50], none⟩,
  ⟨some 52, .mov, [.t 3], none⟩,
  ⟨some 53, (.bin .neq), [.t 51, .t 52], none⟩,
  ⟨some 54, .mov, [.t 53], none⟩,
  ⟨some 55, (.fad 1), [.t 1], some (54, false)⟩,
  ⟨some 56, (.load false 1), [.t 55], some (54, false)⟩,
  ⟨some 57, .lens, [.t 56], some (54, false)⟩,
  ⟨some 58, .mov, [.t 4], some (54, false)⟩,
  ⟨some 59, (.bin .neq), [.t 57, .t 58], some (54, false)⟩,
  ⟨some 60, .pick, [.t 54, .c (.bool true), .t 59], none⟩,
  ⟨some 61, .mov, [.t 60], none⟩,
  ⟨some 62, (.fad 3), [.t 1], some (61, false)⟩,
  ⟨some 63, (.load false 1), [.t 62], some (61, false)⟩,
  ⟨some 64, .mov, [.t 5], some (61, false)⟩,
  ⟨some 65, (.bin .neq), [.t 63, .t 64], some (61, false)⟩,
  ⟨some 66, .pick, [.t 61, .c (.bool true), .t 65], none⟩,
  ⟨some 67, .mov, [.t 66], none⟩,
  ⟨some 68, (.fad 1), [.t 1], some (67, false)⟩,
  ⟨some 69, (.load false 1), [.t 68], some (67, false)⟩,
  ⟨some 70, (.call Zgg), [.t 69], some (67, false)⟩,
  ⟨some 71, .unot, [.t 70], some (67, false)⟩,
  ⟨some 72, .pick, [.t 67, .c (.bool true), .t 71], none⟩]
def Zl1 : List Z2a := [
  ⟨some 2, .mov, [.c (.bool false)], none⟩]
def Zl2 : List Z2a := [
  ⟨some 73, .mov, [.t 6], none⟩]
def Zl3 : List Z2a := [
  ⟨some 74, (.fad 4), [.t 1], none⟩,
  ⟨some 75, (.load false 1), [.t 74], none⟩,
  ⟨some 76, (.bin .geq), [.t 75, .c (.int .i64 1)], none⟩,
  ⟨some 77, .mov, [.t 76], none⟩,
  ⟨some 78, (.fad 4), [.t 1], some (77, true)⟩,
  ⟨some 79, (.load false 1), [.t 78], some (77, true)⟩,
  ⟨some 80, (.bin .leq), [.t 79, .c (.int .i64 18)], some (77, true)⟩,
  ⟨some 81, .pick, [.t 77, .t 80, .c (.bool false)], none⟩,
  ⟨some 82, .mov, [.t 81], none⟩,
  ⟨some 83, (.fad 5), [.t 1], some (82, true)⟩,
  ⟨some 84, (.load false 1), [.t 83], some (82, true)⟩,
  ⟨some 85, (.bin .geq), [.t 84, .c (.int .i64 0)], some (82, true)⟩,
  ⟨some 86, .pick, [.t 82, .t 85, .c (.bool false)], none⟩,
  ⟨some 87, .mov, [.t 86], none⟩,
  ⟨some 88, (.fad 5), [.t 1], some (87, true)⟩,
  ⟨some 89, (.load false 1), [.t 88], some (87, true)⟩,
  ⟨some 90, (.fad 4), [.t 1], some (87, true)⟩,
  ⟨some 91, (.load false 1), [.t 90], some (87, true)⟩,
  ⟨some 92, (.bin .leq), [.t 89, .t 91], some (87, true)⟩,
  ⟨some 93, .pick, [.t 87, .t 92, .c (.bool false)], none⟩,
  ⟨some 2, .mov, [.t 93], none⟩]
def Zl4 : List Z2a := [
  ⟨some 94, (.fad 4), [.t 1], none⟩,
  ⟨some 95, (.load false 1), [.t 94], none⟩,
  ⟨some 96, (.bin .eql), [.t 95, .c (.int .i64 0)], none⟩,
  ⟨some 97, .mov, [.t 96], none⟩,
  ⟨some 98, (.fad 5), [.t 1], some (97, true)⟩,
  ⟨some 99, (.load false 1), [.t 98], some (97, true)⟩,
  ⟨some 100, (.bin .eql), [.t 99, .c (.int .i64 0)], some (97, true)⟩,
  ⟨some 101, .pick, [.t 97, .t 100, .c (.bool false)], none⟩,
  ⟨some 2, .mov, [.t 101], none⟩]
def Zl5 : Z2y := ⟨102, (.seq (.region Zkg [1, 38, 39, 46, 47, 55, 56, 57, 58, 59, 62, 63, 64, 65, 68, 69, 70, 71, 78, 79, 80, 83, 84, 85, 88, 89, 90, 91, 92, 98, 99, 100]) (.seq (.region Zkh [1, 3, 4, 5, 6, 38, 39, 46, 47, 55, 56, 57, 58, 59, 62, 63, 64, 65, 68, 69, 70, 71, 78, 79, 80, 83, 84, 85, 88, 89, 90, 91, 92, 98, 99, 100]) (.seq (.seq (.region Zki [1, 3, 4, 5, 6, 8, 38, 39, 46, 47, 55, 56, 57, 58, 59, 62, 63, 64, 65, 68, 69, 70, 71, 78, 79, 80, 83, 84, 85, 88, 89, 90, 91, 92, 98, 99, 100]) (.block 0 (.seq (.block 6 (.seq (.block 5 (.seq (.block 4 (.seq (.block 3 (.seq (.block 2 (.seq (.block 1 (.seq (.seq (.seq (.region Zkj [1, 3, 4, 5, 6, 8, 9, 38, 39, 46, 47, 55, 56, 57, 58, 59, 62, 63, 64, 65, 68, 69, 70, 71, 78, 79, 80, 83, 84, 85, 88, 89, 90, 91, 92, 98, 99, 100]) (.cond (.t 9) (.exit 1) .skip)) (.seq (.seq (.region Zkk [1, 3, 4, 5, 6, 8, 11, 38, 39, 46, 47, 55, 56, 57, 58, 59, 62, 63, 64, 65, 68, 69, 70, 71, 78, 79, 80, 83, 84, 85, 88, 89, 90, 91, 92, 98, 99, 100]) (.cond (.t 11) (.exit 2) .skip)) (.seq (.seq (.region Zkl [1, 3, 4, 5, 6, 8, 13, 38, 39, 46, 47, 55, 56, 57, 58, 59, 62, 63, 64, 65, 68, 69, 70, 71, 78, 79, 80, 83, 84, 85, 88, 89, 90, 91, 92, 98, 99, 100]) (.cond (.t 13) (.exit 3) .skip)) (.seq (.seq (.region Zkm [1, 3, 4, 5, 6, 8, 15, 38, 39, 46, 47, 55, 56, 57, 58, 59, 62, 63, 64, 65, 68, 69, 70, 71, 78, 79, 80, 83, 84, 85, 88, 89, 90, 91, 92, 98, 99, 100]) (.cond (.t 15) (.exit 4) .skip)) (.seq (.seq (.seq (.region Zkn [1, 3, 4, 5, 6, 8, 17, 46, 47, 55, 56, 57, 58, 59, 62, 63, 64, 65, 68, 69, 70, 71, 78, 79, 80, 83, 84, 85, 88, 89, 90, 91, 92, 98, 99, 100]) (.cond (.t 17) .skip (.region Zko [1, 3, 4, 5, 6, 8, 17, 46, 47, 55, 56, 57, 58, 59, 62, 63, 64, 65, 68, 69, 70, 71, 78, 79, 80, 83, 84, 85, 88, 89, 90, 91, 92, 98, 99, 100]))) (.cond (.t 17) (.exit 5) .skip)) (.seq (.region Zkp [1, 3, 4, 5, 6, 20, 55, 56, 57, 58, 59, 62, 63, 64, 65, 68, 69, 70, 71, 78, 79, 80, 83, 84, 85, 88, 89, 90, 91, 92, 98, 99, 100]) (.cond (.t 20) (.exit 6) .skip))))))) (.exit 0))) (.region Zkq [1, 3, 4, 5, 6, 55, 56, 57, 58, 59, 62, 63, 64, 65, 68, 69, 70, 71, 78, 79, 80, 83, 84, 85, 88, 89, 90, 91, 92, 98, 99, 100]))) (.seq (.region Zkr [1, 3, 4, 5, 6, 55, 56, 57, 58, 59, 62, 63, 64, 65, 68, 69, 70, 71, 78, 79, 80, 83, 84, 85, 88, 89, 90, 91, 92, 98, 99, 100]) (.exit 0)))) (.seq (.region Zks [1, 3, 4, 5, 6, 55, 56, 57, 58, 59, 62, 63, 64, 65, 68, 69, 70, 71, 78, 79, 80, 83, 84, 85, 88, 89, 90, 91, 92, 98, 99, 100]) (.exit 0)))) (.seq (.seq (.region Zkt [1, 3, 4, 5, 6, 38, 39, 55, 56, 57, 58, 59, 62, 63, 64, 65, 68, 69, 70, 71, 78, 79, 80, 83, 84, 85, 88, 89, 90, 91, 92, 98, 99, 100]) (.seq (.region Zku [1, 3, 4, 5, 6, 40, 55, 56, 57, 58, 59, 62, 63, 64, 65, 68, 69, 70, 71, 78, 79, 80, 83, 84, 85, 88, 89, 90, 91, 92, 98, 99, 100]) (.cond (.t 40) (.seq (.region Zkv [2]) .ret) .skip))) (.exit 0)))) (.seq (.seq (.region Zkw [1, 3, 4, 5, 6, 46, 47, 55, 56, 57, 58, 59, 62, 63, 64, 65, 68, 69, 70, 71, 78, 79, 80, 83, 84, 85, 88, 89, 90, 91, 92, 98, 99, 100]) (.seq (.region Zkx [1, 3, 4, 5, 6, 48, 55, 56, 57, 58, 59, 62, 63, 64, 65, 68, 69, 70, 71, 78, 79, 80, 83, 84, 85, 88, 89, 90, 91, 92, 98, 99, 100]) (.cond (.t 48) (.seq (.region Zky [2]) .ret) .skip))) (.exit 0)))) (.seq (.region Zkz [1, 3, 4, 5, 6, 55, 56, 57, 58, 59, 62, 63, 64, 65, 68, 69, 70, 71, 78, 79, 80, 83, 84, 85, 88, 89, 90, 91, 92, 98, 99, 100]) (.exit 0))))) (.seq (.seq (.region Zl0 [1, 6, 72, 78, 79, 80, 83, 84, 85, 88, 89, 90, 91, 92, 98, 99, 100]) (.cond (.t 72) (.seq (.region Zl1 [2]) .ret) .skip)) (.seq (.seq (.region Zl2 [1, 73, 78, 79, 80, 83, 84, 85, 88, 89, 90, 91, 92, 98, 99, 100]) (.cond (.t 73) (.seq (.region Zl3 [2]) .ret) .skip)) (.seq (.region Zl4 [2]) .ret)))))), [.t 2]⟩
end Go.Abs
namespace Go.Abs
open Go Go.Proofs
theorem Zl6 : Z2z Try.prog [] Zcq = some Zgm.erase := by kernel_rfl
theorem Zl7 : Z2z Try.prog [] Zcr = some Zgr.erase := by kernel_rfl
theorem Zl8 : Z2z Try.prog [] Zd6 = some Zgv.erase := by kernel_rfl
theorem Zl9 : Z2z Try.prog [] Ze0 = some Zh7.erase := by kernel_rfl
theorem Zla : Z2z Try.prog [] Ze1 = some Zhb.erase := by kernel_rfl
theorem Zlb : Z2z Try.prog [] Ze2 = some Zhe.erase := by kernel_rfl
theorem Zlc : Z2z Try.prog [(2, 6), (2, 5)] Ze3 = some Zhs.erase := by kernel_rfl
theorem Zld : Z2z Try.prog [] Zee = some Zi9.erase := by kernel_rfl
theorem Zle : Z2z Try.prog [] Zf8 = some Zir.erase := by kernel_rfl
theorem Zlf : Z2z Try.prog [] Zf9 = some Ziu.erase := by kernel_rfl
theorem Zlg : Z2z Try.prog [] Zfa = some Ziz.erase := by kernel_rfl
theorem Zlh : Z2z Try.prog [] Zfb = some Zj2.erase := by kernel_rfl
theorem Zli : Z2z Try.prog [] Zfc = some Zjb.erase := by kernel_rfl
theorem Zlj : Z2z Try.prog [] Zfe = some Zkf.erase := by kernel_rfl
theorem Zlk : Z2z Try.prog [] Zg5 = some Zl5.erase := by kernel_rfl
end Go.Abs
set_option linter.unusedVariables false
set_option linter.unusedSimpArgs false
namespace Go.Abs
open Go
inductive Ty where
  | mk (kind : Int) (names : List (List UInt8)) (kids : List Ty) (len prec scale : Int)
namespace Ty
def kind : Ty → Int | .mk k _ _ _ _ _ => k
def names : Ty → List (List UInt8) | .mk _ n _ _ _ _ => n
def kids : Ty → List Ty | .mk _ _ ks _ _ _ => ks
def len : Ty → Int | .mk _ _ _ l _ _ => l
def prec : Ty → Int | .mk _ _ _ _ p _ => p
def scale : Ty → Int | .mk _ _ _ _ _ s => s
theorem ind {p : Ty → Prop} (h : ∀ k ns ks l pr s, (∀ t ∈ ks, p t) → p (.mk k ns ks l pr s)) : ∀ t, p t := by
  intro t
  refine Ty.rec (motive_1 := p) (motive_2 := fun l => ∀ t ∈ l, p t) ?_ ?_ ?_ t
  · intro k ns ks l pr s ih; exact h k ns ks l pr s ih
  · intro t ht; cases ht
  · intro a l ha hl t ht
    rcases List.mem_cons.1 ht with rfl | ht
    · exact ha
    · exact hl t ht
end Ty
def Zll (ns : List (List UInt8)) : Z0 := .slc 1 (ns.map .str) false
mutual
def encT : Ty → Z0
  | .mk k ns ks l p s => .agg [.int .i64 k, .slc 1 (ns.map .str) false, .slc 6 (Zlm ks) false, .int .i64 l, .int .i64 p, .int .i64 s]
def Zlm : List Ty → List Z0
  | [] => []
  | t :: ts => encT t :: Zlm ts
end
def Zln (t : Ty) : List Z0 := [.int .i64 t.kind, .slc 1 (t.names.map .str) false, .slc 6 (Zlm t.kids) false, .int .i64 t.len, .int .i64 t.prec, .int .i64 t.scale]
theorem Zlo (t : Ty) : encT t = .agg (Zln t) := by cases t; simp only [encT, Zln, Ty.kind, Ty.names, Ty.kids, Ty.len, Ty.prec, Ty.scale]
theorem Zlp (ts : List Ty) : Zlm ts = ts.map encT := by
  induction ts with
  | nil => rfl
  | cons t ts ih => simp [Zlm, ih]
theorem Zlq (ts : List Ty) : (Zlm ts).length = ts.length := by simp [Zlp]
theorem Zlr {ts : List Ty} {i : Nat} {t : Ty} (h : ts[i]? = some t) : (Zlm ts)[i]? = some (encT t) := by simp [Zlp, h]
def Zls (k : Int) : Bool := !(decide (k = 10) || decide (k = 11) || decide (k = 12) || decide (k = 13))
def Zlt (ns : List (List UInt8)) : Bool := ns.all (fun s => decide (s ≠ [] ∧ s.length ≤ 100)) && decide ns.Nodup
def Zlu (k : Int) (names kids : Nat) : Bool :=
  if k = 10 then kids == 1 else if k = 11 then kids == 2 else if k = 12 then kids == names else if k = 13 then decide (1 ≤ kids ∧ kids ≤ 255) else kids == 0
def Zlv (k : Int) (ns : List (List UInt8)) (kids : Nat) (l p s : Int) : Bool :=
  Zlu k ns.length kids && (decide (k = 12) || ns.isEmpty) && Zlt ns &&
  (if k = 16 ∨ k = 17 then decide (1 ≤ l ∧ l ≤ 4096) else decide (l = 0)) &&
  (if k = 14 then decide (1 ≤ p ∧ p ≤ 18 ∧ 0 ≤ s ∧ s ≤ p) else decide (p = 0 ∧ s = 0))
def ownF (k : Int) (ns : List (List UInt8)) (kids : Nat) (l p s : Int) : Nat :=
  if k = 5 ∨ k = 6 then 5 else if k < 0 ∨ 17 < k ∨ Zlv k ns kids l p s = false then 1 else 0
mutual
def chk (deep n : Nat) : Ty → Nat × Nat
  | .mk k ns ks l p s => if 16 < deep ∨ 100 ≤ n then (n, 4) else if ownF k ns ks.length l p s ≠ 0 then (n, ownF k ns ks.length l p s) else chkL (deep + 1) (n + 1) ks
def chkL (deep n : Nat) : List Ty → Nat × Nat
  | [] => (n, 0)
  | t :: ts => if (chk deep n t).2 ≠ 0 then chk deep n t else chkL deep (chk deep n t).1 ts
end
def Zlw (t : Ty) : Nat := (chk 1 0 t).2
mutual
def cnt : Ty → Nat
  | .mk _ _ ks _ _ _ => 1 + cntL ks
def cntL : List Ty → Nat
  | [] => 0
  | t :: ts => cnt t + cntL ts
end
def Zlx (at_ : Nat) : List Ty → List Nat
  | [] => []
  | t :: ts => at_ :: Zlx (at_ + cnt t) ts
structure Nd where
  t : Ty
  kids : List Nat
  parent : Int
  deep : Nat
mutual
def Zly (at_ : Nat) (parent : Int) (deep : Nat) : Ty → List Nd
  | .mk k ns ks l p s => ⟨.mk k ns ks l p s, Zlx (at_ + 1) ks, parent, deep⟩ :: Zlz (at_ + 1) (at_ : Int) (deep + 1) ks
def Zlz (at_ : Nat) (parent : Int) (deep : Nat) : List Ty → List Nd
  | [] => []
  | t :: ts => Zly at_ parent deep t ++ Zlz (at_ + cnt t) parent deep ts
end
theorem Zm0 : (∀ t : Ty, ∀ at_ parent deep, (Zly at_ parent deep t).length = cnt t) := by
  refine Ty.ind fun k ns ks l p s ih at_ parent deep => ?_
  have hL : ∀ (ks : List Ty), (∀ t ∈ ks, ∀ at_ parent deep, (Zly at_ parent deep t).length = cnt t) → ∀ at_ parent deep, (Zlz at_ parent deep ks).length = cntL ks := by
    intro ks
    induction ks with
    | nil => intro _ at_ parent deep; simp [Zlz, cntL]
    | cons t ts ih2 =>
      intro h at_ parent deep
      simp only [Zlz, cntL, List.length_append]
      rw [h t (by simp), ih2 (fun t ht => h t (by simp [ht]))]
  simp only [Zly, cnt, List.length_cons]
  rw [hL ks ih]; omega
def ints (l : List Nat) : List Z0 := l.map fun (n : Nat) => Z0.int .i64 (n : Int)
def Zm1 (n : Nd) : List Z0 := [.int .i64 n.t.kind, .slc 1 (ints n.kids) true, .slc 1 (n.t.names.map .str) true, .int .i64 n.t.len, .int .i64 n.t.prec, .int .i64 n.t.scale, .int .i64 n.parent, .int .i64 (n.deep : Int)]
def Zm2 (n : Nd) : List Z0 := Zln n.t ++ [.slc 1 (ints n.kids) false, .int .i64 n.parent, .int .i64 (n.deep : Int)]
def encN (n : Nd) : Z0 := .agg (Zm1 n)
def encR (n : Nd) : Z0 := .agg (Zm2 n)
def Zm3 (t : Ty) : List Nd := if Zlw t = 0 then Zly 0 (-1) 1 t else []
end Go.Abs
set_option linter.unusedVariables false
set_option linter.unusedSimpArgs false
namespace Go.Abs
open Go
inductive Vl where
  | mk (null : Bool) (i n : Int) (b : List UInt8) (kids : List Vl)
instance : Inhabited Ty := ⟨.mk 0 [] [] 0 0 0⟩
instance : Inhabited Vl := ⟨.mk false 0 0 [] []⟩
namespace Vl
def null : Vl → Bool | .mk x _ _ _ _ => x
def i : Vl → Int | .mk _ x _ _ _ => x
def n : Vl → Int | .mk _ _ x _ _ => x
def b : Vl → List UInt8 | .mk _ _ _ x _ => x
def kids : Vl → List Vl | .mk _ _ _ _ x => x
theorem ind {p : Vl → Prop} (h : ∀ nu i n b ks, (∀ v ∈ ks, p v) → p (.mk nu i n b ks)) : ∀ v, p v := by
  intro v
  refine Vl.rec (motive_1 := p) (motive_2 := fun l => ∀ v ∈ l, p v) ?_ ?_ ?_ v
  · intro nu i n b ks ih; exact h nu i n b ks ih
  · intro v hv; cases hv
  · intro a l ha hl v hv
    rcases List.mem_cons.1 hv with rfl | hv
    · exact ha
    · exact hl v hv
end Vl
mutual
def encV : Vl → Z0
  | .mk nu i n b ks => .agg [.bool nu, .int .i64 i, .int .i64 n, .slc 1 (bytes b) false, .slc 5 (Zm4 ks) false]
def Zm4 : List Vl → List Z0
  | [] => []
  | v :: vs => encV v :: Zm4 vs
end
def Zm5 (v : Vl) : List Z0 := [.bool v.null, .int .i64 v.i, .int .i64 v.n, .slc 1 (bytes v.b) false, .slc 5 (Zm4 v.kids) false]
theorem Zm6 (v : Vl) : encV v = .agg (Zm5 v) := by cases v; simp only [encV, Zm5, Vl.null, Vl.i, Vl.n, Vl.b, Vl.kids]
theorem Zm7 (vs : List Vl) : Zm4 vs = vs.map encV := by
  induction vs with
  | nil => rfl
  | cons v vs ih => simp [Zm4, ih]
theorem Zm8 (vs : List Vl) : (Zm4 vs).length = vs.length := by simp [Zm7]
theorem Zm9 {vs : List Vl} {i : Nat} {v : Vl} (h : vs[i]? = some v) : (Zm4 vs)[i]? = some (encV v) := by simp [Zm7, h]
def Zma (k : Int) : Bool := decide (k = 7) || decide (k = 16) || decide (k = 17) || decide (k = 8)
def digN (u : Nat) : Nat := if _h : u < 10 then 1 else digN (u / 10) + 1
termination_by u
decreasing_by exact Nat.div_lt_self (Nat.lt_of_lt_of_le (by decide) (Nat.le_of_not_lt _h)) (by decide)
def Zmb (b : List UInt8) : Nat := (b.filter fun c => decide (c.toNat / 64 ≠ 2)).length
def Zmc (i n : Int) : Bool := decide (-1099511627776 ≤ i ∧ i ≤ 1099511627776 ∧ 0 ≤ n ∧ n < 1000000000)
def Zmd (k : Int) (kids : Nat) (prec i n : Int) : Bool :=
  if n ≠ 0 ∧ k ≠ 9 then false
  else if k = 0 then decide (i = 0 ∨ i = 1)
  else if k = 1 then decide (-128 ≤ i ∧ i ≤ 127)
  else if k = 2 then decide (-32768 ≤ i ∧ i ≤ 32767)
  else if k = 3 ∨ k = 15 then decide (-2147483648 ≤ i ∧ i ≤ 2147483647)
  else if k = 4 then true
  else if k = 14 then decide ((digN i.natAbs : Int) ≤ prec)
  else if k = 9 then Zmc i n
  else if k = 13 then decide (0 ≤ i ∧ i < kids)
  else decide (i = 0)
def Zme (k i : Int) (j : Nat) : Nat := if k = 10 then 0 else if k = 11 then j % 2 else if k = 13 then i.toNat else j
def kidT (t : Ty) (i : Int) (j : Nat) : Ty := t.kids.getD (Zme t.kind i j) default
def ownV (t : Ty) (i n : Int) (b : List UInt8) (kids : Nat) : Nat :=
  if Zmd t.kind t.kids.length t.prec i n = false ∨ (b ≠ [] ∧ Zma t.kind = false) ∨ (kids ≠ 0 ∧ Zls t.kind = true) then 1
  else if 4096 < b.length ∨ ((t.kind = 16 ∨ t.kind = 17) ∧ t.len < (Zmb b : Int)) then 4
  else if t.kind = 10 then (if 16384 < kids then 4 else 0)
  else if t.kind = 11 then (if kids % 2 ≠ 0 then 1 else if 32768 < kids then 4 else 0)
  else if t.kind = 12 then (if kids ≠ t.kids.length then 1 else 0)
  else if t.kind = 13 then (if kids ≠ 1 then 1 else 0)
  else 0
mutual
def vchk (t : Ty) : Vl → Nat
  | .mk nu i n b ks =>
    if nu = true then (if i ≠ 0 ∨ n ≠ 0 ∨ b ≠ [] ∨ ks.length ≠ 0 then 1 else 0)
    else if ownV t i n b ks.length ≠ 0 then ownV t i n b ks.length
    else Zmf t i 0 ks
def Zmf (t : Ty) (i : Int) (j : Nat) : List Vl → Nat
  | [] => 0
  | k :: ks => if t.kind = 11 ∧ j % 2 = 0 ∧ k.null = true then 1 else if vchk (kidT t i j) k ≠ 0 then vchk (kidT t i j) k else Zmf t i (j + 1) ks
end
theorem Zmg (u : Nat) : 1 ≤ digN u := by
  rw [digN]; split <;> omega
theorem Zmh : ∀ (k u : Nat), 1 ≤ k → u < 10 ^ k → digN u ≤ k
  | 0, u, h, _ => absurd h (by omega)
  | k + 1, u, _, h => by
    rw [digN]
    split
    · omega
    · rename_i hu
      have : digN (u / 10) ≤ k := Zmh k (u / 10) (by
        cases k with
        | zero => simp at h; omega
        | succ k => omega) (by rw [Nat.pow_succ] at h; omega)
      omega
theorem Zmi {u : Nat} (h : u ≤ 18446744073709551615) : digN u ≤ 20 := Zmh 20 u (by decide) (Nat.lt_of_le_of_lt h (by decide))
theorem Zmj (b : List UInt8) : Zmb b ≤ b.length := List.length_filter_le _ _
theorem Zmk {b : List UInt8} {i : Nat} {c : UInt8} (h : b[i]? = some c) : Zmb (b.take (i + 1)) = Zmb (b.take i) + (if c.toNat / 64 ≠ 2 then 1 else 0) := by
  rw [List.take_add_one, h]
  simp only [Zmb, Option.toList_some, List.filter_append, List.length_append]
  congr 1
  by_cases hc : c.toNat / 64 = 2 <;> simp [hc]
end Go.Abs
namespace Go.Abs.Names
open Go Go.Proofs Go.RowKit Go.Maps
set_option linter.unusedVariables false
set_option linter.unusedSimpArgs false
def Dn (ns : List (List UInt8)) : DataW Unit := ns.foldl (fun D s => D.put (.string s) (.lit (.bool true))) (.map [])
theorem Zml (s : List UInt8) : WideAt.IsKeyLit (.string s) := by first | exact trivial | exact WideAt.IsKeyLit.string | simp [WideAt.IsKeyLit]
theorem Zmm : ∀ (ns : List (List UInt8)) (D : DataW Unit), IsMap D → IsMap (ns.foldl (fun D s => D.put (.string s) (.lit (.bool true))) D)
  | [], D, h => h
  | s :: ns, D, h => Zmm ns _ (by first | exact h.put _ _ | exact isMap_put h _ _)
theorem Zmn (ns : List (List UInt8)) (s : List UInt8) : Dn (ns ++ [s]) = (Dn ns).put (.string s) (.lit (.bool true)) := by simp [Dn]
theorem Zmo : ∀ (ns : List (List UInt8)) (s : List UInt8), (Dn ns).atKey (.string s) (.lit (.bool false)) = .lit (.bool (decide (s ∈ ns))) := by
  intro ns s
  have : ∀ (ns : List (List UInt8)) (D : DataW Unit) (c : Bool), IsMap D → D.atKey (.string s) (.lit (.bool false)) = .lit (.bool c) →
      (ns.foldl (fun D s => D.put (.string s) (.lit (.bool true))) D).atKey (.string s) (.lit (.bool false)) = .lit (.bool (c || decide (s ∈ ns))) := by
    intro ns
    induction ns with
    | nil => intro D c hD h; simpa using h
    | cons u ns ih =>
      intro D c hD h
      have hD' : IsMap (D.put (.string u) (.lit (.bool true))) := by first | exact hD.put _ _ | exact isMap_put hD _ _
      by_cases e : s = u
      · subst e
        have := ih _ true hD' (atKey_put_same hD (Zml s) _ _)
        simpa using this
      · have := ih _ c hD' ((atKey_put_other (by simpa using e) _ _).trans h)
        simpa [e] using this
  exact (this ns _ false (by first | exact ⟨_, rfl⟩ | exact trivial | simp [IsMap]) rfl).trans (by simp)
def str (s : List UInt8) : Value := .string ⟨s.toArray⟩
def okTo (ns : List (List UInt8)) (k : Nat) : Prop := ∀ (a : Nat) (s : List UInt8), a < k → ns[a]? = some s → (s ≠ [] ∧ s.length ≤ 100) ∧ s ∉ ns.take a
theorem law9 : Keyed Try.prog 9 := string_keyed Try.underlying9
theorem Zmp (w : World) : (zeroValue 4).run Try.prog w = .ok (.bool false) w := by kernel_rfl
theorem Zmq {P : Program} {e : TypeId} {v : Value} {y : DataW Unit × List MemPlace} (he : P.underlying e = some .bool) (h : plainElem P e v = some y) : ∃ c, v = .bool c ∧ y = (.lit (.bool c), []) := by
  unfold plainElem at h
  rw [he] at h
  cases v <;> simp at h
  exact ⟨_, rfl, h.symm⟩
theorem look (ns : List (List UInt8)) (s : List UInt8) (hs : s.length ≤ maxLen) {w : World} {b n : Nat} (h : w.ownsMap Try.prog 9 (plainElem Try.prog 4) b n (Dn ns)) :
    (Instr.lookup 212 (.map (some b)) (str s) false).run Try.prog w = .ok (.bool (decide (s ∈ ns))) w := by
  have hk : keyOf Try.prog 9 (str s) = some (.string s) := by
    have := Go.WideMaps.keyOf_string_mk (P := Try.prog) (k := 9) Try.underlying9 (s := ⟨s.toArray⟩) (by simpa [ByteArray.size] using hs)
    simpa [str] using this
  obtain ⟨v, ps, hrun, hv⟩ := h.lookup law9 Try.underlying212 (Zmp w) (zd := .lit (.bool false)) (zp := []) (by simp [plainElem, Try.underlying4]) hk
  rw [Zmo] at hv
  obtain ⟨c, rfl, e⟩ := Zmq Try.underlying4 hv
  simp only [Prod.mk.injEq, DataW.lit.injEq, Lit.bool.injEq] at e
  rw [hrun, e.1]
set_option maxHeartbeats 1600000 in
set_option maxRecDepth 100000 in
theorem names_any (b off len cap : Nat) (ns : List (List UInt8)) (w : World) (hl : ns.length = len) (hm : len ≤ 140737488355328) (hb : b < w.heap.size)
    (hc : ∀ j, j < len → w.cell? ⟨b, off + j, none⟩ = some (str (ns.getD j []))) (hw : ∀ s ∈ ns, s.length ≤ maxLen) (R : Bool) (hR : R = true ↔ okTo ns len) :
    Calls Try.prog 156 #[.slice (some ⟨b, off, none⟩) len cap] w fun e w' => e = .returned (.bool R) ∧ Below w.heap.size w w' := by
  have hmm := @run_makeMap Try.prog
  have hm' : len ≤ 140737488355328 := hm
  go_enter Try.func156, Try.ntmps156
  go_wp2
  go_loopw [9] (fun i wr => ∃ k : Nat, k ≤ len ∧ i = .int .i64 k ∧ wr.ownsMap Try.prog 9 (plainElem Try.prog 4) w.heap.size k (Dn (ns.take k)) ∧ Below w.heap.size w wr ∧ okTo ns k)
    (fun i _ => len - (intOf i).toNat)
  case atStart => exact ⟨0, Nat.zero_le _, rfl, by exact World.ownsMap_made _ _ _ _, (Below.refl _ _).alloc (Nat.le_refl _) _, fun a s h => absurd h (by omega)⟩
  case round =>
    obtain ⟨k, hk, rfl, hown, hnx, hok⟩ := hrel
    have hcx : k < len → wr.cell? ⟨b, off + k, none⟩ = some (.string ⟨(ns.getD k []).toArray⟩) := fun _ => (hnx.cell (by exact hb)).trans (hc k (by omega))
    generalize hs : ns.getD k [] = s at hcx
    have hsl : s.length ≤ maxLen := by
      rw [List.getD_eq_getElem?_getD] at hs
      cases h : ns[k]? with
      | none => rw [h] at hs; subst hs; simp
      | some u => rw [h] at hs; simp at hs; subst hs; exact hw u (List.mem_of_getElem? h)
    have hkey : keyOf Try.prog 9 (.string ⟨s.toArray⟩) = some (.string s) := by
      have := Go.WideMaps.keyOf_string_mk (P := Try.prog) (k := 9) Try.underlying9 (s := ⟨s.toArray⟩) (by simpa [ByteArray.size] using hsl)
      simpa using this
    have hlook : (Instr.lookup 212 (.map (some w.heap.size)) (.string ⟨s.toArray⟩) false).run Try.prog wr = .ok (.bool (decide (s ∈ ns.take k))) wr := look (ns.take k) s hsl hown
    have bad : k < len → ¬ ((s ≠ [] ∧ s.length ≤ 100) ∧ s ∉ ns.take k) → R = false := fun hlt h => by
      cases hR' : R with
      | false => rfl
      | true =>
        refine absurd ((hR.1 hR') k s hlt ?_) h
        rw [← hs, List.getD_eq_getElem?_getD, List.getElem?_eq_getElem (by omega)]; rfl
    obtain ⟨w1, hupd, hown1, hgrow1⟩ := hown.update law9 Try.underlying212 (by unfold maxLen; omega) hkey (plainElem_bool Try.underlying4 true)
    go_wp2
    · have hb' := bad (by assumption) (fun h => h.1.1 (by assumption))
      go_ret
      exact ⟨by rw [hb']; rfl, hnx⟩
    · have hb' := bad (by assumption) (fun h => by
        rename_i h1 h2 h3 h4
        have h4' : (s.isEmpty = true ∨ 100 < (s.length : Int)) ∨ s ∈ List.take k ns := by assumption
        rcases h4' with (h4 | h4) | h4
        · exact h.1.1 (by simpa using h4)
        · have := h.1.2; omega
        · exact h.2 h4)
      go_ret
      exact ⟨by rw [hb']; rfl, hnx⟩
    · have hlt : k < len := by assumption
      have Zd : ns[k]? = some s := by rw [← hs, List.getD_eq_getElem?_getD, List.getElem?_eq_getElem (by omega)]; rfl
      have htake : ns.take (k + 1) = ns.take k ++ [s] := by rw [List.take_add_one, Zd]; rfl
      have hne : ¬ s = [] := by assumption
      have h100 : (s.length : Int) ≤ 100 := by assumption
      have hnin : (s.isEmpty = false ∧ (s.length : Int) ≤ 100) ∧ ¬s ∈ List.take k ns := by assumption
      go_roundw
      case rel =>
        refine ⟨k + 1, by omega, by first | go_num | (refine congrArg _ ?_; rw [IntWalk.wrap64_in _ (by omega)]; omega) | (simp; rw [IntWalk.wrap64_in _ (by omega)]; omega), ?_, ?_, ?_⟩
        · rw [htake, Zmn]; exact hown1
        · exact hnx.grown hgrow1 hnx.size (fun j hj => by cases hj; exact Nat.le_refl _)
        · intro a u ha hu
          by_cases e : a = k
          · subst e
            rw [Zd] at hu; cases hu
            exact ⟨⟨hne, by omega⟩, hnin.2⟩
          · exact hok a u (by omega) hu
      case measure => simp [intOf]; omega
    · have hb' := bad (by assumption) (fun h => by have := h.1.2; omega)
      go_ret
      exact ⟨by rw [hb']; rfl, hnx⟩
    · have : k = len := by omega
      subst this
      go_ret
      exact ⟨by rw [hR.2 hok]; rfl, hnx⟩
set_option maxRecDepth 100000 in
theorem names_none (a : Option Addr) (cap : Nat) (w : World) : Calls Try.prog 156 #[.slice a 0 cap] w fun e w' => e = .returned (.bool true) ∧ Below w.heap.size w w' := by
  have hmm := @run_makeMap Try.prog
  go_enter Try.func156, Try.ntmps156
  go_wp2
  refine wp_loop_rounds 1 ?_
  rw [rounds_succ]
  go_wp2
  go_ret
  exact ⟨rfl, (Below.refl _ _).alloc (Nat.le_refl _) _⟩
end Go.Abs.Names
namespace Go.Abs
open Go Go.Proofs Go.RowKit
theorem Zmr {K : Kr} {σ : Zc} {w w' : World} (r : Rel K σ w) (h : Below w.heap.size w w') : Rel K σ w' := by
  have hle := h.size
  refine ⟨r.ext.trans (h.mono ?_), r.oth.trans ⟨hle, fun k o hk _ => by rw [h.block k (Array.getElem?_eq_some_iff.1 hk).1]; exact hk⟩, fun b o v hb => ?_, r.nd, r.bnd, fun b L cb h1 h2 => Nat.lt_of_lt_of_le (r.lit b L cb h1 h2) hle, fun b blk hb => ?_, r.inj⟩
  · exact r.ext.size
  · have h1 := r.imm b o v hb
    have hlt : b < w.heap.size := by
      unfold World.cell? at h1
      split at h1
      · rename_i hh
        exact (Array.getElem?_eq_some_iff.1 hh).1
      · cases h1
    rw [h.cell hlt]; exact h1
  · have ho := r.own b blk hb
    cases blk with
    | cells sz xs =>
      refine ⟨ho.1, ?_⟩
      rcases ho.2 with h1 | ⟨cb, p, cs, ty, h1, h2, h3, h4, h5⟩
      · exact .inl h1
      · exact .inr ⟨cb, p, cs, ty, h1, h2, h3, (h.block cb (Array.getElem?_eq_some_iff.1 h4).1).trans h4, h5⟩
theorem Zms {ns : List (List UInt8)} : Zlt ns = true ↔ ∀ (a : Nat) (s : List UInt8), ns[a]? = some s → (s ≠ [] ∧ s.length ≤ 100) ∧ ∀ (k : Nat) (u : List UInt8), k < a → ns[k]? = some u → u ≠ s := by
  rw [Zlt, Bool.and_eq_true, List.all_eq_true, decide_eq_true_eq]
  constructor
  · rintro ⟨h1, h2⟩ a s hs
    refine ⟨by simpa using h1 s (List.mem_of_getElem? hs), fun k u hk hu e => ?_⟩
    subst e
    obtain ⟨ha, e1⟩ := List.getElem?_eq_some_iff.1 hs
    obtain ⟨hk', e2⟩ := List.getElem?_eq_some_iff.1 hu
    exact List.pairwise_iff_getElem.1 h2 k a hk' ha hk (e2.trans e1.symm)
  · intro h
    refine ⟨fun s hs => ?_, List.pairwise_iff_getElem.2 fun k a hk ha hka e => ?_⟩
    · obtain ⟨a, ha⟩ := List.getElem?_of_mem hs
      simpa using (h a s ha).1
    · exact (h a ns[a] (List.getElem?_eq_getElem ha)).2 k ns[k] hka (List.getElem?_eq_getElem hk) e
theorem Zmt {ns : List (List UInt8)} {len : Nat} (hl : ns.length = len) : Zlt ns = true ↔ Names.okTo ns len := by
  rw [Zms]
  constructor
  · intro h a s _ hs
    refine ⟨(h a s hs).1, fun hm => ?_⟩
    obtain ⟨k, hk⟩ := List.getElem?_of_mem hm
    rw [List.getElem?_take] at hk
    split at hk
    · exact (h a s hs).2 k s (by assumption) hk rfl
    · cases hk
  · intro h a s hs
    have ha := (List.getElem?_eq_some_iff.1 hs).1
    refine ⟨(h a s (by omega) hs).1, fun k u hk hu e => (h a s (by omega) hs).2 ?_⟩
    subst e
    refine List.mem_of_getElem? (i := k) ?_
    rw [List.getElem?_take_of_lt hk]; exact hu
theorem Zmu (ns : List (List UInt8)) (f : Bool) (hl : ns.length ≤ 140737488355328) (hs : ∀ s ∈ ns, s.length ≤ maxLen) (σ : Zc) : Z1q Try.prog 156 [.slc 1 (ns.map .str) f] σ fun r σ' => r = .bool (Zlt ns) ∧ σ' = σ := by
  intro K w vs hr hv
  have fin : (Calls Try.prog 156 vs.toArray w fun e w' => e = .returned (.bool (Zlt ns)) ∧ Below w.heap.size w w') → Calls Try.prog 156 vs.toArray w fun e w' => ∃ v K' r σ', e = .returned v ∧ K.le K' ∧ Rel K' σ' w' ∧ VR K' r v ∧ r = .bool (Zlt ns) ∧ σ' = σ := fun h =>
    h.mono fun e w' ⟨h1, h2⟩ => ⟨_, K, .bool (Zlt ns), σ, h1, Kr.le.refl K, Zmr hr h2, Z1.bool .nil, rfl, rfl⟩
  refine fin ?_
  obtain ⟨v, vs', rfl, h1, h2⟩ := hv.ex
  obtain rfl := h2.nil_inv
  unfold VR at h1
  generalize hxs : ns.map Z0.str = xs at h1
  cases h1 with
  | @slc0 _ _ a cap _ _ hf r =>
    have : ns = [] := List.map_eq_nil_iff.1 hxs
    subst this
    exact Names.names_none a cap w
  | @slc _ _ _ a n cap us _ _ hn he hsp hm hvv hc hf r =>
    subst hxs
    obtain ⟨b, o, sp⟩ := a
    simp only at hsp hm
    subst hsp
    have hnl : ns.length = n := by simpa using hn
    by_cases h0 : n = 0
    · subst h0
      have : ns = [] := List.length_eq_zero_iff.1 hnl
      subst this
      exact Names.names_none _ cap w
    have hcell : ∀ j, j < n → w.cell? ⟨b, o + j, none⟩ = some (Names.str (ns.getD j [])) := by
      intro j hj
      have hfl : ((ns.map Z0.str).flatMap Z0.cells)[j]? = some (.str (ns.getD j [])) := by
        have : (ns.map Z0.str).flatMap Z0.cells = ns.map Z0.str := by
          clear hm hvv he hn hr hv h2 fin hs hl hnl
          induction ns with
          | nil => rfl
          | cons s ns ih => simp only [List.map_cons, List.flatMap_cons, ih]; rfl
        rw [this, List.getElem?_map, List.getD_eq_getElem?_getD, List.getElem?_eq_getElem (by omega)]; rfl
      obtain ⟨u, hu, hvu⟩ := hvv.get hfl
      have := hm j u hu
      have hw := hr.imm _ _ _ this
      rw [hw]
      unfold VR at hvu
      cases hvu with
      | str _ => rfl
    have hb : b < w.heap.size := by
      have h1 := hcell 0 (by omega)
      unfold World.cell? at h1
      split at h1
      · rename_i hh
        exact (Array.getElem?_eq_some_iff.1 hh).1
      · cases h1
    exact Names.names_any b o n cap ns w hnl (by omega) hb hcell hs (Zlt ns) (Zmt hnl)
end Go.Abs
namespace Go.Abs
open Go Go.Proofs
set_option linter.unusedVariables false
set_option linter.unusedSimpArgs false
set_option maxHeartbeats 4000000
attribute [local irreducible] AWp aops KP
theorem Zmv (k : Int) (σ : Zc) : Z1q Try.prog Zfc [.int .i64 k] σ fun r σ' => r = .bool (Zls k) ∧ σ' = σ := by
  refine Z8t rfl Zli (Nat.le_of_ble_eq_true rfl) ?_
  by_cases h10 : k = 10
  · subst h10; (repeat (first | refine st_q rfl rfl rfl ?_ | refine Z8v rfl (st_q rfl rfl rfl ?_) | refine Z8w rfl ?_ | refine Z8x rfl ?_ | (refine Z8y ?_; (repeat (first | refine Z9v rfl ?_ | refine Z9w ?_)); refine Z9u ?_) | refine awp_seq ?_ | refine Zbm (fun _ _ => rfl) ?_ | refine Z8h ?_ | refine Zbn (fun _ _ => rfl) ?_ | refine Zbo (fun _ _ => rfl) ?_ | refine Z8f (t := true) rfl (fun _ => ?_) (fun e => by cases e) | refine Z8f (t := false) rfl (fun e => by cases e) (fun _ => ?_))); refine Z8d ?_; exact ares rfl (HSub.refl _) ⟨rfl, rfl⟩
  by_cases h11 : k = 11
  · subst h11; (repeat (first | refine st_q rfl rfl rfl ?_ | refine Z8v rfl (st_q rfl rfl rfl ?_) | refine Z8w rfl ?_ | refine Z8x rfl ?_ | (refine Z8y ?_; (repeat (first | refine Z9v rfl ?_ | refine Z9w ?_)); refine Z9u ?_) | refine awp_seq ?_ | refine Zbm (fun _ _ => rfl) ?_ | refine Z8h ?_ | refine Zbn (fun _ _ => rfl) ?_ | refine Zbo (fun _ _ => rfl) ?_ | refine Z8f (t := true) rfl (fun _ => ?_) (fun e => by cases e) | refine Z8f (t := false) rfl (fun e => by cases e) (fun _ => ?_))); refine Z8d ?_; exact ares rfl (HSub.refl _) ⟨rfl, rfl⟩
  by_cases h12 : k = 12
  · subst h12; (repeat (first | refine st_q rfl rfl rfl ?_ | refine Z8v rfl (st_q rfl rfl rfl ?_) | refine Z8w rfl ?_ | refine Z8x rfl ?_ | (refine Z8y ?_; (repeat (first | refine Z9v rfl ?_ | refine Z9w ?_)); refine Z9u ?_) | refine awp_seq ?_ | refine Zbm (fun _ _ => rfl) ?_ | refine Z8h ?_ | refine Zbn (fun _ _ => rfl) ?_ | refine Zbo (fun _ _ => rfl) ?_ | refine Z8f (t := true) rfl (fun _ => ?_) (fun e => by cases e) | refine Z8f (t := false) rfl (fun e => by cases e) (fun _ => ?_))); refine Z8d ?_; exact ares rfl (HSub.refl _) ⟨rfl, rfl⟩
  by_cases h13 : k = 13
  · subst h13; (repeat (first | refine st_q rfl rfl rfl ?_ | refine Z8v rfl (st_q rfl rfl rfl ?_) | refine Z8w rfl ?_ | refine Z8x rfl ?_ | (refine Z8y ?_; (repeat (first | refine Z9v rfl ?_ | refine Z9w ?_)); refine Z9u ?_) | refine awp_seq ?_ | refine Zbm (fun _ _ => rfl) ?_ | refine Z8h ?_ | refine Zbn (fun _ _ => rfl) ?_ | refine Zbo (fun _ _ => rfl) ?_ | refine Z8f (t := true) rfl (fun _ => ?_) (fun e => by cases e) | refine Z8f (t := false) rfl (fun e => by cases e) (fun _ => ?_))); refine Z8d ?_; exact ares rfl (HSub.refl _) ⟨rfl, rfl⟩
  (repeat (first | refine st_q rfl rfl rfl ?_ | refine Z8v rfl (st_q rfl rfl rfl ?_) | refine Z8w rfl ?_ | refine Z8x rfl ?_ | (refine Z8y ?_; (repeat (first | refine Z9v rfl ?_ | refine Z9w ?_)); refine Z9u ?_) | refine awp_seq ?_ | refine Zbm (fun _ _ => rfl) ?_ | refine Z8h ?_ | refine Zbn (fun _ _ => rfl) ?_ | refine Zbo (fun _ _ => rfl) ?_ | refine Z8f (t := true) rfl (fun _ => ?_) (fun e => by cases e) | refine Z8f (t := false) rfl (fun e => by cases e) (fun _ => ?_)))
  rw [decide_eq_false h10]
  (repeat (first | refine st_q rfl rfl rfl ?_ | refine Z8v rfl (st_q rfl rfl rfl ?_) | refine Z8w rfl ?_ | refine Z8x rfl ?_ | (refine Z8y ?_; (repeat (first | refine Z9v rfl ?_ | refine Z9w ?_)); refine Z9u ?_) | refine awp_seq ?_ | refine Zbm (fun _ _ => rfl) ?_ | refine Z8h ?_ | refine Zbn (fun _ _ => rfl) ?_ | refine Zbo (fun _ _ => rfl) ?_ | refine Z8f (t := true) rfl (fun _ => ?_) (fun e => by cases e) | refine Z8f (t := false) rfl (fun e => by cases e) (fun _ => ?_)))
  rw [decide_eq_false h11]
  (repeat (first | refine st_q rfl rfl rfl ?_ | refine Z8v rfl (st_q rfl rfl rfl ?_) | refine Z8w rfl ?_ | refine Z8x rfl ?_ | (refine Z8y ?_; (repeat (first | refine Z9v rfl ?_ | refine Z9w ?_)); refine Z9u ?_) | refine awp_seq ?_ | refine Zbm (fun _ _ => rfl) ?_ | refine Z8h ?_ | refine Zbn (fun _ _ => rfl) ?_ | refine Zbo (fun _ _ => rfl) ?_ | refine Z8f (t := true) rfl (fun _ => ?_) (fun e => by cases e) | refine Z8f (t := false) rfl (fun e => by cases e) (fun _ => ?_)))
  rw [decide_eq_false h12]
  (repeat (first | refine st_q rfl rfl rfl ?_ | refine Z8v rfl (st_q rfl rfl rfl ?_) | refine Z8w rfl ?_ | refine Z8x rfl ?_ | (refine Z8y ?_; (repeat (first | refine Z9v rfl ?_ | refine Z9w ?_)); refine Z9u ?_) | refine awp_seq ?_ | refine Zbm (fun _ _ => rfl) ?_ | refine Z8h ?_ | refine Zbn (fun _ _ => rfl) ?_ | refine Zbo (fun _ _ => rfl) ?_ | refine Z8f (t := true) rfl (fun _ => ?_) (fun e => by cases e) | refine Z8f (t := false) rfl (fun e => by cases e) (fun _ => ?_)))
  rw [decide_eq_false h13]
  (repeat (first | refine st_q rfl rfl rfl ?_ | refine Z8v rfl (st_q rfl rfl rfl ?_) | refine Z8w rfl ?_ | refine Z8x rfl ?_ | (refine Z8y ?_; (repeat (first | refine Z9v rfl ?_ | refine Z9w ?_)); refine Z9u ?_) | refine awp_seq ?_ | refine Zbm (fun _ _ => rfl) ?_ | refine Z8h ?_ | refine Zbn (fun _ _ => rfl) ?_ | refine Zbo (fun _ _ => rfl) ?_ | refine Z8f (t := true) rfl (fun _ => ?_) (fun e => by cases e) | refine Z8f (t := false) rfl (fun e => by cases e) (fun _ => ?_)))
  refine Z8d ?_
  exact ares rfl (HSub.refl _) ⟨by simp [Zls, h10, h11, h12, h13, Z8m], rfl⟩
theorem Zmw (t : Ty) (hk : t.kids.length ≤ 140737488355328) (hn : t.names.length ≤ 140737488355328) (hsn : ∀ s ∈ t.names, s.length ≤ maxLen) (σ : Zc) : Z1q Try.prog Zg5 [encT t] σ fun r σ' => r = .bool (Zlv t.kind t.names t.kids.length t.len t.prec t.scale) ∧ σ' = σ := by
  obtain ⟨k, ns, ks, l, p, s⟩ := t
  simp only [encT, Ty.kind, Ty.names, Ty.kids, Ty.len, Ty.prec, Ty.scale] at *
  refine Z8t rfl Zlk (Nat.le_of_ble_eq_true rfl) ?_
  refine Z9z ?_
  refine Z9j rfl (Z0.fit_iff.1 rfl) fun b hb => ?_
  (repeat (refine st_q rfl rfl rfl ?_))
  (refine Z8y ?_; (repeat (first | refine Z9v rfl ?_ | refine Z9w ?_)); refine Z9u ?_)
  refine Zb3 (d := 1) (cs := [.int .i64 k, .slc 1 (ns.map .str) false, .slc 6 (Zlm ks) false, .int .i64 l, .int .i64 p, .int .i64 s]) rfl ?_
  have main : ∀ (kn nm : Nat) (sz : Int) (ex : Bool), Zlv k ns ks.length l p s = (decide (ks.length = kn) && decide (ns.length = nm) && decide (l = sz) && Zlt ns && (if ex then decide (1 ≤ p ∧ p ≤ 18 ∧ 0 ≤ s ∧ s ≤ p) else decide (p = 0 ∧ s = 0))) →
      AWp Try.prog Zl5.n (Zl5.code.snd 3) (ARet Zl5.res fun r σ' => r = .bool (Zlv k ns ks.length l p s) ∧ σ' = σ)
        (fset 1 (some (.iptr [.int .i64 k, .slc 1 (ns.map .str) false, .slc 6 (Zlm ks) false, .int .i64 l, .int .i64 p, .int .i64 s])) (fset 3 (some (.int .i64 (kn : Int))) (fset 4 (some (.int .i64 (nm : Int))) (fset 5 (some (.int .i64 sz)) (fset 6 (some (.bool ex)) Z27))))) σ := by
    intro kn nm sz ex hr
    rw [hr]
    (repeat (first | refine st_q rfl rfl rfl ?_ | refine Z8v rfl (st_q rfl rfl rfl ?_) | refine Z8w rfl ?_ | refine Z8x rfl ?_ | (refine Z8y ?_; (repeat (first | refine Z9v rfl ?_ | refine Z9w ?_)); refine Z9u ?_) | refine awp_seq ?_ | refine Zbm (fun _ _ => rfl) ?_ | refine Z8h ?_ | refine Zbn (fun _ _ => rfl) ?_ | refine Zbo (fun _ _ => rfl) ?_ | refine Z8f (t := true) rfl (fun _ => ?_) (fun e => by cases e) | refine Z8f (t := false) rfl (fun e => by cases e) (fun _ => ?_)))
    rw [Zlq]
    by_cases g1 : ks.length = kn
    · (rw [show decide (((ks.length : Nat) : Int) ≠ (kn : Int)) = false from decide_eq_false (by omega)])
      (repeat (first | refine st_q rfl rfl rfl ?_ | refine Z8v rfl (st_q rfl rfl rfl ?_) | refine Z8w rfl ?_ | refine Z8x rfl ?_ | (refine Z8y ?_; (repeat (first | refine Z9v rfl ?_ | refine Z9w ?_)); refine Z9u ?_) | refine awp_seq ?_ | refine Zbm (fun _ _ => rfl) ?_ | refine Z8h ?_ | refine Zbn (fun _ _ => rfl) ?_ | refine Zbo (fun _ _ => rfl) ?_ | refine Z8f (t := true) rfl (fun _ => ?_) (fun e => by cases e) | refine Z8f (t := false) rfl (fun e => by cases e) (fun _ => ?_)))
      rw [List.length_map]
      by_cases g2 : ns.length = nm
      · (rw [show decide (((ns.length : Nat) : Int) ≠ (nm : Int)) = false from decide_eq_false (by omega)])
        (repeat (first | refine st_q rfl rfl rfl ?_ | refine Z8v rfl (st_q rfl rfl rfl ?_) | refine Z8w rfl ?_ | refine Z8x rfl ?_ | (refine Z8y ?_; (repeat (first | refine Z9v rfl ?_ | refine Z9w ?_)); refine Z9u ?_) | refine awp_seq ?_ | refine Zbm (fun _ _ => rfl) ?_ | refine Z8h ?_ | refine Zbn (fun _ _ => rfl) ?_ | refine Zbo (fun _ _ => rfl) ?_ | refine Z8f (t := true) rfl (fun _ => ?_) (fun e => by cases e) | refine Z8f (t := false) rfl (fun e => by cases e) (fun _ => ?_)))
        by_cases g3 : l = sz
        · (rw [show decide (l ≠ sz) = false from decide_eq_false (by omega)])
          (repeat (first | refine st_q rfl rfl rfl ?_ | refine Z8v rfl (st_q rfl rfl rfl ?_) | refine Z8w rfl ?_ | refine Z8x rfl ?_ | (refine Z8y ?_; (repeat (first | refine Z9v rfl ?_ | refine Z9w ?_)); refine Z9u ?_) | refine awp_seq ?_ | refine Zbm (fun _ _ => rfl) ?_ | refine Z8h ?_ | refine Zbn (fun _ _ => rfl) ?_ | refine Zbo (fun _ _ => rfl) ?_ | refine Z8f (t := true) rfl (fun _ => ?_) (fun e => by cases e) | refine Z8f (t := false) rfl (fun e => by cases e) (fun _ => ?_)))
          refine Z8v rfl (Z9t rfl (Zmu ns false hn hsn _) ?_)
          cases hN : Zlt ns with
          | false =>
            (repeat (first | refine st_q rfl rfl rfl ?_ | refine Z8v rfl (st_q rfl rfl rfl ?_) | refine Z8w rfl ?_ | refine Z8x rfl ?_ | (refine Z8y ?_; (repeat (first | refine Z9v rfl ?_ | refine Z9w ?_)); refine Z9u ?_) | refine awp_seq ?_ | refine Zbm (fun _ _ => rfl) ?_ | refine Z8h ?_ | refine Zbn (fun _ _ => rfl) ?_ | refine Zbo (fun _ _ => rfl) ?_ | refine Z8f (t := true) rfl (fun _ => ?_) (fun e => by cases e) | refine Z8f (t := false) rfl (fun e => by cases e) (fun _ => ?_)))
            refine Z8d ?_
            exact ares rfl (HSub.refl _) ⟨by simp [Z8m], rfl⟩
          | true =>
            cases ex with
            | true =>
              (repeat (first | refine st_q rfl rfl rfl ?_ | refine Z8v rfl (st_q rfl rfl rfl ?_) | refine Z8w rfl ?_ | refine Z8x rfl ?_ | (refine Z8y ?_; (repeat (first | refine Z9v rfl ?_ | refine Z9w ?_)); refine Z9u ?_) | refine awp_seq ?_ | refine Zbm (fun _ _ => rfl) ?_ | refine Z8h ?_ | refine Zbn (fun _ _ => rfl) ?_ | refine Zbo (fun _ _ => rfl) ?_ | refine Z8f (t := true) rfl (fun _ => ?_) (fun e => by cases e) | refine Z8f (t := false) rfl (fun e => by cases e) (fun _ => ?_)))
              by_cases q1 : 1 ≤ p
              · (rw [show decide (1 ≤ p) = true from decide_eq_true (by omega)])
                (repeat (first | refine st_q rfl rfl rfl ?_ | refine Z8v rfl (st_q rfl rfl rfl ?_) | refine Z8w rfl ?_ | refine Z8x rfl ?_ | (refine Z8y ?_; (repeat (first | refine Z9v rfl ?_ | refine Z9w ?_)); refine Z9u ?_) | refine awp_seq ?_ | refine Zbm (fun _ _ => rfl) ?_ | refine Z8h ?_ | refine Zbn (fun _ _ => rfl) ?_ | refine Zbo (fun _ _ => rfl) ?_ | refine Z8f (t := true) rfl (fun _ => ?_) (fun e => by cases e) | refine Z8f (t := false) rfl (fun e => by cases e) (fun _ => ?_)))
                by_cases q2 : p ≤ 18
                · (rw [show decide (p ≤ 18) = true from decide_eq_true (by omega)])
                  (repeat (first | refine st_q rfl rfl rfl ?_ | refine Z8v rfl (st_q rfl rfl rfl ?_) | refine Z8w rfl ?_ | refine Z8x rfl ?_ | (refine Z8y ?_; (repeat (first | refine Z9v rfl ?_ | refine Z9w ?_)); refine Z9u ?_) | refine awp_seq ?_ | refine Zbm (fun _ _ => rfl) ?_ | refine Z8h ?_ | refine Zbn (fun _ _ => rfl) ?_ | refine Zbo (fun _ _ => rfl) ?_ | refine Z8f (t := true) rfl (fun _ => ?_) (fun e => by cases e) | refine Z8f (t := false) rfl (fun e => by cases e) (fun _ => ?_)))
                  by_cases q3 : 0 ≤ s
                  · (rw [show decide (0 ≤ s) = true from decide_eq_true (by omega)])
                    (repeat (first | refine st_q rfl rfl rfl ?_ | refine Z8v rfl (st_q rfl rfl rfl ?_) | refine Z8w rfl ?_ | refine Z8x rfl ?_ | (refine Z8y ?_; (repeat (first | refine Z9v rfl ?_ | refine Z9w ?_)); refine Z9u ?_) | refine awp_seq ?_ | refine Zbm (fun _ _ => rfl) ?_ | refine Z8h ?_ | refine Zbn (fun _ _ => rfl) ?_ | refine Zbo (fun _ _ => rfl) ?_ | refine Z8f (t := true) rfl (fun _ => ?_) (fun e => by cases e) | refine Z8f (t := false) rfl (fun e => by cases e) (fun _ => ?_)))
                    refine Z8d ?_
                    exact ares rfl (HSub.refl _) ⟨by simp [Z8m, g1, g2, g3, q1, q2, q3], rfl⟩
                  · (rw [show decide (0 ≤ s) = false from decide_eq_false (by omega)])
                    (repeat (first | refine st_q rfl rfl rfl ?_ | refine Z8v rfl (st_q rfl rfl rfl ?_) | refine Z8w rfl ?_ | refine Z8x rfl ?_ | (refine Z8y ?_; (repeat (first | refine Z9v rfl ?_ | refine Z9w ?_)); refine Z9u ?_) | refine awp_seq ?_ | refine Zbm (fun _ _ => rfl) ?_ | refine Z8h ?_ | refine Zbn (fun _ _ => rfl) ?_ | refine Zbo (fun _ _ => rfl) ?_ | refine Z8f (t := true) rfl (fun _ => ?_) (fun e => by cases e) | refine Z8f (t := false) rfl (fun e => by cases e) (fun _ => ?_)))
                    refine Z8d ?_
                    exact ares rfl (HSub.refl _) ⟨by simp [Z8m, g1, g2, g3, q1, q2, q3], rfl⟩
                · (rw [show decide (p ≤ 18) = false from decide_eq_false (by omega)])
                  (repeat (first | refine st_q rfl rfl rfl ?_ | refine Z8v rfl (st_q rfl rfl rfl ?_) | refine Z8w rfl ?_ | refine Z8x rfl ?_ | (refine Z8y ?_; (repeat (first | refine Z9v rfl ?_ | refine Z9w ?_)); refine Z9u ?_) | refine awp_seq ?_ | refine Zbm (fun _ _ => rfl) ?_ | refine Z8h ?_ | refine Zbn (fun _ _ => rfl) ?_ | refine Zbo (fun _ _ => rfl) ?_ | refine Z8f (t := true) rfl (fun _ => ?_) (fun e => by cases e) | refine Z8f (t := false) rfl (fun e => by cases e) (fun _ => ?_)))
                  refine Z8d ?_
                  exact ares rfl (HSub.refl _) ⟨by simp [Z8m, g1, g2, g3, q1, q2], rfl⟩
              · (rw [show decide (1 ≤ p) = false from decide_eq_false (by omega)])
                (repeat (first | refine st_q rfl rfl rfl ?_ | refine Z8v rfl (st_q rfl rfl rfl ?_) | refine Z8w rfl ?_ | refine Z8x rfl ?_ | (refine Z8y ?_; (repeat (first | refine Z9v rfl ?_ | refine Z9w ?_)); refine Z9u ?_) | refine awp_seq ?_ | refine Zbm (fun _ _ => rfl) ?_ | refine Z8h ?_ | refine Zbn (fun _ _ => rfl) ?_ | refine Zbo (fun _ _ => rfl) ?_ | refine Z8f (t := true) rfl (fun _ => ?_) (fun e => by cases e) | refine Z8f (t := false) rfl (fun e => by cases e) (fun _ => ?_)))
                refine Z8d ?_
                exact ares rfl (HSub.refl _) ⟨by simp [Z8m, g1, g2, g3, q1], rfl⟩
            | false =>
              (repeat (first | refine st_q rfl rfl rfl ?_ | refine Z8v rfl (st_q rfl rfl rfl ?_) | refine Z8w rfl ?_ | refine Z8x rfl ?_ | (refine Z8y ?_; (repeat (first | refine Z9v rfl ?_ | refine Z9w ?_)); refine Z9u ?_) | refine awp_seq ?_ | refine Zbm (fun _ _ => rfl) ?_ | refine Z8h ?_ | refine Zbn (fun _ _ => rfl) ?_ | refine Zbo (fun _ _ => rfl) ?_ | refine Z8f (t := true) rfl (fun _ => ?_) (fun e => by cases e) | refine Z8f (t := false) rfl (fun e => by cases e) (fun _ => ?_)))
              by_cases q1 : p = 0
              · (rw [show decide (p = 0) = true from decide_eq_true (by omega)])
                (repeat (first | refine st_q rfl rfl rfl ?_ | refine Z8v rfl (st_q rfl rfl rfl ?_) | refine Z8w rfl ?_ | refine Z8x rfl ?_ | (refine Z8y ?_; (repeat (first | refine Z9v rfl ?_ | refine Z9w ?_)); refine Z9u ?_) | refine awp_seq ?_ | refine Zbm (fun _ _ => rfl) ?_ | refine Z8h ?_ | refine Zbn (fun _ _ => rfl) ?_ | refine Zbo (fun _ _ => rfl) ?_ | refine Z8f (t := true) rfl (fun _ => ?_) (fun e => by cases e) | refine Z8f (t := false) rfl (fun e => by cases e) (fun _ => ?_)))
                refine Z8d ?_
                exact ares rfl (HSub.refl _) ⟨by simp [Z8m, g1, g2, g3, q1], rfl⟩
              · (rw [show decide (p = 0) = false from decide_eq_false (by omega)])
                (repeat (first | refine st_q rfl rfl rfl ?_ | refine Z8v rfl (st_q rfl rfl rfl ?_) | refine Z8w rfl ?_ | refine Z8x rfl ?_ | (refine Z8y ?_; (repeat (first | refine Z9v rfl ?_ | refine Z9w ?_)); refine Z9u ?_) | refine awp_seq ?_ | refine Zbm (fun _ _ => rfl) ?_ | refine Z8h ?_ | refine Zbn (fun _ _ => rfl) ?_ | refine Zbo (fun _ _ => rfl) ?_ | refine Z8f (t := true) rfl (fun _ => ?_) (fun e => by cases e) | refine Z8f (t := false) rfl (fun e => by cases e) (fun _ => ?_)))
                refine Z8d ?_
                exact ares rfl (HSub.refl _) ⟨by simp [Z8m, g1, g2, g3, q1], rfl⟩
        · (rw [show decide (l ≠ sz) = true from decide_eq_true (by omega)])
          (repeat (first | refine st_q rfl rfl rfl ?_ | refine Z8v rfl (st_q rfl rfl rfl ?_) | refine Z8w rfl ?_ | refine Z8x rfl ?_ | (refine Z8y ?_; (repeat (first | refine Z9v rfl ?_ | refine Z9w ?_)); refine Z9u ?_) | refine awp_seq ?_ | refine Zbm (fun _ _ => rfl) ?_ | refine Z8h ?_ | refine Zbn (fun _ _ => rfl) ?_ | refine Zbo (fun _ _ => rfl) ?_ | refine Z8f (t := true) rfl (fun _ => ?_) (fun e => by cases e) | refine Z8f (t := false) rfl (fun e => by cases e) (fun _ => ?_)))
          refine Z8d ?_
          exact ares rfl (HSub.refl _) ⟨by simp [Z8m, g3], rfl⟩
      · (rw [show decide (((ns.length : Nat) : Int) ≠ (nm : Int)) = true from decide_eq_true (by omega)])
        (repeat (first | refine st_q rfl rfl rfl ?_ | refine Z8v rfl (st_q rfl rfl rfl ?_) | refine Z8w rfl ?_ | refine Z8x rfl ?_ | (refine Z8y ?_; (repeat (first | refine Z9v rfl ?_ | refine Z9w ?_)); refine Z9u ?_) | refine awp_seq ?_ | refine Zbm (fun _ _ => rfl) ?_ | refine Z8h ?_ | refine Zbn (fun _ _ => rfl) ?_ | refine Zbo (fun _ _ => rfl) ?_ | refine Z8f (t := true) rfl (fun _ => ?_) (fun e => by cases e) | refine Z8f (t := false) rfl (fun e => by cases e) (fun _ => ?_)))
        refine Z8d ?_
        exact ares rfl (HSub.refl _) ⟨by simp [Z8m, g2], rfl⟩
    · (rw [show decide (((ks.length : Nat) : Int) ≠ (kn : Int)) = true from decide_eq_true (by omega)])
      (repeat (first | refine st_q rfl rfl rfl ?_ | refine Z8v rfl (st_q rfl rfl rfl ?_) | refine Z8w rfl ?_ | refine Z8x rfl ?_ | (refine Z8y ?_; (repeat (first | refine Z9v rfl ?_ | refine Z9w ?_)); refine Z9u ?_) | refine awp_seq ?_ | refine Zbm (fun _ _ => rfl) ?_ | refine Z8h ?_ | refine Zbn (fun _ _ => rfl) ?_ | refine Zbo (fun _ _ => rfl) ?_ | refine Z8f (t := true) rfl (fun _ => ?_) (fun e => by cases e) | refine Z8f (t := false) rfl (fun e => by cases e) (fun _ => ?_)))
      refine Z8d ?_
      exact ares rfl (HSub.refl _) ⟨by simp [Z8m, g1], rfl⟩
  have nil0 : (decide (ns.length = 0) : Bool) = ns.isEmpty := by cases ns <;> simp
  refine Z9z ?_
  (repeat (refine st_q rfl rfl rfl ?_))
  (refine Z8y ?_; (repeat (first | refine Z9v rfl ?_ | refine Z9w ?_)); refine Z9u ?_)
  have key : ∀ rest : Z2b, (∀ (kn nm : Nat) (sz : Int) (ex : Bool), Zlv k ns ks.length l p s = (decide (ks.length = kn) && decide (ns.length = nm) && decide (l = sz) && Zlt ns && (if ex then decide (1 ≤ p ∧ p ≤ 18 ∧ 0 ≤ s ∧ s ≤ p) else decide (p = 0 ∧ s = 0))) →
      AWp Try.prog Zl5.n rest (ARet Zl5.res fun r σ' => r = .bool (Zlv k ns ks.length l p s) ∧ σ' = σ)
        (fset 1 (some (.iptr [.int .i64 k, .slc 1 (ns.map .str) false, .slc 6 (Zlm ks) false, .int .i64 l, .int .i64 p, .int .i64 s])) (fset 3 (some (.int .i64 (kn : Int))) (fset 4 (some (.int .i64 (nm : Int))) (fset 5 (some (.int .i64 sz)) (fset 6 (some (.bool ex)) Z27))))) σ) →
      AWp Try.prog Zl5.n (.seq (Zl5.code.snd 2).fst rest) (ARet Zl5.res fun r σ' => r = .bool (Zlv k ns ks.length l p s) ∧ σ' = σ)
        (fset 1 (some (.iptr [.int .i64 k, .slc 1 (ns.map .str) false, .slc 6 (Zlm ks) false, .int .i64 l, .int .i64 p, .int .i64 s])) (fset 3 (some (.int .i64 0)) (fset 4 (some (.int .i64 0)) (fset 5 (some (.int .i64 0)) (fset 6 (some (.bool false)) Z27))))) σ := by
    intro rest main
    by_cases h11 : k = 11
    · subst h11
      (repeat (first | refine st_q rfl rfl rfl ?_ | refine Z8v rfl (st_q rfl rfl rfl ?_) | refine Z8w rfl ?_ | refine Z8x rfl ?_ | (refine Z8y ?_; (repeat (first | refine Z9v rfl ?_ | refine Z9w ?_)); refine Z9u ?_) | refine awp_seq ?_ | refine Zbm (fun _ _ => rfl) ?_ | refine Z8h ?_ | refine Zbn (fun _ _ => rfl) ?_ | refine Zbo (fun _ _ => rfl) ?_ | refine Z8f (t := true) rfl (fun _ => ?_) (fun e => by cases e) | refine Z8f (t := false) rfl (fun e => by cases e) (fun _ => ?_)))
      exact main 2 0 0 false (by simp [Zlv, Zlu, ← nil0]; grind)
    by_cases h10 : k = 10
    · subst h10
      (repeat (first | refine st_q rfl rfl rfl ?_ | refine Z8v rfl (st_q rfl rfl rfl ?_) | refine Z8w rfl ?_ | refine Z8x rfl ?_ | (refine Z8y ?_; (repeat (first | refine Z9v rfl ?_ | refine Z9w ?_)); refine Z9u ?_) | refine awp_seq ?_ | refine Zbm (fun _ _ => rfl) ?_ | refine Z8h ?_ | refine Zbn (fun _ _ => rfl) ?_ | refine Zbo (fun _ _ => rfl) ?_ | refine Z8f (t := true) rfl (fun _ => ?_) (fun e => by cases e) | refine Z8f (t := false) rfl (fun e => by cases e) (fun _ => ?_)))
      exact main 1 0 0 false (by simp [Zlv, Zlu, ← nil0]; grind)
    by_cases h12 : k = 12
    · subst h12
      (repeat (first | refine st_q rfl rfl rfl ?_ | refine Z8v rfl (st_q rfl rfl rfl ?_) | refine Z8w rfl ?_ | refine Z8x rfl ?_ | (refine Z8y ?_; (repeat (first | refine Z9v rfl ?_ | refine Z9w ?_)); refine Z9u ?_) | refine awp_seq ?_ | refine Zbm (fun _ _ => rfl) ?_ | refine Z8h ?_ | refine Zbn (fun _ _ => rfl) ?_ | refine Zbo (fun _ _ => rfl) ?_ | refine Z8f (t := true) rfl (fun _ => ?_) (fun e => by cases e) | refine Z8f (t := false) rfl (fun e => by cases e) (fun _ => ?_)))
      rw [List.length_map]
      exact main ns.length ns.length 0 false (by simp [Zlv, Zlu]; grind)
    by_cases h13 : k = 13
    · subst h13
      (repeat (first | refine st_q rfl rfl rfl ?_ | refine Z8v rfl (st_q rfl rfl rfl ?_) | refine Z8w rfl ?_ | refine Z8x rfl ?_ | (refine Z8y ?_; (repeat (first | refine Z9v rfl ?_ | refine Z9w ?_)); refine Z9u ?_) | refine awp_seq ?_ | refine Zbm (fun _ _ => rfl) ?_ | refine Z8h ?_ | refine Zbn (fun _ _ => rfl) ?_ | refine Zbo (fun _ _ => rfl) ?_ | refine Z8f (t := true) rfl (fun _ => ?_) (fun e => by cases e) | refine Z8f (t := false) rfl (fun e => by cases e) (fun _ => ?_)))
      rw [Zlq]
      by_cases g1 : ks.length < 1
      · (rw [show decide (((ks.length : Nat) : Int) < 1) = true from decide_eq_true (by omega)])
        (repeat (first | refine st_q rfl rfl rfl ?_ | refine Z8v rfl (st_q rfl rfl rfl ?_) | refine Z8w rfl ?_ | refine Z8x rfl ?_ | (refine Z8y ?_; (repeat (first | refine Z9v rfl ?_ | refine Z9w ?_)); refine Z9u ?_) | refine awp_seq ?_ | refine Zbm (fun _ _ => rfl) ?_ | refine Z8h ?_ | refine Zbn (fun _ _ => rfl) ?_ | refine Zbo (fun _ _ => rfl) ?_ | refine Z8f (t := true) rfl (fun _ => ?_) (fun e => by cases e) | refine Z8f (t := false) rfl (fun e => by cases e) (fun _ => ?_)))
        refine Z8d ?_
        exact ares rfl (HSub.refl _) ⟨by simp [Z8m, Zlv, Zlu]; omega, rfl⟩
      · (rw [show decide (((ks.length : Nat) : Int) < 1) = false from decide_eq_false (by omega)])
        (repeat (first | refine st_q rfl rfl rfl ?_ | refine Z8v rfl (st_q rfl rfl rfl ?_) | refine Z8w rfl ?_ | refine Z8x rfl ?_ | (refine Z8y ?_; (repeat (first | refine Z9v rfl ?_ | refine Z9w ?_)); refine Z9u ?_) | refine awp_seq ?_ | refine Zbm (fun _ _ => rfl) ?_ | refine Z8h ?_ | refine Zbn (fun _ _ => rfl) ?_ | refine Zbo (fun _ _ => rfl) ?_ | refine Z8f (t := true) rfl (fun _ => ?_) (fun e => by cases e) | refine Z8f (t := false) rfl (fun e => by cases e) (fun _ => ?_)))
        by_cases g2 : 255 < ks.length
        · (rw [show decide ((255 : Int) < ((ks.length : Nat) : Int)) = true from decide_eq_true (by omega)])
          (repeat (first | refine st_q rfl rfl rfl ?_ | refine Z8v rfl (st_q rfl rfl rfl ?_) | refine Z8w rfl ?_ | refine Z8x rfl ?_ | (refine Z8y ?_; (repeat (first | refine Z9v rfl ?_ | refine Z9w ?_)); refine Z9u ?_) | refine awp_seq ?_ | refine Zbm (fun _ _ => rfl) ?_ | refine Z8h ?_ | refine Zbn (fun _ _ => rfl) ?_ | refine Zbo (fun _ _ => rfl) ?_ | refine Z8f (t := true) rfl (fun _ => ?_) (fun e => by cases e) | refine Z8f (t := false) rfl (fun e => by cases e) (fun _ => ?_)))
          refine Z8d ?_
          exact ares rfl (HSub.refl _) ⟨by simp [Z8m, Zlv, Zlu]; omega, rfl⟩
        · (rw [show decide ((255 : Int) < ((ks.length : Nat) : Int)) = false from decide_eq_false (by omega)])
          (repeat (first | refine st_q rfl rfl rfl ?_ | refine Z8v rfl (st_q rfl rfl rfl ?_) | refine Z8w rfl ?_ | refine Z8x rfl ?_ | (refine Z8y ?_; (repeat (first | refine Z9v rfl ?_ | refine Z9w ?_)); refine Z9u ?_) | refine awp_seq ?_ | refine Zbm (fun _ _ => rfl) ?_ | refine Z8h ?_ | refine Zbn (fun _ _ => rfl) ?_ | refine Zbo (fun _ _ => rfl) ?_ | refine Z8f (t := true) rfl (fun _ => ?_) (fun e => by cases e) | refine Z8f (t := false) rfl (fun e => by cases e) (fun _ => ?_)))
          (refine Z9y (keep := [1, 3, 4, 5, 6]) ?_; ((repeat (first | refine Z9v rfl ?_ | refine Z9w ?_)); refine Z9u ?_))
          exact main ks.length 0 0 false (by simp [Zlv, Zlu, ← nil0]; grind)
    by_cases h16 : k = 16
    · subst h16
      (repeat (first | refine st_q rfl rfl rfl ?_ | refine Z8v rfl (st_q rfl rfl rfl ?_) | refine Z8w rfl ?_ | refine Z8x rfl ?_ | (refine Z8y ?_; (repeat (first | refine Z9v rfl ?_ | refine Z9w ?_)); refine Z9u ?_) | refine awp_seq ?_ | refine Zbm (fun _ _ => rfl) ?_ | refine Z8h ?_ | refine Zbn (fun _ _ => rfl) ?_ | refine Zbo (fun _ _ => rfl) ?_ | refine Z8f (t := true) rfl (fun _ => ?_) (fun e => by cases e) | refine Z8f (t := false) rfl (fun e => by cases e) (fun _ => ?_)))
      by_cases g1 : l < 1
      · (rw [show decide (l < 1) = true from decide_eq_true (by omega)])
        (repeat (first | refine st_q rfl rfl rfl ?_ | refine Z8v rfl (st_q rfl rfl rfl ?_) | refine Z8w rfl ?_ | refine Z8x rfl ?_ | (refine Z8y ?_; (repeat (first | refine Z9v rfl ?_ | refine Z9w ?_)); refine Z9u ?_) | refine awp_seq ?_ | refine Zbm (fun _ _ => rfl) ?_ | refine Z8h ?_ | refine Zbn (fun _ _ => rfl) ?_ | refine Zbo (fun _ _ => rfl) ?_ | refine Z8f (t := true) rfl (fun _ => ?_) (fun e => by cases e) | refine Z8f (t := false) rfl (fun e => by cases e) (fun _ => ?_)))
        refine Z8d ?_
        exact ares rfl (HSub.refl _) ⟨by simp [Z8m, Zlv, Zlu]; omega, rfl⟩
      · (rw [show decide (l < 1) = false from decide_eq_false (by omega)])
        (repeat (first | refine st_q rfl rfl rfl ?_ | refine Z8v rfl (st_q rfl rfl rfl ?_) | refine Z8w rfl ?_ | refine Z8x rfl ?_ | (refine Z8y ?_; (repeat (first | refine Z9v rfl ?_ | refine Z9w ?_)); refine Z9u ?_) | refine awp_seq ?_ | refine Zbm (fun _ _ => rfl) ?_ | refine Z8h ?_ | refine Zbn (fun _ _ => rfl) ?_ | refine Zbo (fun _ _ => rfl) ?_ | refine Z8f (t := true) rfl (fun _ => ?_) (fun e => by cases e) | refine Z8f (t := false) rfl (fun e => by cases e) (fun _ => ?_)))
        by_cases g2 : 4096 < l
        · (rw [show decide (4096 < l) = true from decide_eq_true (by omega)])
          (repeat (first | refine st_q rfl rfl rfl ?_ | refine Z8v rfl (st_q rfl rfl rfl ?_) | refine Z8w rfl ?_ | refine Z8x rfl ?_ | (refine Z8y ?_; (repeat (first | refine Z9v rfl ?_ | refine Z9w ?_)); refine Z9u ?_) | refine awp_seq ?_ | refine Zbm (fun _ _ => rfl) ?_ | refine Z8h ?_ | refine Zbn (fun _ _ => rfl) ?_ | refine Zbo (fun _ _ => rfl) ?_ | refine Z8f (t := true) rfl (fun _ => ?_) (fun e => by cases e) | refine Z8f (t := false) rfl (fun e => by cases e) (fun _ => ?_)))
          refine Z8d ?_
          exact ares rfl (HSub.refl _) ⟨by simp [Z8m, Zlv, Zlu]; omega, rfl⟩
        · (rw [show decide (4096 < l) = false from decide_eq_false (by omega)])
          (repeat (first | refine st_q rfl rfl rfl ?_ | refine Z8v rfl (st_q rfl rfl rfl ?_) | refine Z8w rfl ?_ | refine Z8x rfl ?_ | (refine Z8y ?_; (repeat (first | refine Z9v rfl ?_ | refine Z9w ?_)); refine Z9u ?_) | refine awp_seq ?_ | refine Zbm (fun _ _ => rfl) ?_ | refine Z8h ?_ | refine Zbn (fun _ _ => rfl) ?_ | refine Zbo (fun _ _ => rfl) ?_ | refine Z8f (t := true) rfl (fun _ => ?_) (fun e => by cases e) | refine Z8f (t := false) rfl (fun e => by cases e) (fun _ => ?_)))
          (refine Z9y (keep := [1, 3, 4, 5, 6]) ?_; ((repeat (first | refine Z9v rfl ?_ | refine Z9w ?_)); refine Z9u ?_))
          exact main 0 0 l false (by simp [Zlv, Zlu, ← nil0]; grind)
    by_cases h17 : k = 17
    · subst h17
      (repeat (first | refine st_q rfl rfl rfl ?_ | refine Z8v rfl (st_q rfl rfl rfl ?_) | refine Z8w rfl ?_ | refine Z8x rfl ?_ | (refine Z8y ?_; (repeat (first | refine Z9v rfl ?_ | refine Z9w ?_)); refine Z9u ?_) | refine awp_seq ?_ | refine Zbm (fun _ _ => rfl) ?_ | refine Z8h ?_ | refine Zbn (fun _ _ => rfl) ?_ | refine Zbo (fun _ _ => rfl) ?_ | refine Z8f (t := true) rfl (fun _ => ?_) (fun e => by cases e) | refine Z8f (t := false) rfl (fun e => by cases e) (fun _ => ?_)))
      by_cases g1 : l < 1
      · (rw [show decide (l < 1) = true from decide_eq_true (by omega)])
        (repeat (first | refine st_q rfl rfl rfl ?_ | refine Z8v rfl (st_q rfl rfl rfl ?_) | refine Z8w rfl ?_ | refine Z8x rfl ?_ | (refine Z8y ?_; (repeat (first | refine Z9v rfl ?_ | refine Z9w ?_)); refine Z9u ?_) | refine awp_seq ?_ | refine Zbm (fun _ _ => rfl) ?_ | refine Z8h ?_ | refine Zbn (fun _ _ => rfl) ?_ | refine Zbo (fun _ _ => rfl) ?_ | refine Z8f (t := true) rfl (fun _ => ?_) (fun e => by cases e) | refine Z8f (t := false) rfl (fun e => by cases e) (fun _ => ?_)))
        refine Z8d ?_
        exact ares rfl (HSub.refl _) ⟨by simp [Z8m, Zlv, Zlu]; omega, rfl⟩
      · (rw [show decide (l < 1) = false from decide_eq_false (by omega)])
        (repeat (first | refine st_q rfl rfl rfl ?_ | refine Z8v rfl (st_q rfl rfl rfl ?_) | refine Z8w rfl ?_ | refine Z8x rfl ?_ | (refine Z8y ?_; (repeat (first | refine Z9v rfl ?_ | refine Z9w ?_)); refine Z9u ?_) | refine awp_seq ?_ | refine Zbm (fun _ _ => rfl) ?_ | refine Z8h ?_ | refine Zbn (fun _ _ => rfl) ?_ | refine Zbo (fun _ _ => rfl) ?_ | refine Z8f (t := true) rfl (fun _ => ?_) (fun e => by cases e) | refine Z8f (t := false) rfl (fun e => by cases e) (fun _ => ?_)))
        by_cases g2 : 4096 < l
        · (rw [show decide (4096 < l) = true from decide_eq_true (by omega)])
          (repeat (first | refine st_q rfl rfl rfl ?_ | refine Z8v rfl (st_q rfl rfl rfl ?_) | refine Z8w rfl ?_ | refine Z8x rfl ?_ | (refine Z8y ?_; (repeat (first | refine Z9v rfl ?_ | refine Z9w ?_)); refine Z9u ?_) | refine awp_seq ?_ | refine Zbm (fun _ _ => rfl) ?_ | refine Z8h ?_ | refine Zbn (fun _ _ => rfl) ?_ | refine Zbo (fun _ _ => rfl) ?_ | refine Z8f (t := true) rfl (fun _ => ?_) (fun e => by cases e) | refine Z8f (t := false) rfl (fun e => by cases e) (fun _ => ?_)))
          refine Z8d ?_
          exact ares rfl (HSub.refl _) ⟨by simp [Z8m, Zlv, Zlu]; omega, rfl⟩
        · (rw [show decide (4096 < l) = false from decide_eq_false (by omega)])
          (repeat (first | refine st_q rfl rfl rfl ?_ | refine Z8v rfl (st_q rfl rfl rfl ?_) | refine Z8w rfl ?_ | refine Z8x rfl ?_ | (refine Z8y ?_; (repeat (first | refine Z9v rfl ?_ | refine Z9w ?_)); refine Z9u ?_) | refine awp_seq ?_ | refine Zbm (fun _ _ => rfl) ?_ | refine Z8h ?_ | refine Zbn (fun _ _ => rfl) ?_ | refine Zbo (fun _ _ => rfl) ?_ | refine Z8f (t := true) rfl (fun _ => ?_) (fun e => by cases e) | refine Z8f (t := false) rfl (fun e => by cases e) (fun _ => ?_)))
          (refine Z9y (keep := [1, 3, 4, 5, 6]) ?_; ((repeat (first | refine Z9v rfl ?_ | refine Z9w ?_)); refine Z9u ?_))
          exact main 0 0 l false (by simp [Zlv, Zlu, ← nil0]; grind)
    by_cases h14 : k = 14
    · subst h14
      (repeat (first | refine st_q rfl rfl rfl ?_ | refine Z8v rfl (st_q rfl rfl rfl ?_) | refine Z8w rfl ?_ | refine Z8x rfl ?_ | (refine Z8y ?_; (repeat (first | refine Z9v rfl ?_ | refine Z9w ?_)); refine Z9u ?_) | refine awp_seq ?_ | refine Zbm (fun _ _ => rfl) ?_ | refine Z8h ?_ | refine Zbn (fun _ _ => rfl) ?_ | refine Zbo (fun _ _ => rfl) ?_ | refine Z8f (t := true) rfl (fun _ => ?_) (fun e => by cases e) | refine Z8f (t := false) rfl (fun e => by cases e) (fun _ => ?_)))
      (refine Z9y (keep := [1, 3, 4, 5, 6]) ?_; ((repeat (first | refine Z9v rfl ?_ | refine Z9w ?_)); refine Z9u ?_))
      exact main 0 0 0 true (by simp [Zlv, Zlu, ← nil0]; grind)
    (repeat (first | refine st_q rfl rfl rfl ?_ | refine Z8v rfl (st_q rfl rfl rfl ?_) | refine Z8w rfl ?_ | refine Z8x rfl ?_ | (refine Z8y ?_; (repeat (first | refine Z9v rfl ?_ | refine Z9w ?_)); refine Z9u ?_) | refine awp_seq ?_ | refine Zbm (fun _ _ => rfl) ?_ | refine Z8h ?_ | refine Zbn (fun _ _ => rfl) ?_ | refine Zbo (fun _ _ => rfl) ?_ | refine Z8f (t := true) rfl (fun _ => ?_) (fun e => by cases e) | refine Z8f (t := false) rfl (fun e => by cases e) (fun _ => ?_)))
    (rw [show decide (k = 11) = false from decide_eq_false (by omega)])
    (repeat (first | refine st_q rfl rfl rfl ?_ | refine Z8v rfl (st_q rfl rfl rfl ?_) | refine Z8w rfl ?_ | refine Z8x rfl ?_ | (refine Z8y ?_; (repeat (first | refine Z9v rfl ?_ | refine Z9w ?_)); refine Z9u ?_) | refine awp_seq ?_ | refine Zbm (fun _ _ => rfl) ?_ | refine Z8h ?_ | refine Zbn (fun _ _ => rfl) ?_ | refine Zbo (fun _ _ => rfl) ?_ | refine Z8f (t := true) rfl (fun _ => ?_) (fun e => by cases e) | refine Z8f (t := false) rfl (fun e => by cases e) (fun _ => ?_)))
    (rw [show decide (k = 10) = false from decide_eq_false (by omega)])
    (repeat (first | refine st_q rfl rfl rfl ?_ | refine Z8v rfl (st_q rfl rfl rfl ?_) | refine Z8w rfl ?_ | refine Z8x rfl ?_ | (refine Z8y ?_; (repeat (first | refine Z9v rfl ?_ | refine Z9w ?_)); refine Z9u ?_) | refine awp_seq ?_ | refine Zbm (fun _ _ => rfl) ?_ | refine Z8h ?_ | refine Zbn (fun _ _ => rfl) ?_ | refine Zbo (fun _ _ => rfl) ?_ | refine Z8f (t := true) rfl (fun _ => ?_) (fun e => by cases e) | refine Z8f (t := false) rfl (fun e => by cases e) (fun _ => ?_)))
    (rw [show decide (k = 12) = false from decide_eq_false (by omega)])
    (repeat (first | refine st_q rfl rfl rfl ?_ | refine Z8v rfl (st_q rfl rfl rfl ?_) | refine Z8w rfl ?_ | refine Z8x rfl ?_ | (refine Z8y ?_; (repeat (first | refine Z9v rfl ?_ | refine Z9w ?_)); refine Z9u ?_) | refine awp_seq ?_ | refine Zbm (fun _ _ => rfl) ?_ | refine Z8h ?_ | refine Zbn (fun _ _ => rfl) ?_ | refine Zbo (fun _ _ => rfl) ?_ | refine Z8f (t := true) rfl (fun _ => ?_) (fun e => by cases e) | refine Z8f (t := false) rfl (fun e => by cases e) (fun _ => ?_)))
    (rw [show decide (k = 13) = false from decide_eq_false (by omega)])
    (repeat (first | refine st_q rfl rfl rfl ?_ | refine Z8v rfl (st_q rfl rfl rfl ?_) | refine Z8w rfl ?_ | refine Z8x rfl ?_ | (refine Z8y ?_; (repeat (first | refine Z9v rfl ?_ | refine Z9w ?_)); refine Z9u ?_) | refine awp_seq ?_ | refine Zbm (fun _ _ => rfl) ?_ | refine Z8h ?_ | refine Zbn (fun _ _ => rfl) ?_ | refine Zbo (fun _ _ => rfl) ?_ | refine Z8f (t := true) rfl (fun _ => ?_) (fun e => by cases e) | refine Z8f (t := false) rfl (fun e => by cases e) (fun _ => ?_)))
    (rw [show decide (k = 16) = false from decide_eq_false (by omega)])
    (repeat (first | refine st_q rfl rfl rfl ?_ | refine Z8v rfl (st_q rfl rfl rfl ?_) | refine Z8w rfl ?_ | refine Z8x rfl ?_ | (refine Z8y ?_; (repeat (first | refine Z9v rfl ?_ | refine Z9w ?_)); refine Z9u ?_) | refine awp_seq ?_ | refine Zbm (fun _ _ => rfl) ?_ | refine Z8h ?_ | refine Zbn (fun _ _ => rfl) ?_ | refine Zbo (fun _ _ => rfl) ?_ | refine Z8f (t := true) rfl (fun _ => ?_) (fun e => by cases e) | refine Z8f (t := false) rfl (fun e => by cases e) (fun _ => ?_)))
    (rw [show decide (k = 17) = false from decide_eq_false (by omega)])
    (repeat (first | refine st_q rfl rfl rfl ?_ | refine Z8v rfl (st_q rfl rfl rfl ?_) | refine Z8w rfl ?_ | refine Z8x rfl ?_ | (refine Z8y ?_; (repeat (first | refine Z9v rfl ?_ | refine Z9w ?_)); refine Z9u ?_) | refine awp_seq ?_ | refine Zbm (fun _ _ => rfl) ?_ | refine Z8h ?_ | refine Zbn (fun _ _ => rfl) ?_ | refine Zbo (fun _ _ => rfl) ?_ | refine Z8f (t := true) rfl (fun _ => ?_) (fun e => by cases e) | refine Z8f (t := false) rfl (fun e => by cases e) (fun _ => ?_)))
    (rw [show decide (k = 14) = false from decide_eq_false (by omega)])
    (repeat (first | refine st_q rfl rfl rfl ?_ | refine Z8v rfl (st_q rfl rfl rfl ?_) | refine Z8w rfl ?_ | refine Z8x rfl ?_ | (refine Z8y ?_; (repeat (first | refine Z9v rfl ?_ | refine Z9w ?_)); refine Z9u ?_) | refine awp_seq ?_ | refine Zbm (fun _ _ => rfl) ?_ | refine Z8h ?_ | refine Zbn (fun _ _ => rfl) ?_ | refine Zbo (fun _ _ => rfl) ?_ | refine Z8f (t := true) rfl (fun _ => ?_) (fun e => by cases e) | refine Z8f (t := false) rfl (fun e => by cases e) (fun _ => ?_)))
    (refine Z9y (keep := [1, 3, 4, 5, 6]) ?_; ((repeat (first | refine Z9v rfl ?_ | refine Z9w ?_)); refine Z9u ?_))
    exact main 0 0 0 false (by simp [Zlv, Zlu, ← nil0, h11, h10, h12, h13, h16, h17, h14]; grind)
  exact key _ main
end Go.Abs
namespace Go.Abs
open Go Go.Proofs
set_option linter.unusedVariables false
set_option linter.unusedSimpArgs false
set_option maxHeartbeats 4000000
attribute [local irreducible] AWp aops KP
inductive Ty.Fit : Ty → Prop
  | mk {t : Ty} (h1 : t.kids.length ≤ 140737488355328) (h2 : t.names.length ≤ 140737488355328) (h4 : ∀ s ∈ t.names, s.length ≤ maxLen) (h : ∀ k ∈ t.kids, Ty.Fit k) : Ty.Fit t
theorem Zmx : ∀ (t : Ty) (deep n : Nat), n ≤ 100 → (chk deep n t).1 ≤ 100 := by
  refine Ty.ind fun k ns ks l p s ih deep n hn => ?_
  have hL : ∀ (ks : List Ty), (∀ t ∈ ks, ∀ (deep n : Nat), n ≤ 100 → (chk deep n t).1 ≤ 100) → ∀ deep n, n ≤ 100 → (chkL deep n ks).1 ≤ 100 := by
    intro ks
    induction ks with
    | nil => intro _ deep n hn; simpa [chkL] using hn
    | cons t ts ih2 =>
      intro h deep n hn
      rw [chkL]
      split
      · exact h t (by simp) deep n hn
      · exact ih2 (fun t ht => h t (by simp [ht])) deep _ (h t (by simp) deep n hn)
  rw [chk]
  split
  · exact hn
  · split
    · exact hn
    · exact hL ks ih (deep + 1) (n + 1) (by omega)
theorem Zmy : ∀ (t : Ty) (deep n : Nat), (chk deep n t).2 ≤ 5 := by
  refine Ty.ind fun k ns ks l p s ih deep n => ?_
  have hL : ∀ (ks : List Ty), (∀ t ∈ ks, ∀ (deep n : Nat), (chk deep n t).2 ≤ 5) → ∀ deep n, (chkL deep n ks).2 ≤ 5 := by
    intro ks
    induction ks with
    | nil => intro _ deep n; simp [chkL]
    | cons t ts ih2 =>
      intro h deep n
      rw [chkL]
      split
      · exact h t (by simp) deep n
      · exact ih2 (fun t ht => h t (by simp [ht])) deep _
  rw [chk]
  split
  · simp
  · split
    · simp only [ownF]; split <;> (try split) <;> simp
    · exact hL ks ih (deep + 1) (n + 1)
theorem Zmz : ∀ (t : Ty), t.Fit → ∀ (deep n b : Nat), deep ≤ 17 → n ≤ 100 → ∀ σ, Z1q Try.prog Zf8 [encT t, .int .i64 (deep : Int), .ptr b 0 0] ((b, .cells 1 [.int .i64 (n : Int)]) :: σ) fun r σ' => r = .int .i64 ((chk deep n t).2 : Int) ∧ σ' = (b, .cells 1 [.int .i64 ((chk deep n t).1 : Int)]) :: σ := by
  refine Ty.ind fun k ns ks l p s ih hfit deep n b hd hn σ => ?_
  cases hfit with
  | mk hk1 hn1 hn4 hkids =>
  have hright := Zmw (.mk k ns ks l p s) hk1 hn1 hn4
  simp only [encT, Ty.kind, Ty.names, Ty.kids, Ty.len, Ty.prec, Ty.scale] at *
  refine Z8t rfl Zle (Nat.le_of_ble_eq_true rfl) ?_
  refine Z9z ?_
  refine Z9j rfl (Z0.fit_iff.1 rfl) fun pb hpb => ?_
  (repeat (refine st_q rfl rfl rfl ?_))
  (refine Z8y ?_; (repeat (first | refine Z9v rfl ?_ | refine Z9w ?_)); refine Z9u ?_)
  refine Zb3 (d := 3) (cs := [.int .i64 k, .slc 1 (ns.map .str) false, .slc 6 (Zlm ks) false, .int .i64 l, .int .i64 p, .int .i64 s]) rfl ?_
  (repeat (first | refine st_q rfl rfl rfl ?_ | refine Z8v rfl (st_q rfl rfl rfl ?_) | refine Z8w rfl ?_ | refine Z8x rfl ?_ | (refine Z8y ?_; (repeat (first | refine Z9v rfl ?_ | refine Z9w ?_)); refine Z9u ?_) | refine awp_seq ?_ | refine Zbm (fun _ _ => rfl) ?_ | refine Z8h ?_ | refine Zbn (fun _ _ => rfl) ?_ | refine Zbo (fun _ _ => rfl) ?_ | refine Z8f (t := true) rfl (fun _ => ?_) (fun e => by cases e) | refine Z8f (t := false) rfl (fun e => by cases e) (fun _ => ?_)))
  by_cases g1 : 16 < deep
  · (rw [show decide ((16 : Int) < (deep : Int)) = true from decide_eq_true (by omega)])
    (repeat (first | refine st_q rfl rfl rfl ?_ | refine Z8v rfl (st_q rfl rfl rfl ?_) | refine Z8w rfl ?_ | refine Z8x rfl ?_ | (refine Z8y ?_; (repeat (first | refine Z9v rfl ?_ | refine Z9w ?_)); refine Z9u ?_) | refine awp_seq ?_ | refine Zbm (fun _ _ => rfl) ?_ | refine Z8h ?_ | refine Zbn (fun _ _ => rfl) ?_ | refine Zbo (fun _ _ => rfl) ?_ | refine Z8f (t := true) rfl (fun _ => ?_) (fun e => by cases e) | refine Z8f (t := false) rfl (fun e => by cases e) (fun _ => ?_)))
    refine Z8d ?_
    exact ares rfl (HSub.refl _) ⟨by rw [chk, if_pos (.inl g1)]; rfl, by rw [chk, if_pos (.inl g1)]⟩
  (rw [show decide ((16 : Int) < (deep : Int)) = false from decide_eq_false (by omega)])
  (repeat (first | refine st_q rfl rfl rfl ?_ | refine Z8v rfl (st_q rfl rfl rfl ?_) | refine Z8w rfl ?_ | refine Z8x rfl ?_ | (refine Z8y ?_; (repeat (first | refine Z9v rfl ?_ | refine Z9w ?_)); refine Z9u ?_) | refine awp_seq ?_ | refine Zbm (fun _ _ => rfl) ?_ | refine Z8h ?_ | refine Zbn (fun _ _ => rfl) ?_ | refine Zbo (fun _ _ => rfl) ?_ | refine Z8f (t := true) rfl (fun _ => ?_) (fun e => by cases e) | refine Z8f (t := false) rfl (fun e => by cases e) (fun _ => ?_)))
  refine Z8v rfl (Z92 rfl Z8z rfl rfl ?_)
  (repeat (first | refine st_q rfl rfl rfl ?_ | refine Z8v rfl (st_q rfl rfl rfl ?_) | refine Z8w rfl ?_ | refine Z8x rfl ?_ | (refine Z8y ?_; (repeat (first | refine Z9v rfl ?_ | refine Z9w ?_)); refine Z9u ?_) | refine awp_seq ?_ | refine Zbm (fun _ _ => rfl) ?_ | refine Z8h ?_ | refine Zbn (fun _ _ => rfl) ?_ | refine Zbo (fun _ _ => rfl) ?_ | refine Z8f (t := true) rfl (fun _ => ?_) (fun e => by cases e) | refine Z8f (t := false) rfl (fun e => by cases e) (fun _ => ?_)))
  by_cases g2 : 100 ≤ n
  · (rw [show decide ((100 : Int) ≤ (n : Int)) = true from decide_eq_true (by omega)])
    (repeat (first | refine st_q rfl rfl rfl ?_ | refine Z8v rfl (st_q rfl rfl rfl ?_) | refine Z8w rfl ?_ | refine Z8x rfl ?_ | (refine Z8y ?_; (repeat (first | refine Z9v rfl ?_ | refine Z9w ?_)); refine Z9u ?_) | refine awp_seq ?_ | refine Zbm (fun _ _ => rfl) ?_ | refine Z8h ?_ | refine Zbn (fun _ _ => rfl) ?_ | refine Zbo (fun _ _ => rfl) ?_ | refine Z8f (t := true) rfl (fun _ => ?_) (fun e => by cases e) | refine Z8f (t := false) rfl (fun e => by cases e) (fun _ => ?_)))
    refine Z8d ?_
    exact ares rfl (HSub.refl _) ⟨by rw [chk, if_pos (.inr g2)]; rfl, by rw [chk, if_pos (.inr g2)]⟩
  (rw [show decide ((100 : Int) ≤ (n : Int)) = false from decide_eq_false (by omega)])
  (repeat (first | refine st_q rfl rfl rfl ?_ | refine Z8v rfl (st_q rfl rfl rfl ?_) | refine Z8w rfl ?_ | refine Z8x rfl ?_ | (refine Z8y ?_; (repeat (first | refine Z9v rfl ?_ | refine Z9w ?_)); refine Z9u ?_) | refine awp_seq ?_ | refine Zbm (fun _ _ => rfl) ?_ | refine Z8h ?_ | refine Zbn (fun _ _ => rfl) ?_ | refine Zbo (fun _ _ => rfl) ?_ | refine Z8f (t := true) rfl (fun _ => ?_) (fun e => by cases e) | refine Z8f (t := false) rfl (fun e => by cases e) (fun _ => ?_)))
  have hc0 : ¬ (16 < deep ∨ 100 ≤ n) := by omega
  by_cases g3 : k = 5
  · (rw [show decide (k = 5) = true from decide_eq_true (by omega)])
    (repeat (first | refine st_q rfl rfl rfl ?_ | refine Z8v rfl (st_q rfl rfl rfl ?_) | refine Z8w rfl ?_ | refine Z8x rfl ?_ | (refine Z8y ?_; (repeat (first | refine Z9v rfl ?_ | refine Z9w ?_)); refine Z9u ?_) | refine awp_seq ?_ | refine Zbm (fun _ _ => rfl) ?_ | refine Z8h ?_ | refine Zbn (fun _ _ => rfl) ?_ | refine Zbo (fun _ _ => rfl) ?_ | refine Z8f (t := true) rfl (fun _ => ?_) (fun e => by cases e) | refine Z8f (t := false) rfl (fun e => by cases e) (fun _ => ?_)))
    have hc1 : ownF k ns ks.length l p s = 5 := by simp [ownF, g3]
    refine Z8d ?_
    exact ares rfl (HSub.refl _) ⟨by rw [chk, if_neg hc0, hc1, if_pos (by decide)]; rfl, by rw [chk, if_neg hc0, hc1, if_pos (by decide)]⟩
  (rw [show decide (k = 5) = false from decide_eq_false (by omega)])
  (repeat (first | refine st_q rfl rfl rfl ?_ | refine Z8v rfl (st_q rfl rfl rfl ?_) | refine Z8w rfl ?_ | refine Z8x rfl ?_ | (refine Z8y ?_; (repeat (first | refine Z9v rfl ?_ | refine Z9w ?_)); refine Z9u ?_) | refine awp_seq ?_ | refine Zbm (fun _ _ => rfl) ?_ | refine Z8h ?_ | refine Zbn (fun _ _ => rfl) ?_ | refine Zbo (fun _ _ => rfl) ?_ | refine Z8f (t := true) rfl (fun _ => ?_) (fun e => by cases e) | refine Z8f (t := false) rfl (fun e => by cases e) (fun _ => ?_)))
  by_cases g4 : k = 6
  · (rw [show decide (k = 6) = true from decide_eq_true (by omega)])
    (repeat (first | refine st_q rfl rfl rfl ?_ | refine Z8v rfl (st_q rfl rfl rfl ?_) | refine Z8w rfl ?_ | refine Z8x rfl ?_ | (refine Z8y ?_; (repeat (first | refine Z9v rfl ?_ | refine Z9w ?_)); refine Z9u ?_) | refine awp_seq ?_ | refine Zbm (fun _ _ => rfl) ?_ | refine Z8h ?_ | refine Zbn (fun _ _ => rfl) ?_ | refine Zbo (fun _ _ => rfl) ?_ | refine Z8f (t := true) rfl (fun _ => ?_) (fun e => by cases e) | refine Z8f (t := false) rfl (fun e => by cases e) (fun _ => ?_)))
    have hc1 : ownF k ns ks.length l p s = 5 := by simp [ownF, g4]
    refine Z8d ?_
    exact ares rfl (HSub.refl _) ⟨by rw [chk, if_neg hc0, hc1, if_pos (by decide)]; rfl, by rw [chk, if_neg hc0, hc1, if_pos (by decide)]⟩
  (rw [show decide (k = 6) = false from decide_eq_false (by omega)])
  (repeat (first | refine st_q rfl rfl rfl ?_ | refine Z8v rfl (st_q rfl rfl rfl ?_) | refine Z8w rfl ?_ | refine Z8x rfl ?_ | (refine Z8y ?_; (repeat (first | refine Z9v rfl ?_ | refine Z9w ?_)); refine Z9u ?_) | refine awp_seq ?_ | refine Zbm (fun _ _ => rfl) ?_ | refine Z8h ?_ | refine Zbn (fun _ _ => rfl) ?_ | refine Zbo (fun _ _ => rfl) ?_ | refine Z8f (t := true) rfl (fun _ => ?_) (fun e => by cases e) | refine Z8f (t := false) rfl (fun e => by cases e) (fun _ => ?_)))
  by_cases g5 : k < 0
  · (rw [show decide (k < 0) = true from decide_eq_true (by omega)])
    (repeat (first | refine st_q rfl rfl rfl ?_ | refine Z8v rfl (st_q rfl rfl rfl ?_) | refine Z8w rfl ?_ | refine Z8x rfl ?_ | (refine Z8y ?_; (repeat (first | refine Z9v rfl ?_ | refine Z9w ?_)); refine Z9u ?_) | refine awp_seq ?_ | refine Zbm (fun _ _ => rfl) ?_ | refine Z8h ?_ | refine Zbn (fun _ _ => rfl) ?_ | refine Zbo (fun _ _ => rfl) ?_ | refine Z8f (t := true) rfl (fun _ => ?_) (fun e => by cases e) | refine Z8f (t := false) rfl (fun e => by cases e) (fun _ => ?_)))
    have hc1 : ownF k ns ks.length l p s = 1 := by simp [ownF, g3, g4, g5]
    refine Z8d ?_
    exact ares rfl (HSub.refl _) ⟨by rw [chk, if_neg hc0, hc1, if_pos (by decide)]; rfl, by rw [chk, if_neg hc0, hc1, if_pos (by decide)]⟩
  (rw [show decide (k < 0) = false from decide_eq_false (by omega)])
  (repeat (first | refine st_q rfl rfl rfl ?_ | refine Z8v rfl (st_q rfl rfl rfl ?_) | refine Z8w rfl ?_ | refine Z8x rfl ?_ | (refine Z8y ?_; (repeat (first | refine Z9v rfl ?_ | refine Z9w ?_)); refine Z9u ?_) | refine awp_seq ?_ | refine Zbm (fun _ _ => rfl) ?_ | refine Z8h ?_ | refine Zbn (fun _ _ => rfl) ?_ | refine Zbo (fun _ _ => rfl) ?_ | refine Z8f (t := true) rfl (fun _ => ?_) (fun e => by cases e) | refine Z8f (t := false) rfl (fun e => by cases e) (fun _ => ?_)))
  by_cases g6 : 17 < k
  · (rw [show decide (17 < k) = true from decide_eq_true (by omega)])
    (repeat (first | refine st_q rfl rfl rfl ?_ | refine Z8v rfl (st_q rfl rfl rfl ?_) | refine Z8w rfl ?_ | refine Z8x rfl ?_ | (refine Z8y ?_; (repeat (first | refine Z9v rfl ?_ | refine Z9w ?_)); refine Z9u ?_) | refine awp_seq ?_ | refine Zbm (fun _ _ => rfl) ?_ | refine Z8h ?_ | refine Zbn (fun _ _ => rfl) ?_ | refine Zbo (fun _ _ => rfl) ?_ | refine Z8f (t := true) rfl (fun _ => ?_) (fun e => by cases e) | refine Z8f (t := false) rfl (fun e => by cases e) (fun _ => ?_)))
    have hc1 : ownF k ns ks.length l p s = 1 := by simp [ownF, g3, g4, g6]
    refine Z8d ?_
    exact ares rfl (HSub.refl _) ⟨by rw [chk, if_neg hc0, hc1, if_pos (by decide)]; rfl, by rw [chk, if_neg hc0, hc1, if_pos (by decide)]⟩
  (rw [show decide (17 < k) = false from decide_eq_false (by omega)])
  (repeat (first | refine st_q rfl rfl rfl ?_ | refine Z8v rfl (st_q rfl rfl rfl ?_) | refine Z8w rfl ?_ | refine Z8x rfl ?_ | (refine Z8y ?_; (repeat (first | refine Z9v rfl ?_ | refine Z9w ?_)); refine Z9u ?_) | refine awp_seq ?_ | refine Zbm (fun _ _ => rfl) ?_ | refine Z8h ?_ | refine Zbn (fun _ _ => rfl) ?_ | refine Zbo (fun _ _ => rfl) ?_ | refine Z8f (t := true) rfl (fun _ => ?_) (fun e => by cases e) | refine Z8f (t := false) rfl (fun e => by cases e) (fun _ => ?_)))
  refine Z8v rfl (Z9t rfl (hright _) ?_)
  cases hR : Zlv k ns ks.length l p s with
  | false =>
    (repeat (first | refine st_q rfl rfl rfl ?_ | refine Z8v rfl (st_q rfl rfl rfl ?_) | refine Z8w rfl ?_ | refine Z8x rfl ?_ | (refine Z8y ?_; (repeat (first | refine Z9v rfl ?_ | refine Z9w ?_)); refine Z9u ?_) | refine awp_seq ?_ | refine Zbm (fun _ _ => rfl) ?_ | refine Z8h ?_ | refine Zbn (fun _ _ => rfl) ?_ | refine Zbo (fun _ _ => rfl) ?_ | refine Z8f (t := true) rfl (fun _ => ?_) (fun e => by cases e) | refine Z8f (t := false) rfl (fun e => by cases e) (fun _ => ?_)))
    have hc1 : ownF k ns ks.length l p s = 1 := by simp [ownF, g3, g4, hR]
    refine Z8d ?_
    exact ares rfl (HSub.refl _) ⟨by rw [chk, if_neg hc0, hc1, if_pos (by decide)]; rfl, by rw [chk, if_neg hc0, hc1, if_pos (by decide)]⟩
  | true =>
    have hc1 : ownF k ns ks.length l p s = 0 := by simp [ownF, g3, g4, hR]; omega
    have hchk : chk deep n (.mk k ns ks l p s) = chkL (deep + 1) (n + 1) ks := by rw [chk, if_neg hc0, hc1]; simp
    rw [hchk]
    (repeat (first | refine st_q rfl rfl rfl ?_ | refine Z8v rfl (st_q rfl rfl rfl ?_) | refine Z8w rfl ?_ | refine Z8x rfl ?_ | (refine Z8y ?_; (repeat (first | refine Z9v rfl ?_ | refine Z9w ?_)); refine Z9u ?_) | refine awp_seq ?_ | refine Zbm (fun _ _ => rfl) ?_ | refine Z8h ?_ | refine Zbn (fun _ _ => rfl) ?_ | refine Zbo (fun _ _ => rfl) ?_ | refine Z8f (t := true) rfl (fun _ => ?_) (fun e => by cases e) | refine Z8f (t := false) rfl (fun e => by cases e) (fun _ => ?_)))
    refine Z92 rfl Z8z rfl rfl ?_
    (repeat (first | refine st_q rfl rfl rfl ?_ | refine Z8v rfl (st_q rfl rfl rfl ?_) | refine Z8w rfl ?_ | refine Z8x rfl ?_ | (refine Z8y ?_; (repeat (first | refine Z9v rfl ?_ | refine Z9w ?_)); refine Z9u ?_) | refine awp_seq ?_ | refine Zbm (fun _ _ => rfl) ?_ | refine Z8h ?_ | refine Zbn (fun _ _ => rfl) ?_ | refine Zbo (fun _ _ => rfl) ?_ | refine Z8f (t := true) rfl (fun _ => ?_) (fun e => by cases e) | refine Z8f (t := false) rfl (fun e => by cases e) (fun _ => ?_)))
    refine Z9a rfl Z8z rfl (by decide) (Z0.fit_iff.1 rfl) (fun _ => ⟨rfl, rfl⟩) Z9b ?_
    rw [show IntKind.wrap .i64 ((n : Int) + 1) = ((n + 1 : Nat) : Int) by rw [w64 _ (by omega) (by omega)]; omega]
    (repeat (first | refine st_q rfl rfl rfl ?_ | refine Z8v rfl (st_q rfl rfl rfl ?_) | refine Z8w rfl ?_ | refine Z8x rfl ?_ | (refine Z8y ?_; (repeat (first | refine Z9v rfl ?_ | refine Z9w ?_)); refine Z9u ?_) | refine awp_seq ?_ | refine Zbm (fun _ _ => rfl) ?_ | refine Z8h ?_ | refine Zbn (fun _ _ => rfl) ?_ | refine Zbo (fun _ _ => rfl) ?_ | refine Z8f (t := true) rfl (fun _ => ?_) (fun e => by cases e) | refine Z8f (t := false) rfl (fun e => by cases e) (fun _ => ?_)))
    refine Zaa (fun m F σ' => ∃ (i n' : Nat), F = fset 1 (some (.int .i64 (deep : Int))) (fset 2 (some (.ptr b 0 0)) (fset 48 (some (.slc 6 (Zlm ks) false)) (fset 49 (some (.int .i64 (ks.length : Int))) (fset 50 (some (.int .i64 (i : Int))) Z27)))) ∧
      σ' = (b, .cells 1 [.int .i64 (n' : Int)]) :: σ ∧ i ≤ ks.length ∧ n' ≤ 100 ∧ chkL (deep + 1) (n + 1) ks = chkL (deep + 1) n' (ks.drop i) ∧ m = ks.length - i) (n := ks.length)
      ⟨0, n + 1, by rw [Zlq]; rfl, rfl, by omega, by omega, rfl, rfl⟩ ?_
    rintro m F σ' ⟨i, n', rfl, rfl, hi, hn', hch, rfl⟩
    (repeat (first | refine st_q rfl rfl rfl ?_ | refine Z8v rfl (st_q rfl rfl rfl ?_) | refine Z8w rfl ?_ | refine Z8x rfl ?_ | (refine Z8y ?_; (repeat (first | refine Z9v rfl ?_ | refine Z9w ?_)); refine Z9u ?_) | refine awp_seq ?_ | refine Zbm (fun _ _ => rfl) ?_ | refine Z8h ?_ | refine Zbn (fun _ _ => rfl) ?_ | refine Zbo (fun _ _ => rfl) ?_ | refine Z8f (t := true) rfl (fun _ => ?_) (fun e => by cases e) | refine Z8f (t := false) rfl (fun e => by cases e) (fun _ => ?_)))
    refine Za3 (p := (i : Int) < (ks.length : Int)) rfl (fun h3 => ?_) (fun h3 => ?_)
    · have hil : i < ks.length := by omega
      have hx : (Zlm ks)[(i : Int).toNat]? = some (encT ks[i]) := Zlr (by rw [Int.toNat_natCast, List.getElem?_eq_getElem hil])
      have hdrop : ks.drop i = ks[i] :: ks.drop (i + 1) := List.drop_eq_getElem_cons hil
      (repeat (first | refine st_q rfl rfl rfl ?_ | refine Z8v rfl (st_q rfl rfl rfl ?_) | refine Z8w rfl ?_ | refine Z8x rfl ?_ | (refine Z8y ?_; (repeat (first | refine Z9v rfl ?_ | refine Z9w ?_)); refine Z9u ?_) | refine awp_seq ?_ | refine Zbm (fun _ _ => rfl) ?_ | refine Z8h ?_ | refine Zbn (fun _ _ => rfl) ?_ | refine Zbo (fun _ _ => rfl) ?_ | refine Z8f (t := true) rfl (fun _ => ?_) (fun e => by cases e) | refine Z8f (t := false) rfl (fun e => by cases e) (fun _ => ?_)))
      refine Z93 rfl (by omega) hx ?_
      rw [Zlo]
      (repeat (first | refine st_q rfl rfl rfl ?_ | refine Z8v rfl (st_q rfl rfl rfl ?_) | refine Z8w rfl ?_ | refine Z8x rfl ?_ | (refine Z8y ?_; (repeat (first | refine Z9v rfl ?_ | refine Z9w ?_)); refine Z9u ?_) | refine awp_seq ?_ | refine Zbm (fun _ _ => rfl) ?_ | refine Z8h ?_ | refine Zbn (fun _ _ => rfl) ?_ | refine Zbo (fun _ _ => rfl) ?_ | refine Z8f (t := true) rfl (fun _ => ?_) (fun e => by cases e) | refine Z8f (t := false) rfl (fun e => by cases e) (fun _ => ?_)))
      refine Z9k (by simp [Z0.cells, Z0.one]) fun vb hvb => ?_
      refine Z9a rfl Z8z rfl (by decide) (Z0.fit_iff.1 rfl) (fun h => by cases h) Z9b ?_
      (refine Z8y ?_; (repeat (first | refine Z9v rfl ?_ | refine Z9w ?_)); refine Z9u ?_)
      refine Zb3 (d := 8) (cs := Zln ks[i]) rfl ?_
      (repeat (first | refine st_q rfl rfl rfl ?_ | refine Z8v rfl (st_q rfl rfl rfl ?_) | refine Z8w rfl ?_ | refine Z8x rfl ?_ | (refine Z8y ?_; (repeat (first | refine Z9v rfl ?_ | refine Z9w ?_)); refine Z9u ?_) | refine awp_seq ?_ | refine Zbm (fun _ _ => rfl) ?_ | refine Z8h ?_ | refine Zbn (fun _ _ => rfl) ?_ | refine Zbo (fun _ _ => rfl) ?_ | refine Z8f (t := true) rfl (fun _ => ?_) (fun e => by cases e) | refine Z8f (t := false) rfl (fun e => by cases e) (fun _ => ?_)))
      rw [show IntKind.wrap .i64 ((deep : Int) + 1) = ((deep + 1 : Nat) : Int) by rw [w64 _ (by omega) (by omega)]; omega]
      (repeat (first | refine st_q rfl rfl rfl ?_ | refine Z8v rfl (st_q rfl rfl rfl ?_) | refine Z8w rfl ?_ | refine Z8x rfl ?_ | (refine Z8y ?_; (repeat (first | refine Z9v rfl ?_ | refine Z9w ?_)); refine Z9u ?_) | refine awp_seq ?_ | refine Zbm (fun _ _ => rfl) ?_ | refine Z8h ?_ | refine Zbn (fun _ _ => rfl) ?_ | refine Zbo (fun _ _ => rfl) ?_ | refine Z8f (t := true) rfl (fun _ => ?_) (fun e => by cases e) | refine Z8f (t := false) rfl (fun e => by cases e) (fun _ => ?_)))
      have hcw := ih ks[i] (List.getElem_mem hil) (hkids _ (List.getElem_mem hil)) (deep + 1) n' b (by omega) hn' σ
      rw [Zlo] at hcw
      refine Z9t rfl hcw ?_
      (repeat (first | refine st_q rfl rfl rfl ?_ | refine Z8v rfl (st_q rfl rfl rfl ?_) | refine Z8w rfl ?_ | refine Z8x rfl ?_ | (refine Z8y ?_; (repeat (first | refine Z9v rfl ?_ | refine Z9w ?_)); refine Z9u ?_) | refine awp_seq ?_ | refine Zbm (fun _ _ => rfl) ?_ | refine Z8h ?_ | refine Zbn (fun _ _ => rfl) ?_ | refine Zbo (fun _ _ => rfl) ?_ | refine Z8f (t := true) rfl (fun _ => ?_) (fun e => by cases e) | refine Z8f (t := false) rfl (fun e => by cases e) (fun _ => ?_)))
      have he := Zmy ks[i] (deep + 1) n'
      have hle := Zmx ks[i] (deep + 1) n' hn'
      rw [hdrop, chkL] at hch
      by_cases g7 : (chk (deep + 1) n' ks[i]).2 = 0
      · rw [if_neg (by omega)] at hch
        (rw [show decide ((((chk (deep + 1) n' ks[i]).2 : Nat) : Int) ≠ 0) = false from decide_eq_false (by omega)])
        (repeat (first | refine st_q rfl rfl rfl ?_ | refine Z8v rfl (st_q rfl rfl rfl ?_) | refine Z8w rfl ?_ | refine Z8x rfl ?_ | (refine Z8y ?_; (repeat (first | refine Z9v rfl ?_ | refine Z9w ?_)); refine Z9u ?_) | refine awp_seq ?_ | refine Zbm (fun _ _ => rfl) ?_ | refine Z8h ?_ | refine Zbn (fun _ _ => rfl) ?_ | refine Zbo (fun _ _ => rfl) ?_ | refine Z8f (t := true) rfl (fun _ => ?_) (fun e => by cases e) | refine Z8f (t := false) rfl (fun e => by cases e) (fun _ => ?_)))
        refine Zbp ?_
        (repeat (refine st_q rfl rfl rfl ?_))
        rw [show IntKind.wrap .i64 ((i : Int) + 1) = ((i + 1 : Nat) : Int) by rw [w64 _ (by omega) (by omega)]; omega]
        (refine Z8y ?_; (repeat (first | refine Z9v rfl ?_ | refine Z9w ?_)); refine Z9u ?_)
        exact ⟨_, ks.length - (i + 1), HSub.refl _, ⟨i + 1, _, rfl, rfl, by omega, hle, hch, rfl⟩, by omega⟩
      · rw [if_pos g7] at hch
        (rw [show decide ((((chk (deep + 1) n' ks[i]).2 : Nat) : Int) ≠ 0) = true from decide_eq_true (by omega)])
        (repeat (first | refine st_q rfl rfl rfl ?_ | refine Z8v rfl (st_q rfl rfl rfl ?_) | refine Z8w rfl ?_ | refine Z8x rfl ?_ | (refine Z8y ?_; (repeat (first | refine Z9v rfl ?_ | refine Z9w ?_)); refine Z9u ?_) | refine awp_seq ?_ | refine Zbm (fun _ _ => rfl) ?_ | refine Z8h ?_ | refine Zbn (fun _ _ => rfl) ?_ | refine Zbo (fun _ _ => rfl) ?_ | refine Z8f (t := true) rfl (fun _ => ?_) (fun e => by cases e) | refine Z8f (t := false) rfl (fun e => by cases e) (fun _ => ?_)))
        refine Z8d ?_
        exact ares rfl (HSub.refl _) ⟨by rw [hch]; rfl, by rw [hch]⟩
    · (repeat (first | refine st_q rfl rfl rfl ?_ | refine Z8v rfl (st_q rfl rfl rfl ?_) | refine Z8w rfl ?_ | refine Z8x rfl ?_ | (refine Z8y ?_; (repeat (first | refine Z9v rfl ?_ | refine Z9w ?_)); refine Z9u ?_) | refine awp_seq ?_ | refine Zbm (fun _ _ => rfl) ?_ | refine Z8h ?_ | refine Zbn (fun _ _ => rfl) ?_ | refine Zbo (fun _ _ => rfl) ?_ | refine Z8f (t := true) rfl (fun _ => ?_) (fun e => by cases e) | refine Z8f (t := false) rfl (fun e => by cases e) (fun _ => ?_)))
      have hd0 : ks.drop i = [] := List.drop_of_length_le (by omega)
      rw [hd0, chkL] at hch
      refine Z8d ?_
      exact ares rfl (HSub.refl _) ⟨by rw [hch]; rfl, by rw [hch]⟩
theorem Zn0 (t : Ty) (h : t.Fit) (σ : Zc) : Z1q Try.prog Ze1 [encT t] σ fun r σ' => r = .int .i64 (Zlw t : Int) ∧ σ' = σ := by
  have hw := fun b => Zmz t h 1 0 b (by omega) (by omega) σ
  rw [Zlo] at *
  refine Z8t rfl Zla (Nat.le_of_ble_eq_true rfl) ?_
  refine Z9z ?_
  refine Z9j rfl (Z0.fit_iff.1 rfl) fun pb hpb => ?_
  (repeat (refine st_q rfl rfl rfl ?_))
  (refine Z8y ?_; (repeat (first | refine Z9v rfl ?_ | refine Z9w ?_)); refine Z9u ?_)
  refine Zb3 (d := 1) (cs := Zln t) rfl ?_
  (repeat (first | refine st_q rfl rfl rfl ?_ | refine Z8v rfl (st_q rfl rfl rfl ?_) | refine Z8w rfl ?_ | refine Z8x rfl ?_ | (refine Z8y ?_; (repeat (first | refine Z9v rfl ?_ | refine Z9w ?_)); refine Z9u ?_) | refine awp_seq ?_ | refine Zbm (fun _ _ => rfl) ?_ | refine Z8h ?_ | refine Zbn (fun _ _ => rfl) ?_ | refine Zbo (fun _ _ => rfl) ?_ | refine Z8f (t := true) rfl (fun _ => ?_) (fun e => by cases e) | refine Z8f (t := false) rfl (fun e => by cases e) (fun _ => ?_)))
  refine Z9k (by simp [Z0.cells, Z0.one]) fun vb hvb => ?_
  refine Z9a rfl Z8z rfl (by decide) (Z0.fit_iff.1 rfl) (fun h => ⟨rfl, rfl⟩) Z9b ?_
  (repeat (first | refine st_q rfl rfl rfl ?_ | refine Z8v rfl (st_q rfl rfl rfl ?_) | refine Z8w rfl ?_ | refine Z8x rfl ?_ | (refine Z8y ?_; (repeat (first | refine Z9v rfl ?_ | refine Z9w ?_)); refine Z9u ?_) | refine awp_seq ?_ | refine Zbm (fun _ _ => rfl) ?_ | refine Z8h ?_ | refine Zbn (fun _ _ => rfl) ?_ | refine Zbo (fun _ _ => rfl) ?_ | refine Z8f (t := true) rfl (fun _ => ?_) (fun e => by cases e) | refine Z8f (t := false) rfl (fun e => by cases e) (fun _ => ?_)))
  refine Z9t rfl (hw vb) ?_
  (repeat (first | refine st_q rfl rfl rfl ?_ | refine Z8v rfl (st_q rfl rfl rfl ?_) | refine Z8w rfl ?_ | refine Z8x rfl ?_ | (refine Z8y ?_; (repeat (first | refine Z9v rfl ?_ | refine Z9w ?_)); refine Z9u ?_) | refine awp_seq ?_ | refine Zbm (fun _ _ => rfl) ?_ | refine Z8h ?_ | refine Zbn (fun _ _ => rfl) ?_ | refine Zbo (fun _ _ => rfl) ?_ | refine Z8f (t := true) rfl (fun _ => ?_) (fun e => by cases e) | refine Z8f (t := false) rfl (fun e => by cases e) (fun _ => ?_)))
  refine Z8d ?_
  exact ares rfl (HSub.tail _ _) ⟨rfl, rfl⟩
end Go.Abs
namespace Go.Abs
open Go Go.Proofs
set_option linter.unusedVariables false
set_option linter.unusedSimpArgs false
set_option maxHeartbeats 4000000
attribute [local irreducible] AWp aops KP
theorem Zn1 (t : Ty) (hk : t.kids.length ≤ 140737488355328) (hn : t.names.length ≤ 140737488355328) (σ : Zc) : Z1q Try.prog Zfe [encT t] σ fun r σ' => r = .int .i64 (ownF t.kind t.names t.kids.length t.len t.prec t.scale : Int) ∧ σ' = σ := by
  obtain ⟨k, ns, ks, l, p, s⟩ := t
  simp only [encT, Ty.kind, Ty.names, Ty.kids, Ty.len, Ty.prec, Ty.scale] at *
  refine Z8t rfl Zlj (Nat.le_of_ble_eq_true rfl) ?_
  refine Z9z ?_
  refine Z9j rfl (Z0.fit_iff.1 rfl) fun b hb => ?_
  (repeat (refine st_q rfl rfl rfl ?_))
  (refine Z8y ?_; (repeat (first | refine Z9v rfl ?_ | refine Z9w ?_)); refine Z9u ?_)
  refine Zb3 (d := 1) (cs := [.int .i64 k, .slc 1 (ns.map .str) false, .slc 6 (Zlm ks) false, .int .i64 l, .int .i64 p, .int .i64 s]) rfl ?_
  have ret1 : ∀ (F : Z26), F 2 = some (.int .i64 1) → ownF k ns ks.length l p s = 1 → ARet Zkf.res (fun r σ' => r = .int .i64 (ownF k ns ks.length l p s : Int) ∧ σ' = σ) .ret F σ := fun F hF h =>
    ares (vs := [.int .i64 1]) (by simp [Z8l, Z8k, Zkf, hF]) (HSub.refl _) ⟨by rw [h]; rfl, rfl⟩
  have tail3 : Zlv k ns ks.length l p s = (if k = 14 then decide (1 ≤ p ∧ p ≤ 18 ∧ 0 ≤ s ∧ s ≤ p) else decide (p = 0 ∧ s = 0)) → ¬ (k = 5 ∨ k = 6) → ¬ (k < 0 ∨ 17 < k) →
      AWp Try.prog Zkf.n (Zkf.code.snd 10) (ARet Zkf.res fun r σ' => r = .int .i64 (ownF k ns ks.length l p s : Int) ∧ σ' = σ)
        (fset 1 (some (.iptr [.int .i64 k, .slc 1 (ns.map .str) false, .slc 6 (Zlm ks) false, .int .i64 l, .int .i64 p, .int .i64 s])) Z27) σ := by
    intro hr h56 h0
    have bad : Zlv k ns ks.length l p s = false → ownF k ns ks.length l p s = 1 := fun h => by rw [ownF, if_neg h56, if_pos (.inr (.inr h))]
    have good : Zlv k ns ks.length l p s = true → ownF k ns ks.length l p s = 0 := fun h => by rw [ownF, if_neg h56, if_neg (by rw [h]; simp <;> omega)]
    (repeat (first | refine st_q rfl rfl rfl ?_ | refine Z8v rfl (st_q rfl rfl rfl ?_) | refine Z8w rfl ?_ | refine Z8x rfl ?_ | (refine Z8y ?_; (repeat (first | refine Z9v rfl ?_ | refine Z9w ?_)); refine Z9u ?_) | refine awp_seq ?_ | refine Zbm (fun _ _ => rfl) ?_ | refine Z8h ?_ | refine Zbn (fun _ _ => rfl) ?_ | refine Zbo (fun _ _ => rfl) ?_ | refine Z8f (t := true) rfl (fun _ => ?_) (fun e => by cases e) | refine Z8f (t := false) rfl (fun e => by cases e) (fun _ => ?_)))
    by_cases h14 : k = 14
    · rw [if_pos h14] at hr
      (rw [show decide (k = 14) = true from decide_eq_true (by omega)])
      (repeat (first | refine st_q rfl rfl rfl ?_ | refine Z8v rfl (st_q rfl rfl rfl ?_) | refine Z8w rfl ?_ | refine Z8x rfl ?_ | (refine Z8y ?_; (repeat (first | refine Z9v rfl ?_ | refine Z9w ?_)); refine Z9u ?_) | refine awp_seq ?_ | refine Zbm (fun _ _ => rfl) ?_ | refine Z8h ?_ | refine Zbn (fun _ _ => rfl) ?_ | refine Zbo (fun _ _ => rfl) ?_ | refine Z8f (t := true) rfl (fun _ => ?_) (fun e => by cases e) | refine Z8f (t := false) rfl (fun e => by cases e) (fun _ => ?_)))
      by_cases q1 : p < 1
      · (rw [show decide (p < 1) = true from decide_eq_true (by omega)])
        (repeat (first | refine st_q rfl rfl rfl ?_ | refine Z8v rfl (st_q rfl rfl rfl ?_) | refine Z8w rfl ?_ | refine Z8x rfl ?_ | (refine Z8y ?_; (repeat (first | refine Z9v rfl ?_ | refine Z9w ?_)); refine Z9u ?_) | refine awp_seq ?_ | refine Zbm (fun _ _ => rfl) ?_ | refine Z8h ?_ | refine Zbn (fun _ _ => rfl) ?_ | refine Zbo (fun _ _ => rfl) ?_ | refine Z8f (t := true) rfl (fun _ => ?_) (fun e => by cases e) | refine Z8f (t := false) rfl (fun e => by cases e) (fun _ => ?_)))
        refine Z8d ?_
        exact ret1 _ rfl (bad (by rw [hr]; simp <;> omega))
      (rw [show decide (p < 1) = false from decide_eq_false (by omega)])
      (repeat (first | refine st_q rfl rfl rfl ?_ | refine Z8v rfl (st_q rfl rfl rfl ?_) | refine Z8w rfl ?_ | refine Z8x rfl ?_ | (refine Z8y ?_; (repeat (first | refine Z9v rfl ?_ | refine Z9w ?_)); refine Z9u ?_) | refine awp_seq ?_ | refine Zbm (fun _ _ => rfl) ?_ | refine Z8h ?_ | refine Zbn (fun _ _ => rfl) ?_ | refine Zbo (fun _ _ => rfl) ?_ | refine Z8f (t := true) rfl (fun _ => ?_) (fun e => by cases e) | refine Z8f (t := false) rfl (fun e => by cases e) (fun _ => ?_)))
      by_cases q2 : 18 < p
      · (rw [show decide (18 < p) = true from decide_eq_true (by omega)])
        (repeat (first | refine st_q rfl rfl rfl ?_ | refine Z8v rfl (st_q rfl rfl rfl ?_) | refine Z8w rfl ?_ | refine Z8x rfl ?_ | (refine Z8y ?_; (repeat (first | refine Z9v rfl ?_ | refine Z9w ?_)); refine Z9u ?_) | refine awp_seq ?_ | refine Zbm (fun _ _ => rfl) ?_ | refine Z8h ?_ | refine Zbn (fun _ _ => rfl) ?_ | refine Zbo (fun _ _ => rfl) ?_ | refine Z8f (t := true) rfl (fun _ => ?_) (fun e => by cases e) | refine Z8f (t := false) rfl (fun e => by cases e) (fun _ => ?_)))
        refine Z8d ?_
        exact ret1 _ rfl (bad (by rw [hr]; simp <;> omega))
      (rw [show decide (18 < p) = false from decide_eq_false (by omega)])
      (repeat (first | refine st_q rfl rfl rfl ?_ | refine Z8v rfl (st_q rfl rfl rfl ?_) | refine Z8w rfl ?_ | refine Z8x rfl ?_ | (refine Z8y ?_; (repeat (first | refine Z9v rfl ?_ | refine Z9w ?_)); refine Z9u ?_) | refine awp_seq ?_ | refine Zbm (fun _ _ => rfl) ?_ | refine Z8h ?_ | refine Zbn (fun _ _ => rfl) ?_ | refine Zbo (fun _ _ => rfl) ?_ | refine Z8f (t := true) rfl (fun _ => ?_) (fun e => by cases e) | refine Z8f (t := false) rfl (fun e => by cases e) (fun _ => ?_)))
      by_cases q3 : s < 0
      · (rw [show decide (s < 0) = true from decide_eq_true (by omega)])
        (repeat (first | refine st_q rfl rfl rfl ?_ | refine Z8v rfl (st_q rfl rfl rfl ?_) | refine Z8w rfl ?_ | refine Z8x rfl ?_ | (refine Z8y ?_; (repeat (first | refine Z9v rfl ?_ | refine Z9w ?_)); refine Z9u ?_) | refine awp_seq ?_ | refine Zbm (fun _ _ => rfl) ?_ | refine Z8h ?_ | refine Zbn (fun _ _ => rfl) ?_ | refine Zbo (fun _ _ => rfl) ?_ | refine Z8f (t := true) rfl (fun _ => ?_) (fun e => by cases e) | refine Z8f (t := false) rfl (fun e => by cases e) (fun _ => ?_)))
        refine Z8d ?_
        exact ret1 _ rfl (bad (by rw [hr]; simp <;> omega))
      (rw [show decide (s < 0) = false from decide_eq_false (by omega)])
      (repeat (first | refine st_q rfl rfl rfl ?_ | refine Z8v rfl (st_q rfl rfl rfl ?_) | refine Z8w rfl ?_ | refine Z8x rfl ?_ | (refine Z8y ?_; (repeat (first | refine Z9v rfl ?_ | refine Z9w ?_)); refine Z9u ?_) | refine awp_seq ?_ | refine Zbm (fun _ _ => rfl) ?_ | refine Z8h ?_ | refine Zbn (fun _ _ => rfl) ?_ | refine Zbo (fun _ _ => rfl) ?_ | refine Z8f (t := true) rfl (fun _ => ?_) (fun e => by cases e) | refine Z8f (t := false) rfl (fun e => by cases e) (fun _ => ?_)))
      by_cases q4 : p < s
      · (rw [show decide (p < s) = true from decide_eq_true (by omega)])
        (repeat (first | refine st_q rfl rfl rfl ?_ | refine Z8v rfl (st_q rfl rfl rfl ?_) | refine Z8w rfl ?_ | refine Z8x rfl ?_ | (refine Z8y ?_; (repeat (first | refine Z9v rfl ?_ | refine Z9w ?_)); refine Z9u ?_) | refine awp_seq ?_ | refine Zbm (fun _ _ => rfl) ?_ | refine Z8h ?_ | refine Zbn (fun _ _ => rfl) ?_ | refine Zbo (fun _ _ => rfl) ?_ | refine Z8f (t := true) rfl (fun _ => ?_) (fun e => by cases e) | refine Z8f (t := false) rfl (fun e => by cases e) (fun _ => ?_)))
        refine Z8d ?_
        exact ret1 _ rfl (bad (by rw [hr]; simp <;> omega))
      (rw [show decide (p < s) = false from decide_eq_false (by omega)])
      (repeat (first | refine st_q rfl rfl rfl ?_ | refine Z8v rfl (st_q rfl rfl rfl ?_) | refine Z8w rfl ?_ | refine Z8x rfl ?_ | (refine Z8y ?_; (repeat (first | refine Z9v rfl ?_ | refine Z9w ?_)); refine Z9u ?_) | refine awp_seq ?_ | refine Zbm (fun _ _ => rfl) ?_ | refine Z8h ?_ | refine Zbn (fun _ _ => rfl) ?_ | refine Zbo (fun _ _ => rfl) ?_ | refine Z8f (t := true) rfl (fun _ => ?_) (fun e => by cases e) | refine Z8f (t := false) rfl (fun e => by cases e) (fun _ => ?_)))
      refine Z8d ?_
      exact ares rfl (HSub.refl _) ⟨by rw [good (by rw [hr]; simp <;> omega)]; rfl, rfl⟩
    · rw [if_neg h14] at hr
      (rw [show decide (k = 14) = false from decide_eq_false (by omega)])
      (repeat (first | refine st_q rfl rfl rfl ?_ | refine Z8v rfl (st_q rfl rfl rfl ?_) | refine Z8w rfl ?_ | refine Z8x rfl ?_ | (refine Z8y ?_; (repeat (first | refine Z9v rfl ?_ | refine Z9w ?_)); refine Z9u ?_) | refine awp_seq ?_ | refine Zbm (fun _ _ => rfl) ?_ | refine Z8h ?_ | refine Zbn (fun _ _ => rfl) ?_ | refine Zbo (fun _ _ => rfl) ?_ | refine Z8f (t := true) rfl (fun _ => ?_) (fun e => by cases e) | refine Z8f (t := false) rfl (fun e => by cases e) (fun _ => ?_)))
      by_cases q1 : p = 0
      · (rw [show decide (p ≠ 0) = false from decide_eq_false (by omega)])
        (repeat (first | refine st_q rfl rfl rfl ?_ | refine Z8v rfl (st_q rfl rfl rfl ?_) | refine Z8w rfl ?_ | refine Z8x rfl ?_ | (refine Z8y ?_; (repeat (first | refine Z9v rfl ?_ | refine Z9w ?_)); refine Z9u ?_) | refine awp_seq ?_ | refine Zbm (fun _ _ => rfl) ?_ | refine Z8h ?_ | refine Zbn (fun _ _ => rfl) ?_ | refine Zbo (fun _ _ => rfl) ?_ | refine Z8f (t := true) rfl (fun _ => ?_) (fun e => by cases e) | refine Z8f (t := false) rfl (fun e => by cases e) (fun _ => ?_)))
        by_cases q2 : s = 0
        · (rw [show decide (s ≠ 0) = false from decide_eq_false (by omega)])
          (repeat (first | refine st_q rfl rfl rfl ?_ | refine Z8v rfl (st_q rfl rfl rfl ?_) | refine Z8w rfl ?_ | refine Z8x rfl ?_ | (refine Z8y ?_; (repeat (first | refine Z9v rfl ?_ | refine Z9w ?_)); refine Z9u ?_) | refine awp_seq ?_ | refine Zbm (fun _ _ => rfl) ?_ | refine Z8h ?_ | refine Zbn (fun _ _ => rfl) ?_ | refine Zbo (fun _ _ => rfl) ?_ | refine Z8f (t := true) rfl (fun _ => ?_) (fun e => by cases e) | refine Z8f (t := false) rfl (fun e => by cases e) (fun _ => ?_)))
          refine Z8d ?_
          exact ares rfl (HSub.refl _) ⟨by rw [good (by rw [hr]; simp <;> omega)]; rfl, rfl⟩
        · (rw [show decide (s ≠ 0) = true from decide_eq_true (by omega)])
          (repeat (first | refine st_q rfl rfl rfl ?_ | refine Z8v rfl (st_q rfl rfl rfl ?_) | refine Z8w rfl ?_ | refine Z8x rfl ?_ | (refine Z8y ?_; (repeat (first | refine Z9v rfl ?_ | refine Z9w ?_)); refine Z9u ?_) | refine awp_seq ?_ | refine Zbm (fun _ _ => rfl) ?_ | refine Z8h ?_ | refine Zbn (fun _ _ => rfl) ?_ | refine Zbo (fun _ _ => rfl) ?_ | refine Z8f (t := true) rfl (fun _ => ?_) (fun e => by cases e) | refine Z8f (t := false) rfl (fun e => by cases e) (fun _ => ?_)))
          refine Z8d ?_
          exact ret1 _ rfl (bad (by rw [hr]; simp <;> omega))
      · (rw [show decide (p ≠ 0) = true from decide_eq_true (by omega)])
        (repeat (first | refine st_q rfl rfl rfl ?_ | refine Z8v rfl (st_q rfl rfl rfl ?_) | refine Z8w rfl ?_ | refine Z8x rfl ?_ | (refine Z8y ?_; (repeat (first | refine Z9v rfl ?_ | refine Z9w ?_)); refine Z9u ?_) | refine awp_seq ?_ | refine Zbm (fun _ _ => rfl) ?_ | refine Z8h ?_ | refine Zbn (fun _ _ => rfl) ?_ | refine Zbo (fun _ _ => rfl) ?_ | refine Z8f (t := true) rfl (fun _ => ?_) (fun e => by cases e) | refine Z8f (t := false) rfl (fun e => by cases e) (fun _ => ?_)))
        refine Z8d ?_
        exact ret1 _ rfl (bad (by rw [hr]; simp <;> omega))
  have tail2 : Zlv k ns ks.length l p s = ((if k = 16 ∨ k = 17 then decide (1 ≤ l ∧ l ≤ 4096) else decide (l = 0)) && (if k = 14 then decide (1 ≤ p ∧ p ≤ 18 ∧ 0 ≤ s ∧ s ≤ p) else decide (p = 0 ∧ s = 0))) → ¬ (k = 5 ∨ k = 6) → ¬ (k < 0 ∨ 17 < k) →
      AWp Try.prog Zkf.n (Zkf.code.snd 8) (ARet Zkf.res fun r σ' => r = .int .i64 (ownF k ns ks.length l p s : Int) ∧ σ' = σ)
        (fset 1 (some (.iptr [.int .i64 k, .slc 1 (ns.map .str) false, .slc 6 (Zlm ks) false, .int .i64 l, .int .i64 p, .int .i64 s])) Z27) σ := by
    intro hr h56 h0
    have bad : Zlv k ns ks.length l p s = false → ownF k ns ks.length l p s = 1 := fun h => by rw [ownF, if_neg h56, if_pos (.inr (.inr h))]
    have text : ∀ tx : Bool, (tx = true ↔ (k = 16 ∨ k = 17)) → AWp Try.prog Zkf.n (Zkf.code.snd 9) (ARet Zkf.res fun r σ' => r = .int .i64 (ownF k ns ks.length l p s : Int) ∧ σ' = σ)
        (fset 1 (some (.iptr [.int .i64 k, .slc 1 (ns.map .str) false, .slc 6 (Zlm ks) false, .int .i64 l, .int .i64 p, .int .i64 s])) (fset 7 (some (.bool tx)) Z27)) σ := by
      intro tx htx
      cases tx with
      | true =>
        have hk' := htx.1 rfl
        rw [if_pos hk'] at hr
        have key : ∀ rest : Z2b, (1 ≤ l → l ≤ 4096 → AWp Try.prog Zkf.n rest (ARet Zkf.res fun r σ' => r = .int .i64 (ownF k ns ks.length l p s : Int) ∧ σ' = σ)
            (fset 1 (some (.iptr [.int .i64 k, .slc 1 (ns.map .str) false, .slc 6 (Zlm ks) false, .int .i64 l, .int .i64 p, .int .i64 s])) Z27) σ) →
            AWp Try.prog Zkf.n (.seq (Zkf.code.snd 9).fst rest) (ARet Zkf.res fun r σ' => r = .int .i64 (ownF k ns ks.length l p s : Int) ∧ σ' = σ)
            (fset 1 (some (.iptr [.int .i64 k, .slc 1 (ns.map .str) false, .slc 6 (Zlm ks) false, .int .i64 l, .int .i64 p, .int .i64 s])) (fset 7 (some (.bool true)) Z27)) σ := by
          intro rest hrest
          (repeat (first | refine st_q rfl rfl rfl ?_ | refine Z8v rfl (st_q rfl rfl rfl ?_) | refine Z8w rfl ?_ | refine Z8x rfl ?_ | (refine Z8y ?_; (repeat (first | refine Z9v rfl ?_ | refine Z9w ?_)); refine Z9u ?_) | refine awp_seq ?_ | refine Zbm (fun _ _ => rfl) ?_ | refine Z8h ?_ | refine Zbn (fun _ _ => rfl) ?_ | refine Zbo (fun _ _ => rfl) ?_ | refine Z8f (t := true) rfl (fun _ => ?_) (fun e => by cases e) | refine Z8f (t := false) rfl (fun e => by cases e) (fun _ => ?_)))
          by_cases q1 : l < 1
          · (rw [show decide (l < 1) = true from decide_eq_true (by omega)])
            (repeat (first | refine st_q rfl rfl rfl ?_ | refine Z8v rfl (st_q rfl rfl rfl ?_) | refine Z8w rfl ?_ | refine Z8x rfl ?_ | (refine Z8y ?_; (repeat (first | refine Z9v rfl ?_ | refine Z9w ?_)); refine Z9u ?_) | refine awp_seq ?_ | refine Zbm (fun _ _ => rfl) ?_ | refine Z8h ?_ | refine Zbn (fun _ _ => rfl) ?_ | refine Zbo (fun _ _ => rfl) ?_ | refine Z8f (t := true) rfl (fun _ => ?_) (fun e => by cases e) | refine Z8f (t := false) rfl (fun e => by cases e) (fun _ => ?_)))
            refine Z8d ?_
            exact ret1 _ rfl (bad (by rw [hr]; simp <;> omega))
          (rw [show decide (l < 1) = false from decide_eq_false (by omega)])
          (repeat (first | refine st_q rfl rfl rfl ?_ | refine Z8v rfl (st_q rfl rfl rfl ?_) | refine Z8w rfl ?_ | refine Z8x rfl ?_ | (refine Z8y ?_; (repeat (first | refine Z9v rfl ?_ | refine Z9w ?_)); refine Z9u ?_) | refine awp_seq ?_ | refine Zbm (fun _ _ => rfl) ?_ | refine Z8h ?_ | refine Zbn (fun _ _ => rfl) ?_ | refine Zbo (fun _ _ => rfl) ?_ | refine Z8f (t := true) rfl (fun _ => ?_) (fun e => by cases e) | refine Z8f (t := false) rfl (fun e => by cases e) (fun _ => ?_)))
          by_cases q2 : 4096 < l
          · (rw [show decide (4096 < l) = true from decide_eq_true (by omega)])
            (repeat (first | refine st_q rfl rfl rfl ?_ | refine Z8v rfl (st_q rfl rfl rfl ?_) | refine Z8w rfl ?_ | refine Z8x rfl ?_ | (refine Z8y ?_; (repeat (first | refine Z9v rfl ?_ | refine Z9w ?_)); refine Z9u ?_) | refine awp_seq ?_ | refine Zbm (fun _ _ => rfl) ?_ | refine Z8h ?_ | refine Zbn (fun _ _ => rfl) ?_ | refine Zbo (fun _ _ => rfl) ?_ | refine Z8f (t := true) rfl (fun _ => ?_) (fun e => by cases e) | refine Z8f (t := false) rfl (fun e => by cases e) (fun _ => ?_)))
            refine Z8d ?_
            exact ret1 _ rfl (bad (by rw [hr]; simp <;> omega))
          (rw [show decide (4096 < l) = false from decide_eq_false (by omega)])
          (repeat (first | refine st_q rfl rfl rfl ?_ | refine Z8v rfl (st_q rfl rfl rfl ?_) | refine Z8w rfl ?_ | refine Z8x rfl ?_ | (refine Z8y ?_; (repeat (first | refine Z9v rfl ?_ | refine Z9w ?_)); refine Z9u ?_) | refine awp_seq ?_ | refine Zbm (fun _ _ => rfl) ?_ | refine Z8h ?_ | refine Zbn (fun _ _ => rfl) ?_ | refine Zbo (fun _ _ => rfl) ?_ | refine Z8f (t := true) rfl (fun _ => ?_) (fun e => by cases e) | refine Z8f (t := false) rfl (fun e => by cases e) (fun _ => ?_)))
          (refine Z9y (keep := [1]) ?_; ((repeat (first | refine Z9v rfl ?_ | refine Z9w ?_)); refine Z9u ?_))
          exact hrest (by omega) (by omega)
        exact key _ fun q1 q2 => tail3 (by rw [hr]; simp [q1, q2]) h56 h0
      | false =>
        have hk' : ¬ (k = 16 ∨ k = 17) := fun h => by have := htx.2 h; cases this
        rw [if_neg hk'] at hr
        have key : ∀ rest : Z2b, (l = 0 → AWp Try.prog Zkf.n rest (ARet Zkf.res fun r σ' => r = .int .i64 (ownF k ns ks.length l p s : Int) ∧ σ' = σ)
            (fset 1 (some (.iptr [.int .i64 k, .slc 1 (ns.map .str) false, .slc 6 (Zlm ks) false, .int .i64 l, .int .i64 p, .int .i64 s])) Z27) σ) →
            AWp Try.prog Zkf.n (.seq (Zkf.code.snd 9).fst rest) (ARet Zkf.res fun r σ' => r = .int .i64 (ownF k ns ks.length l p s : Int) ∧ σ' = σ)
            (fset 1 (some (.iptr [.int .i64 k, .slc 1 (ns.map .str) false, .slc 6 (Zlm ks) false, .int .i64 l, .int .i64 p, .int .i64 s])) (fset 7 (some (.bool false)) Z27)) σ := by
          intro rest hrest
          (repeat (first | refine st_q rfl rfl rfl ?_ | refine Z8v rfl (st_q rfl rfl rfl ?_) | refine Z8w rfl ?_ | refine Z8x rfl ?_ | (refine Z8y ?_; (repeat (first | refine Z9v rfl ?_ | refine Z9w ?_)); refine Z9u ?_) | refine awp_seq ?_ | refine Zbm (fun _ _ => rfl) ?_ | refine Z8h ?_ | refine Zbn (fun _ _ => rfl) ?_ | refine Zbo (fun _ _ => rfl) ?_ | refine Z8f (t := true) rfl (fun _ => ?_) (fun e => by cases e) | refine Z8f (t := false) rfl (fun e => by cases e) (fun _ => ?_)))
          by_cases q1 : l = 0
          · (rw [show decide (l ≠ 0) = false from decide_eq_false (by omega)])
            (repeat (first | refine st_q rfl rfl rfl ?_ | refine Z8v rfl (st_q rfl rfl rfl ?_) | refine Z8w rfl ?_ | refine Z8x rfl ?_ | (refine Z8y ?_; (repeat (first | refine Z9v rfl ?_ | refine Z9w ?_)); refine Z9u ?_) | refine awp_seq ?_ | refine Zbm (fun _ _ => rfl) ?_ | refine Z8h ?_ | refine Zbn (fun _ _ => rfl) ?_ | refine Zbo (fun _ _ => rfl) ?_ | refine Z8f (t := true) rfl (fun _ => ?_) (fun e => by cases e) | refine Z8f (t := false) rfl (fun e => by cases e) (fun _ => ?_)))
            (refine Z9y (keep := [1]) ?_; ((repeat (first | refine Z9v rfl ?_ | refine Z9w ?_)); refine Z9u ?_))
            exact hrest q1
          · (rw [show decide (l ≠ 0) = true from decide_eq_true (by omega)])
            (repeat (first | refine st_q rfl rfl rfl ?_ | refine Z8v rfl (st_q rfl rfl rfl ?_) | refine Z8w rfl ?_ | refine Z8x rfl ?_ | (refine Z8y ?_; (repeat (first | refine Z9v rfl ?_ | refine Z9w ?_)); refine Z9u ?_) | refine awp_seq ?_ | refine Zbm (fun _ _ => rfl) ?_ | refine Z8h ?_ | refine Zbn (fun _ _ => rfl) ?_ | refine Zbo (fun _ _ => rfl) ?_ | refine Z8f (t := true) rfl (fun _ => ?_) (fun e => by cases e) | refine Z8f (t := false) rfl (fun e => by cases e) (fun _ => ?_)))
            refine Z8d ?_
            exact ret1 _ rfl (bad (by rw [hr]; simp <;> omega))
        exact key _ fun q1 => tail3 (by rw [hr]; simp [q1]) h56 h0
    have key : ∀ rest : Z2b, (∀ tx : Bool, (tx = true ↔ (k = 16 ∨ k = 17)) → AWp Try.prog Zkf.n rest (ARet Zkf.res fun r σ' => r = .int .i64 (ownF k ns ks.length l p s : Int) ∧ σ' = σ)
        (fset 1 (some (.iptr [.int .i64 k, .slc 1 (ns.map .str) false, .slc 6 (Zlm ks) false, .int .i64 l, .int .i64 p, .int .i64 s])) (fset 7 (some (.bool tx)) Z27)) σ) →
        AWp Try.prog Zkf.n (.seq (Zkf.code.snd 8).fst rest) (ARet Zkf.res fun r σ' => r = .int .i64 (ownF k ns ks.length l p s : Int) ∧ σ' = σ)
        (fset 1 (some (.iptr [.int .i64 k, .slc 1 (ns.map .str) false, .slc 6 (Zlm ks) false, .int .i64 l, .int .i64 p, .int .i64 s])) Z27) σ := by
      intro rest hrest
      (repeat (first | refine st_q rfl rfl rfl ?_ | refine Z8v rfl (st_q rfl rfl rfl ?_) | refine Z8w rfl ?_ | refine Z8x rfl ?_ | (refine Z8y ?_; (repeat (first | refine Z9v rfl ?_ | refine Z9w ?_)); refine Z9u ?_) | refine awp_seq ?_ | refine Zbm (fun _ _ => rfl) ?_ | refine Z8h ?_ | refine Zbn (fun _ _ => rfl) ?_ | refine Zbo (fun _ _ => rfl) ?_ | refine Z8f (t := true) rfl (fun _ => ?_) (fun e => by cases e) | refine Z8f (t := false) rfl (fun e => by cases e) (fun _ => ?_)))
      by_cases q1 : k = 16
      · (rw [show decide (k = 16) = true from decide_eq_true (by omega)])
        (repeat (first | refine st_q rfl rfl rfl ?_ | refine Z8v rfl (st_q rfl rfl rfl ?_) | refine Z8w rfl ?_ | refine Z8x rfl ?_ | (refine Z8y ?_; (repeat (first | refine Z9v rfl ?_ | refine Z9w ?_)); refine Z9u ?_) | refine awp_seq ?_ | refine Zbm (fun _ _ => rfl) ?_ | refine Z8h ?_ | refine Zbn (fun _ _ => rfl) ?_ | refine Zbo (fun _ _ => rfl) ?_ | refine Z8f (t := true) rfl (fun _ => ?_) (fun e => by cases e) | refine Z8f (t := false) rfl (fun e => by cases e) (fun _ => ?_)))
        exact hrest true (by simp [q1])
      (rw [show decide (k = 16) = false from decide_eq_false (by omega)])
      (repeat (first | refine st_q rfl rfl rfl ?_ | refine Z8v rfl (st_q rfl rfl rfl ?_) | refine Z8w rfl ?_ | refine Z8x rfl ?_ | (refine Z8y ?_; (repeat (first | refine Z9v rfl ?_ | refine Z9w ?_)); refine Z9u ?_) | refine awp_seq ?_ | refine Zbm (fun _ _ => rfl) ?_ | refine Z8h ?_ | refine Zbn (fun _ _ => rfl) ?_ | refine Zbo (fun _ _ => rfl) ?_ | refine Z8f (t := true) rfl (fun _ => ?_) (fun e => by cases e) | refine Z8f (t := false) rfl (fun e => by cases e) (fun _ => ?_)))
      exact hrest (decide (k = 17)) (by simp [q1])
    exact key _ text
  have tail1 : Zlv k ns ks.length l p s = (Zlt ns && ((if k = 16 ∨ k = 17 then decide (1 ≤ l ∧ l ≤ 4096) else decide (l = 0)) && (if k = 14 then decide (1 ≤ p ∧ p ≤ 18 ∧ 0 ≤ s ∧ s ≤ p) else decide (p = 0 ∧ s = 0)))) → ¬ (k = 5 ∨ k = 6) → ¬ (k < 0 ∨ 17 < k) →
      AWp Try.prog Zkf.n (Zkf.code.snd 7) (ARet Zkf.res fun r σ' => r = .int .i64 (ownF k ns ks.length l p s : Int) ∧ σ' = σ)
        (fset 1 (some (.iptr [.int .i64 k, .slc 1 (ns.map .str) false, .slc 6 (Zlm ks) false, .int .i64 l, .int .i64 p, .int .i64 s])) Z27) σ := by
    intro hr h56 h0
    have bad : Zlt ns = false → ownF k ns ks.length l p s = 1 := fun h => by rw [ownF, if_neg h56, if_pos (.inr (.inr (by rw [hr, h]; rfl)))]
    have key : ∀ rest : Z2b, (Zlt ns = true → AWp Try.prog Zkf.n rest (ARet Zkf.res fun r σ' => r = .int .i64 (ownF k ns ks.length l p s : Int) ∧ σ' = σ)
        (fset 1 (some (.iptr [.int .i64 k, .slc 1 (ns.map .str) false, .slc 6 (Zlm ks) false, .int .i64 l, .int .i64 p, .int .i64 s])) Z27) σ) →
        AWp Try.prog Zkf.n (.seq (Zkf.code.snd 7).fst rest) (ARet Zkf.res fun r σ' => r = .int .i64 (ownF k ns ks.length l p s : Int) ∧ σ' = σ)
        (fset 1 (some (.iptr [.int .i64 k, .slc 1 (ns.map .str) false, .slc 6 (Zlm ks) false, .int .i64 l, .int .i64 p, .int .i64 s])) Z27) σ := by
      intro rest hrest
      (repeat (first | refine st_q rfl rfl rfl ?_ | refine Z8v rfl (st_q rfl rfl rfl ?_) | refine Z8w rfl ?_ | refine Z8x rfl ?_ | (refine Z8y ?_; (repeat (first | refine Z9v rfl ?_ | refine Z9w ?_)); refine Z9u ?_) | refine awp_seq ?_ | refine Zbm (fun _ _ => rfl) ?_ | refine Z8h ?_ | refine Zbn (fun _ _ => rfl) ?_ | refine Zbo (fun _ _ => rfl) ?_ | refine Z8f (t := true) rfl (fun _ => ?_) (fun e => by cases e) | refine Z8f (t := false) rfl (fun e => by cases e) (fun _ => ?_)))
      refine Zaa (fun m F σ' => ∃ (i : Nat), F = fset 1 (some (.iptr [.int .i64 k, .slc 1 (ns.map .str) false, .slc 6 (Zlm ks) false, .int .i64 l, .int .i64 p, .int .i64 s])) (fset 5 (some (.int .i64 (i : Int))) Z27) ∧
        σ = σ' ∧ i ≤ ns.length ∧ (∀ (a : Nat) (s : List UInt8), a < i → ns[a]? = some s → (s ≠ [] ∧ s.length ≤ 100) ∧ ∀ (k : Nat) (u : List UInt8), k < a → ns[k]? = some u → u ≠ s) ∧ m = ns.length - i) (n := ns.length)
        ⟨0, rfl, rfl, by omega, fun a s h => absurd h (by omega), rfl⟩ ?_
      rintro m F σ' ⟨i, rfl, rfl, hi, hall, rfl⟩
      (repeat (first | refine st_q rfl rfl rfl ?_ | refine Z8v rfl (st_q rfl rfl rfl ?_) | refine Z8w rfl ?_ | refine Z8x rfl ?_ | (refine Z8y ?_; (repeat (first | refine Z9v rfl ?_ | refine Z9w ?_)); refine Z9u ?_) | refine awp_seq ?_ | refine Zbm (fun _ _ => rfl) ?_ | refine Z8h ?_ | refine Zbn (fun _ _ => rfl) ?_ | refine Zbo (fun _ _ => rfl) ?_ | refine Z8f (t := true) rfl (fun _ => ?_) (fun e => by cases e) | refine Z8f (t := false) rfl (fun e => by cases e) (fun _ => ?_)))
      rw [List.length_map]
      refine Za3 (p := (i : Int) < (ns.length : Int)) rfl (fun h3 => ?_) (fun h3 => ?_)
      · have hil : i < ns.length := by omega
        obtain ⟨nm, hnm⟩ : ∃ nm, ns[i]? = some nm := ⟨_, List.getElem?_eq_getElem hil⟩
        have hx : (ns.map Z0.str)[(i : Int).toNat]? = some (.str nm) := by rw [Int.toNat_natCast, List.getElem?_map, hnm]; rfl
        (repeat (first | refine st_q rfl rfl rfl ?_ | refine Z8v rfl (st_q rfl rfl rfl ?_) | refine Z8w rfl ?_ | refine Z8x rfl ?_ | (refine Z8y ?_; (repeat (first | refine Z9v rfl ?_ | refine Z9w ?_)); refine Z9u ?_) | refine awp_seq ?_ | refine Zbm (fun _ _ => rfl) ?_ | refine Z8h ?_ | refine Zbn (fun _ _ => rfl) ?_ | refine Zbo (fun _ _ => rfl) ?_ | refine Z8f (t := true) rfl (fun _ => ?_) (fun e => by cases e) | refine Z8f (t := false) rfl (fun e => by cases e) (fun _ => ?_)))
        refine Z93 rfl (by omega) hx ?_
        (repeat (first | refine st_q rfl rfl rfl ?_ | refine Z8v rfl (st_q rfl rfl rfl ?_) | refine Z8w rfl ?_ | refine Z8x rfl ?_ | (refine Z8y ?_; (repeat (first | refine Z9v rfl ?_ | refine Z9w ?_)); refine Z9u ?_) | refine awp_seq ?_ | refine Zbm (fun _ _ => rfl) ?_ | refine Z8h ?_ | refine Zbn (fun _ _ => rfl) ?_ | refine Zbo (fun _ _ => rfl) ?_ | refine Z8f (t := true) rfl (fun _ => ?_) (fun e => by cases e) | refine Z8f (t := false) rfl (fun e => by cases e) (fun _ => ?_)))
        by_cases e1 : nm = []
        · rw [show decide (nm = []) = true from decide_eq_true e1]
          (repeat (first | refine st_q rfl rfl rfl ?_ | refine Z8v rfl (st_q rfl rfl rfl ?_) | refine Z8w rfl ?_ | refine Z8x rfl ?_ | (refine Z8y ?_; (repeat (first | refine Z9v rfl ?_ | refine Z9w ?_)); refine Z9u ?_) | refine awp_seq ?_ | refine Zbm (fun _ _ => rfl) ?_ | refine Z8h ?_ | refine Zbn (fun _ _ => rfl) ?_ | refine Zbo (fun _ _ => rfl) ?_ | refine Z8f (t := true) rfl (fun _ => ?_) (fun e => by cases e) | refine Z8f (t := false) rfl (fun e => by cases e) (fun _ => ?_)))
          refine Z8d ?_
          exact ret1 _ rfl (bad (Bool.eq_false_iff.2 fun h => (Zms.1 h i nm hnm).1.1 e1))
        rw [show decide (nm = []) = false from decide_eq_false e1]
        (repeat (first | refine st_q rfl rfl rfl ?_ | refine Z8v rfl (st_q rfl rfl rfl ?_) | refine Z8w rfl ?_ | refine Z8x rfl ?_ | (refine Z8y ?_; (repeat (first | refine Z9v rfl ?_ | refine Z9w ?_)); refine Z9u ?_) | refine awp_seq ?_ | refine Zbm (fun _ _ => rfl) ?_ | refine Z8h ?_ | refine Zbn (fun _ _ => rfl) ?_ | refine Zbo (fun _ _ => rfl) ?_ | refine Z8f (t := true) rfl (fun _ => ?_) (fun e => by cases e) | refine Z8f (t := false) rfl (fun e => by cases e) (fun _ => ?_)))
        refine Z8v rfl (Z93 rfl (by omega) hx ?_)
        (repeat (first | refine st_q rfl rfl rfl ?_ | refine Z8v rfl (st_q rfl rfl rfl ?_) | refine Z8w rfl ?_ | refine Z8x rfl ?_ | (refine Z8y ?_; (repeat (first | refine Z9v rfl ?_ | refine Z9w ?_)); refine Z9u ?_) | refine awp_seq ?_ | refine Zbm (fun _ _ => rfl) ?_ | refine Z8h ?_ | refine Zbn (fun _ _ => rfl) ?_ | refine Zbo (fun _ _ => rfl) ?_ | refine Z8f (t := true) rfl (fun _ => ?_) (fun e => by cases e) | refine Z8f (t := false) rfl (fun e => by cases e) (fun _ => ?_)))
        refine Za3 (p := (100 : Int) < (nm.length : Int)) rfl (fun e2 => ?_) (fun e2 => ?_)
        · (repeat (first | refine st_q rfl rfl rfl ?_ | refine Z8v rfl (st_q rfl rfl rfl ?_) | refine Z8w rfl ?_ | refine Z8x rfl ?_ | (refine Z8y ?_; (repeat (first | refine Z9v rfl ?_ | refine Z9w ?_)); refine Z9u ?_) | refine awp_seq ?_ | refine Zbm (fun _ _ => rfl) ?_ | refine Z8h ?_ | refine Zbn (fun _ _ => rfl) ?_ | refine Zbo (fun _ _ => rfl) ?_ | refine Z8f (t := true) rfl (fun _ => ?_) (fun e => by cases e) | refine Z8f (t := false) rfl (fun e => by cases e) (fun _ => ?_)))
          refine Z8d ?_
          exact ret1 _ rfl (bad (Bool.eq_false_iff.2 fun h => by have := (Zms.1 h i nm hnm).1.2; omega))
        (repeat (first | refine st_q rfl rfl rfl ?_ | refine Z8v rfl (st_q rfl rfl rfl ?_) | refine Z8w rfl ?_ | refine Z8x rfl ?_ | (refine Z8y ?_; (repeat (first | refine Z9v rfl ?_ | refine Z9w ?_)); refine Z9u ?_) | refine awp_seq ?_ | refine Zbm (fun _ _ => rfl) ?_ | refine Z8h ?_ | refine Zbn (fun _ _ => rfl) ?_ | refine Zbo (fun _ _ => rfl) ?_ | refine Z8f (t := true) rfl (fun _ => ?_) (fun e => by cases e) | refine Z8f (t := false) rfl (fun e => by cases e) (fun _ => ?_)))
        (refine Z9y (keep := [1, 5, 6]) ?_; ((repeat (first | refine Z9v rfl ?_ | refine Z9w ?_)); refine Z9u ?_))
        refine Zaa (fun m F σ' => ∃ (j : Nat), F = fset 1 (some (.iptr [.int .i64 k, .slc 1 (ns.map .str) false, .slc 6 (Zlm ks) false, .int .i64 l, .int .i64 p, .int .i64 s])) (fset 5 (some (.int .i64 (i : Int))) (fset 6 (some (.int .i64 (j : Int))) Z27)) ∧
          σ = σ' ∧ j ≤ i ∧ (∀ (k : Nat) (u : List UInt8), k < j → ns[k]? = some u → u ≠ nm) ∧ m = i - j) (n := i)
          ⟨0, rfl, rfl, by omega, fun a s h => absurd h (by omega), rfl⟩ ?_
        rintro m F σ' ⟨j, rfl, rfl, hj, hne, rfl⟩
        (repeat (first | refine st_q rfl rfl rfl ?_ | refine Z8v rfl (st_q rfl rfl rfl ?_) | refine Z8w rfl ?_ | refine Z8x rfl ?_ | (refine Z8y ?_; (repeat (first | refine Z9v rfl ?_ | refine Z9w ?_)); refine Z9u ?_) | refine awp_seq ?_ | refine Zbm (fun _ _ => rfl) ?_ | refine Z8h ?_ | refine Zbn (fun _ _ => rfl) ?_ | refine Zbo (fun _ _ => rfl) ?_ | refine Z8f (t := true) rfl (fun _ => ?_) (fun e => by cases e) | refine Z8f (t := false) rfl (fun e => by cases e) (fun _ => ?_)))
        refine Za3 (p := (j : Int) < (i : Int)) rfl (fun h4 => ?_) (fun h4 => ?_)
        · obtain ⟨um, hum⟩ : ∃ um, ns[j]? = some um := ⟨_, List.getElem?_eq_getElem (by omega)⟩
          have hy : (ns.map Z0.str)[(j : Int).toNat]? = some (.str um) := by rw [Int.toNat_natCast, List.getElem?_map, hum]; rfl
          (repeat (first | refine st_q rfl rfl rfl ?_ | refine Z8v rfl (st_q rfl rfl rfl ?_) | refine Z8w rfl ?_ | refine Z8x rfl ?_ | (refine Z8y ?_; (repeat (first | refine Z9v rfl ?_ | refine Z9w ?_)); refine Z9u ?_) | refine awp_seq ?_ | refine Zbm (fun _ _ => rfl) ?_ | refine Z8h ?_ | refine Zbn (fun _ _ => rfl) ?_ | refine Zbo (fun _ _ => rfl) ?_ | refine Z8f (t := true) rfl (fun _ => ?_) (fun e => by cases e) | refine Z8f (t := false) rfl (fun e => by cases e) (fun _ => ?_)))
          refine Z93 rfl (by omega) hy ?_
          (repeat (first | refine st_q rfl rfl rfl ?_ | refine Z8v rfl (st_q rfl rfl rfl ?_) | refine Z8w rfl ?_ | refine Z8x rfl ?_ | (refine Z8y ?_; (repeat (first | refine Z9v rfl ?_ | refine Z9w ?_)); refine Z9u ?_) | refine awp_seq ?_ | refine Zbm (fun _ _ => rfl) ?_ | refine Z8h ?_ | refine Zbn (fun _ _ => rfl) ?_ | refine Zbo (fun _ _ => rfl) ?_ | refine Z8f (t := true) rfl (fun _ => ?_) (fun e => by cases e) | refine Z8f (t := false) rfl (fun e => by cases e) (fun _ => ?_)))
          refine Z93 rfl (by omega) hx ?_
          (repeat (first | refine st_q rfl rfl rfl ?_ | refine Z8v rfl (st_q rfl rfl rfl ?_) | refine Z8w rfl ?_ | refine Z8x rfl ?_ | (refine Z8y ?_; (repeat (first | refine Z9v rfl ?_ | refine Z9w ?_)); refine Z9u ?_) | refine awp_seq ?_ | refine Zbm (fun _ _ => rfl) ?_ | refine Z8h ?_ | refine Zbn (fun _ _ => rfl) ?_ | refine Zbo (fun _ _ => rfl) ?_ | refine Z8f (t := true) rfl (fun _ => ?_) (fun e => by cases e) | refine Z8f (t := false) rfl (fun e => by cases e) (fun _ => ?_)))
          refine Za3 (p := um = nm) rfl (fun e3 => ?_) (fun e3 => ?_)
          · (repeat (first | refine st_q rfl rfl rfl ?_ | refine Z8v rfl (st_q rfl rfl rfl ?_) | refine Z8w rfl ?_ | refine Z8x rfl ?_ | (refine Z8y ?_; (repeat (first | refine Z9v rfl ?_ | refine Z9w ?_)); refine Z9u ?_) | refine awp_seq ?_ | refine Zbm (fun _ _ => rfl) ?_ | refine Z8h ?_ | refine Zbn (fun _ _ => rfl) ?_ | refine Zbo (fun _ _ => rfl) ?_ | refine Z8f (t := true) rfl (fun _ => ?_) (fun e => by cases e) | refine Z8f (t := false) rfl (fun e => by cases e) (fun _ => ?_)))
            refine Z8d ?_
            exact ret1 _ rfl (bad (Bool.eq_false_iff.2 fun h => (Zms.1 h i nm hnm).2 j um (by omega) hum e3))
          · (repeat (first | refine st_q rfl rfl rfl ?_ | refine Z8v rfl (st_q rfl rfl rfl ?_) | refine Z8w rfl ?_ | refine Z8x rfl ?_ | (refine Z8y ?_; (repeat (first | refine Z9v rfl ?_ | refine Z9w ?_)); refine Z9u ?_) | refine awp_seq ?_ | refine Zbm (fun _ _ => rfl) ?_ | refine Z8h ?_ | refine Zbn (fun _ _ => rfl) ?_ | refine Zbo (fun _ _ => rfl) ?_ | refine Z8f (t := true) rfl (fun _ => ?_) (fun e => by cases e) | refine Z8f (t := false) rfl (fun e => by cases e) (fun _ => ?_)))
            refine Zbp ?_
            (repeat (refine st_q rfl rfl rfl ?_))
            rw [show IntKind.wrap .i64 ((j : Int) + 1) = ((j + 1 : Nat) : Int) by rw [w64 _ (by omega) (by omega)]; omega]
            (refine Z8y ?_; (repeat (first | refine Z9v rfl ?_ | refine Z9w ?_)); refine Z9u ?_)
            refine ⟨_, i - (j + 1), HSub.refl _, ⟨j + 1, rfl, rfl, by omega, fun a u ha hu => ?_, rfl⟩, by omega⟩
            by_cases e : a = j
            · subst e; rw [hum] at hu; cases hu; exact e3
            · exact hne a u (by omega) hu
        · (repeat (first | refine st_q rfl rfl rfl ?_ | refine Z8v rfl (st_q rfl rfl rfl ?_) | refine Z8w rfl ?_ | refine Z8x rfl ?_ | (refine Z8y ?_; (repeat (first | refine Z9v rfl ?_ | refine Z9w ?_)); refine Z9u ?_) | refine awp_seq ?_ | refine Zbm (fun _ _ => rfl) ?_ | refine Z8h ?_ | refine Zbn (fun _ _ => rfl) ?_ | refine Zbo (fun _ _ => rfl) ?_ | refine Z8f (t := true) rfl (fun _ => ?_) (fun e => by cases e) | refine Z8f (t := false) rfl (fun e => by cases e) (fun _ => ?_)))
          refine Zbp ?_
          (repeat (refine st_q rfl rfl rfl ?_))
          rw [show IntKind.wrap .i64 ((i : Int) + 1) = ((i + 1 : Nat) : Int) by rw [w64 _ (by omega) (by omega)]; omega]
          (refine Z8y ?_; (repeat (first | refine Z9v rfl ?_ | refine Z9w ?_)); refine Z9u ?_)
          refine ⟨_, ns.length - (i + 1), HSub.refl _, ⟨i + 1, rfl, rfl, by omega, fun a u ha hu => ?_, rfl⟩, by omega⟩
          by_cases e : a = i
          · subst e; rw [hnm] at hu; cases hu
            exact ⟨⟨e1, by omega⟩, fun k u hk hu => hne k u (by omega) hu⟩
          · exact hall a u (by omega) hu
      · (repeat (first | refine st_q rfl rfl rfl ?_ | refine Z8v rfl (st_q rfl rfl rfl ?_) | refine Z8w rfl ?_ | refine Z8x rfl ?_ | (refine Z8y ?_; (repeat (first | refine Z9v rfl ?_ | refine Z9w ?_)); refine Z9u ?_) | refine awp_seq ?_ | refine Zbm (fun _ _ => rfl) ?_ | refine Z8h ?_ | refine Zbn (fun _ _ => rfl) ?_ | refine Zbo (fun _ _ => rfl) ?_ | refine Z8f (t := true) rfl (fun _ => ?_) (fun e => by cases e) | refine Z8f (t := false) rfl (fun e => by cases e) (fun _ => ?_)))
        (refine Z9y (keep := [1]) ?_; ((repeat (first | refine Z9v rfl ?_ | refine Z9w ?_)); refine Z9u ?_))
        refine hrest (Zms.2 fun a u hu => hall a u ?_ hu)
        have := (List.getElem?_eq_some_iff.1 hu).1
        omega
    exact key _ fun hN => tail2 (by rw [hr, hN]; rfl) h56 h0
  (repeat (first | refine st_q rfl rfl rfl ?_ | refine Z8v rfl (st_q rfl rfl rfl ?_) | refine Z8w rfl ?_ | refine Z8x rfl ?_ | (refine Z8y ?_; (repeat (first | refine Z9v rfl ?_ | refine Z9w ?_)); refine Z9u ?_) | refine awp_seq ?_ | refine Zbm (fun _ _ => rfl) ?_ | refine Z8h ?_ | refine Zbn (fun _ _ => rfl) ?_ | refine Zbo (fun _ _ => rfl) ?_ | refine Z8f (t := true) rfl (fun _ => ?_) (fun e => by cases e) | refine Z8f (t := false) rfl (fun e => by cases e) (fun _ => ?_)))
  by_cases g1 : k = 5
  · (rw [show decide (k = 5) = true from decide_eq_true (by omega)])
    (repeat (first | refine st_q rfl rfl rfl ?_ | refine Z8v rfl (st_q rfl rfl rfl ?_) | refine Z8w rfl ?_ | refine Z8x rfl ?_ | (refine Z8y ?_; (repeat (first | refine Z9v rfl ?_ | refine Z9w ?_)); refine Z9u ?_) | refine awp_seq ?_ | refine Zbm (fun _ _ => rfl) ?_ | refine Z8h ?_ | refine Zbn (fun _ _ => rfl) ?_ | refine Zbo (fun _ _ => rfl) ?_ | refine Z8f (t := true) rfl (fun _ => ?_) (fun e => by cases e) | refine Z8f (t := false) rfl (fun e => by cases e) (fun _ => ?_)))
    refine Z8d ?_
    exact ares rfl (HSub.refl _) ⟨by simp [ownF, g1, Z8m], rfl⟩
  (rw [show decide (k = 5) = false from decide_eq_false (by omega)])
  (repeat (first | refine st_q rfl rfl rfl ?_ | refine Z8v rfl (st_q rfl rfl rfl ?_) | refine Z8w rfl ?_ | refine Z8x rfl ?_ | (refine Z8y ?_; (repeat (first | refine Z9v rfl ?_ | refine Z9w ?_)); refine Z9u ?_) | refine awp_seq ?_ | refine Zbm (fun _ _ => rfl) ?_ | refine Z8h ?_ | refine Zbn (fun _ _ => rfl) ?_ | refine Zbo (fun _ _ => rfl) ?_ | refine Z8f (t := true) rfl (fun _ => ?_) (fun e => by cases e) | refine Z8f (t := false) rfl (fun e => by cases e) (fun _ => ?_)))
  by_cases g2 : k = 6
  · (rw [show decide (k = 6) = true from decide_eq_true (by omega)])
    (repeat (first | refine st_q rfl rfl rfl ?_ | refine Z8v rfl (st_q rfl rfl rfl ?_) | refine Z8w rfl ?_ | refine Z8x rfl ?_ | (refine Z8y ?_; (repeat (first | refine Z9v rfl ?_ | refine Z9w ?_)); refine Z9u ?_) | refine awp_seq ?_ | refine Zbm (fun _ _ => rfl) ?_ | refine Z8h ?_ | refine Zbn (fun _ _ => rfl) ?_ | refine Zbo (fun _ _ => rfl) ?_ | refine Z8f (t := true) rfl (fun _ => ?_) (fun e => by cases e) | refine Z8f (t := false) rfl (fun e => by cases e) (fun _ => ?_)))
    refine Z8d ?_
    exact ares rfl (HSub.refl _) ⟨by simp [ownF, g2, Z8m], rfl⟩
  (rw [show decide (k = 6) = false from decide_eq_false (by omega)])
  (repeat (first | refine st_q rfl rfl rfl ?_ | refine Z8v rfl (st_q rfl rfl rfl ?_) | refine Z8w rfl ?_ | refine Z8x rfl ?_ | (refine Z8y ?_; (repeat (first | refine Z9v rfl ?_ | refine Z9w ?_)); refine Z9u ?_) | refine awp_seq ?_ | refine Zbm (fun _ _ => rfl) ?_ | refine Z8h ?_ | refine Zbn (fun _ _ => rfl) ?_ | refine Zbo (fun _ _ => rfl) ?_ | refine Z8f (t := true) rfl (fun _ => ?_) (fun e => by cases e) | refine Z8f (t := false) rfl (fun e => by cases e) (fun _ => ?_)))
  have h56 : ¬ (k = 5 ∨ k = 6) := by omega
  by_cases g3 : k < 0
  · (rw [show decide (k < 0) = true from decide_eq_true (by omega)])
    (repeat (first | refine st_q rfl rfl rfl ?_ | refine Z8v rfl (st_q rfl rfl rfl ?_) | refine Z8w rfl ?_ | refine Z8x rfl ?_ | (refine Z8y ?_; (repeat (first | refine Z9v rfl ?_ | refine Z9w ?_)); refine Z9u ?_) | refine awp_seq ?_ | refine Zbm (fun _ _ => rfl) ?_ | refine Z8h ?_ | refine Zbn (fun _ _ => rfl) ?_ | refine Zbo (fun _ _ => rfl) ?_ | refine Z8f (t := true) rfl (fun _ => ?_) (fun e => by cases e) | refine Z8f (t := false) rfl (fun e => by cases e) (fun _ => ?_)))
    refine Z8d ?_
    exact ret1 _ rfl (by rw [ownF, if_neg h56, if_pos (.inl g3)])
  (rw [show decide (k < 0) = false from decide_eq_false (by omega)])
  (repeat (first | refine st_q rfl rfl rfl ?_ | refine Z8v rfl (st_q rfl rfl rfl ?_) | refine Z8w rfl ?_ | refine Z8x rfl ?_ | (refine Z8y ?_; (repeat (first | refine Z9v rfl ?_ | refine Z9w ?_)); refine Z9u ?_) | refine awp_seq ?_ | refine Zbm (fun _ _ => rfl) ?_ | refine Z8h ?_ | refine Zbn (fun _ _ => rfl) ?_ | refine Zbo (fun _ _ => rfl) ?_ | refine Z8f (t := true) rfl (fun _ => ?_) (fun e => by cases e) | refine Z8f (t := false) rfl (fun e => by cases e) (fun _ => ?_)))
  by_cases g4 : 17 < k
  · (rw [show decide (17 < k) = true from decide_eq_true (by omega)])
    (repeat (first | refine st_q rfl rfl rfl ?_ | refine Z8v rfl (st_q rfl rfl rfl ?_) | refine Z8w rfl ?_ | refine Z8x rfl ?_ | (refine Z8y ?_; (repeat (first | refine Z9v rfl ?_ | refine Z9w ?_)); refine Z9u ?_) | refine awp_seq ?_ | refine Zbm (fun _ _ => rfl) ?_ | refine Z8h ?_ | refine Zbn (fun _ _ => rfl) ?_ | refine Zbo (fun _ _ => rfl) ?_ | refine Z8f (t := true) rfl (fun _ => ?_) (fun e => by cases e) | refine Z8f (t := false) rfl (fun e => by cases e) (fun _ => ?_)))
    refine Z8d ?_
    exact ret1 _ rfl (by rw [ownF, if_neg h56, if_pos (.inr (.inl g4))])
  (rw [show decide (17 < k) = false from decide_eq_false (by omega)])
  have r16 : ∀ ok : Bool, ok = Zlu k ns.length ks.length →
      AWp Try.prog Zkf.n (Zkf.code.snd 6) (ARet Zkf.res fun r σ' => r = .int .i64 (ownF k ns ks.length l p s : Int) ∧ σ' = σ)
        (fset 1 (some (.iptr [.int .i64 k, .slc 1 (ns.map .str) false, .slc 6 (Zlm ks) false, .int .i64 l, .int .i64 p, .int .i64 s])) (fset 4 (some (.bool ok)) Z27)) σ := by
    intro ok hok
    have h0 : ¬ (k < 0 ∨ 17 < k) := by omega
    have key : ∀ rest : Z2b, (ok = true → (k = 12 ∨ ns = []) → AWp Try.prog Zkf.n rest (ARet Zkf.res fun r σ' => r = .int .i64 (ownF k ns ks.length l p s : Int) ∧ σ' = σ)
        (fset 1 (some (.iptr [.int .i64 k, .slc 1 (ns.map .str) false, .slc 6 (Zlm ks) false, .int .i64 l, .int .i64 p, .int .i64 s])) Z27) σ) →
        AWp Try.prog Zkf.n (.seq (Zkf.code.snd 6).fst rest) (ARet Zkf.res fun r σ' => r = .int .i64 (ownF k ns ks.length l p s : Int) ∧ σ' = σ)
        (fset 1 (some (.iptr [.int .i64 k, .slc 1 (ns.map .str) false, .slc 6 (Zlm ks) false, .int .i64 l, .int .i64 p, .int .i64 s])) (fset 4 (some (.bool ok)) Z27)) σ := by
      intro rest hrest
      cases ok with
      | false =>
        (repeat (first | refine st_q rfl rfl rfl ?_ | refine Z8v rfl (st_q rfl rfl rfl ?_) | refine Z8w rfl ?_ | refine Z8x rfl ?_ | (refine Z8y ?_; (repeat (first | refine Z9v rfl ?_ | refine Z9w ?_)); refine Z9u ?_) | refine awp_seq ?_ | refine Zbm (fun _ _ => rfl) ?_ | refine Z8h ?_ | refine Zbn (fun _ _ => rfl) ?_ | refine Zbo (fun _ _ => rfl) ?_ | refine Z8f (t := true) rfl (fun _ => ?_) (fun e => by cases e) | refine Z8f (t := false) rfl (fun e => by cases e) (fun _ => ?_)))
        refine Z8d ?_
        exact ret1 _ rfl (by rw [ownF, if_neg h56, if_pos (.inr (.inr (by rw [Zlv, ← hok]; rfl)))])
      | true =>
        (repeat (first | refine st_q rfl rfl rfl ?_ | refine Z8v rfl (st_q rfl rfl rfl ?_) | refine Z8w rfl ?_ | refine Z8x rfl ?_ | (refine Z8y ?_; (repeat (first | refine Z9v rfl ?_ | refine Z9w ?_)); refine Z9u ?_) | refine awp_seq ?_ | refine Zbm (fun _ _ => rfl) ?_ | refine Z8h ?_ | refine Zbn (fun _ _ => rfl) ?_ | refine Zbo (fun _ _ => rfl) ?_ | refine Z8f (t := true) rfl (fun _ => ?_) (fun e => by cases e) | refine Z8f (t := false) rfl (fun e => by cases e) (fun _ => ?_)))
        by_cases q1 : k = 12
        · (rw [show decide (k ≠ 12) = false from decide_eq_false (by omega)])
          (repeat (first | refine st_q rfl rfl rfl ?_ | refine Z8v rfl (st_q rfl rfl rfl ?_) | refine Z8w rfl ?_ | refine Z8x rfl ?_ | (refine Z8y ?_; (repeat (first | refine Z9v rfl ?_ | refine Z9w ?_)); refine Z9u ?_) | refine awp_seq ?_ | refine Zbm (fun _ _ => rfl) ?_ | refine Z8h ?_ | refine Zbn (fun _ _ => rfl) ?_ | refine Zbo (fun _ _ => rfl) ?_ | refine Z8f (t := true) rfl (fun _ => ?_) (fun e => by cases e) | refine Z8f (t := false) rfl (fun e => by cases e) (fun _ => ?_)))
          (refine Z9y (keep := [1]) ?_; ((repeat (first | refine Z9v rfl ?_ | refine Z9w ?_)); refine Z9u ?_))
          exact hrest rfl (.inl q1)
        · (rw [show decide (k ≠ 12) = true from decide_eq_true (by omega)])
          (repeat (first | refine st_q rfl rfl rfl ?_ | refine Z8v rfl (st_q rfl rfl rfl ?_) | refine Z8w rfl ?_ | refine Z8x rfl ?_ | (refine Z8y ?_; (repeat (first | refine Z9v rfl ?_ | refine Z9w ?_)); refine Z9u ?_) | refine awp_seq ?_ | refine Zbm (fun _ _ => rfl) ?_ | refine Z8h ?_ | refine Zbn (fun _ _ => rfl) ?_ | refine Zbo (fun _ _ => rfl) ?_ | refine Z8f (t := true) rfl (fun _ => ?_) (fun e => by cases e) | refine Z8f (t := false) rfl (fun e => by cases e) (fun _ => ?_)))
          rw [List.length_map]
          by_cases q2 : ns = []
          · rw [show decide ((0 : Int) < ((ns.length : Nat) : Int)) = false from decide_eq_false (by rw [q2]; simp)]
            (repeat (first | refine st_q rfl rfl rfl ?_ | refine Z8v rfl (st_q rfl rfl rfl ?_) | refine Z8w rfl ?_ | refine Z8x rfl ?_ | (refine Z8y ?_; (repeat (first | refine Z9v rfl ?_ | refine Z9w ?_)); refine Z9u ?_) | refine awp_seq ?_ | refine Zbm (fun _ _ => rfl) ?_ | refine Z8h ?_ | refine Zbn (fun _ _ => rfl) ?_ | refine Zbo (fun _ _ => rfl) ?_ | refine Z8f (t := true) rfl (fun _ => ?_) (fun e => by cases e) | refine Z8f (t := false) rfl (fun e => by cases e) (fun _ => ?_)))
            (refine Z9y (keep := [1]) ?_; ((repeat (first | refine Z9v rfl ?_ | refine Z9w ?_)); refine Z9u ?_))
            exact hrest rfl (.inr q2)
          · have hpos : 0 < ns.length := List.length_pos_iff.2 q2
            (rw [show decide ((0 : Int) < ((ns.length : Nat) : Int)) = true from decide_eq_true (by omega)])
            (repeat (first | refine st_q rfl rfl rfl ?_ | refine Z8v rfl (st_q rfl rfl rfl ?_) | refine Z8w rfl ?_ | refine Z8x rfl ?_ | (refine Z8y ?_; (repeat (first | refine Z9v rfl ?_ | refine Z9w ?_)); refine Z9u ?_) | refine awp_seq ?_ | refine Zbm (fun _ _ => rfl) ?_ | refine Z8h ?_ | refine Zbn (fun _ _ => rfl) ?_ | refine Zbo (fun _ _ => rfl) ?_ | refine Z8f (t := true) rfl (fun _ => ?_) (fun e => by cases e) | refine Z8f (t := false) rfl (fun e => by cases e) (fun _ => ?_)))
            refine Z8d ?_
            exact ret1 _ rfl (by rw [ownF, if_neg h56, if_pos (.inr (.inr (by simp [Zlv, q1, q2])))])
    exact key _ fun e1 e2 => tail1 (by
      rw [Zlv, ← hok, e1]
      have : (decide (k = 12) || ns.isEmpty) = true := by rcases e2 with e | e <;> simp [e]
      rw [this]; simp [Bool.and_assoc]) h56 h0
  have key : ∀ rest : Z2b, (∀ ok : Bool, ok = Zlu k ns.length ks.length → AWp Try.prog Zkf.n rest (ARet Zkf.res fun r σ' => r = .int .i64 (ownF k ns ks.length l p s : Int) ∧ σ' = σ)
        (fset 1 (some (.iptr [.int .i64 k, .slc 1 (ns.map .str) false, .slc 6 (Zlm ks) false, .int .i64 l, .int .i64 p, .int .i64 s])) (fset 4 (some (.bool ok)) Z27)) σ) →
      AWp Try.prog Zkf.n (.seq (Zkf.code.snd 5).fst rest) (ARet Zkf.res fun r σ' => r = .int .i64 (ownF k ns ks.length l p s : Int) ∧ σ' = σ)
        (fset 1 (some (.iptr [.int .i64 k, .slc 1 (ns.map .str) false, .slc 6 (Zlm ks) false, .int .i64 l, .int .i64 p, .int .i64 s])) (fset 3 (some (.int .i64 (ks.length : Int))) (fset 4 (some (.bool (decide ((ks.length : Int) = 0)))) Z27))) σ := by
    intro rest hrest
    by_cases q1 : k = 10
    · subst q1
      (repeat (first | refine st_q rfl rfl rfl ?_ | refine Z8v rfl (st_q rfl rfl rfl ?_) | refine Z8w rfl ?_ | refine Z8x rfl ?_ | (refine Z8y ?_; (repeat (first | refine Z9v rfl ?_ | refine Z9w ?_)); refine Z9u ?_) | refine awp_seq ?_ | refine Zbm (fun _ _ => rfl) ?_ | refine Z8h ?_ | refine Zbn (fun _ _ => rfl) ?_ | refine Zbo (fun _ _ => rfl) ?_ | refine Z8f (t := true) rfl (fun _ => ?_) (fun e => by cases e) | refine Z8f (t := false) rfl (fun e => by cases e) (fun _ => ?_)))
      (refine Z9y (keep := [1, 4]) ?_; ((repeat (first | refine Z9v rfl ?_ | refine Z9w ?_)); refine Z9u ?_))
      exact hrest _ (by simp only [Zlu]; rw [Bool.eq_iff_iff]; simp <;> omega)
    by_cases q2 : k = 11
    · subst q2
      (repeat (first | refine st_q rfl rfl rfl ?_ | refine Z8v rfl (st_q rfl rfl rfl ?_) | refine Z8w rfl ?_ | refine Z8x rfl ?_ | (refine Z8y ?_; (repeat (first | refine Z9v rfl ?_ | refine Z9w ?_)); refine Z9u ?_) | refine awp_seq ?_ | refine Zbm (fun _ _ => rfl) ?_ | refine Z8h ?_ | refine Zbn (fun _ _ => rfl) ?_ | refine Zbo (fun _ _ => rfl) ?_ | refine Z8f (t := true) rfl (fun _ => ?_) (fun e => by cases e) | refine Z8f (t := false) rfl (fun e => by cases e) (fun _ => ?_)))
      (refine Z9y (keep := [1, 4]) ?_; ((repeat (first | refine Z9v rfl ?_ | refine Z9w ?_)); refine Z9u ?_))
      exact hrest _ (by simp only [Zlu]; rw [Bool.eq_iff_iff]; simp <;> omega)
    by_cases q3 : k = 12
    · subst q3
      (repeat (first | refine st_q rfl rfl rfl ?_ | refine Z8v rfl (st_q rfl rfl rfl ?_) | refine Z8w rfl ?_ | refine Z8x rfl ?_ | (refine Z8y ?_; (repeat (first | refine Z9v rfl ?_ | refine Z9w ?_)); refine Z9u ?_) | refine awp_seq ?_ | refine Zbm (fun _ _ => rfl) ?_ | refine Z8h ?_ | refine Zbn (fun _ _ => rfl) ?_ | refine Zbo (fun _ _ => rfl) ?_ | refine Z8f (t := true) rfl (fun _ => ?_) (fun e => by cases e) | refine Z8f (t := false) rfl (fun e => by cases e) (fun _ => ?_)))
      rw [List.length_map]
      (refine Z9y (keep := [1, 4]) ?_; ((repeat (first | refine Z9v rfl ?_ | refine Z9w ?_)); refine Z9u ?_))
      exact hrest _ (by simp only [Zlu]; rw [Bool.eq_iff_iff]; simp <;> omega)
    by_cases q4 : k = 13
    · subst q4
      (repeat (first | refine st_q rfl rfl rfl ?_ | refine Z8v rfl (st_q rfl rfl rfl ?_) | refine Z8w rfl ?_ | refine Z8x rfl ?_ | (refine Z8y ?_; (repeat (first | refine Z9v rfl ?_ | refine Z9w ?_)); refine Z9u ?_) | refine awp_seq ?_ | refine Zbm (fun _ _ => rfl) ?_ | refine Z8h ?_ | refine Zbn (fun _ _ => rfl) ?_ | refine Zbo (fun _ _ => rfl) ?_ | refine Z8f (t := true) rfl (fun _ => ?_) (fun e => by cases e) | refine Z8f (t := false) rfl (fun e => by cases e) (fun _ => ?_)))
      by_cases q5 : 1 ≤ ks.length
      · (rw [show decide ((1 : Int) ≤ ((ks.length : Nat) : Int)) = true from decide_eq_true (by omega)])
        (repeat (first | refine st_q rfl rfl rfl ?_ | refine Z8v rfl (st_q rfl rfl rfl ?_) | refine Z8w rfl ?_ | refine Z8x rfl ?_ | (refine Z8y ?_; (repeat (first | refine Z9v rfl ?_ | refine Z9w ?_)); refine Z9u ?_) | refine awp_seq ?_ | refine Zbm (fun _ _ => rfl) ?_ | refine Z8h ?_ | refine Zbn (fun _ _ => rfl) ?_ | refine Zbo (fun _ _ => rfl) ?_ | refine Z8f (t := true) rfl (fun _ => ?_) (fun e => by cases e) | refine Z8f (t := false) rfl (fun e => by cases e) (fun _ => ?_)))
        (refine Z9y (keep := [1, 4]) ?_; ((repeat (first | refine Z9v rfl ?_ | refine Z9w ?_)); refine Z9u ?_))
        exact hrest _ (by simp only [Zlu]; rw [Bool.eq_iff_iff]; simp [q5] <;> omega)
      · (rw [show decide ((1 : Int) ≤ ((ks.length : Nat) : Int)) = false from decide_eq_false (by omega)])
        (repeat (first | refine st_q rfl rfl rfl ?_ | refine Z8v rfl (st_q rfl rfl rfl ?_) | refine Z8w rfl ?_ | refine Z8x rfl ?_ | (refine Z8y ?_; (repeat (first | refine Z9v rfl ?_ | refine Z9w ?_)); refine Z9u ?_) | refine awp_seq ?_ | refine Zbm (fun _ _ => rfl) ?_ | refine Z8h ?_ | refine Zbn (fun _ _ => rfl) ?_ | refine Zbo (fun _ _ => rfl) ?_ | refine Z8f (t := true) rfl (fun _ => ?_) (fun e => by cases e) | refine Z8f (t := false) rfl (fun e => by cases e) (fun _ => ?_)))
        (refine Z9y (keep := [1, 4]) ?_; ((repeat (first | refine Z9v rfl ?_ | refine Z9w ?_)); refine Z9u ?_))
        exact hrest _ (by simp only [Zlu]; rw [Bool.eq_iff_iff]; simp [q5])
    (repeat (first | refine st_q rfl rfl rfl ?_ | refine Z8v rfl (st_q rfl rfl rfl ?_) | refine Z8w rfl ?_ | refine Z8x rfl ?_ | (refine Z8y ?_; (repeat (first | refine Z9v rfl ?_ | refine Z9w ?_)); refine Z9u ?_) | refine awp_seq ?_ | refine Zbm (fun _ _ => rfl) ?_ | refine Z8h ?_ | refine Zbn (fun _ _ => rfl) ?_ | refine Zbo (fun _ _ => rfl) ?_ | refine Z8f (t := true) rfl (fun _ => ?_) (fun e => by cases e) | refine Z8f (t := false) rfl (fun e => by cases e) (fun _ => ?_)))
    (rw [show decide (k = 10) = false from decide_eq_false (by omega)])
    (repeat (first | refine st_q rfl rfl rfl ?_ | refine Z8v rfl (st_q rfl rfl rfl ?_) | refine Z8w rfl ?_ | refine Z8x rfl ?_ | (refine Z8y ?_; (repeat (first | refine Z9v rfl ?_ | refine Z9w ?_)); refine Z9u ?_) | refine awp_seq ?_ | refine Zbm (fun _ _ => rfl) ?_ | refine Z8h ?_ | refine Zbn (fun _ _ => rfl) ?_ | refine Zbo (fun _ _ => rfl) ?_ | refine Z8f (t := true) rfl (fun _ => ?_) (fun e => by cases e) | refine Z8f (t := false) rfl (fun e => by cases e) (fun _ => ?_)))
    (rw [show decide (k = 11) = false from decide_eq_false (by omega)])
    (repeat (first | refine st_q rfl rfl rfl ?_ | refine Z8v rfl (st_q rfl rfl rfl ?_) | refine Z8w rfl ?_ | refine Z8x rfl ?_ | (refine Z8y ?_; (repeat (first | refine Z9v rfl ?_ | refine Z9w ?_)); refine Z9u ?_) | refine awp_seq ?_ | refine Zbm (fun _ _ => rfl) ?_ | refine Z8h ?_ | refine Zbn (fun _ _ => rfl) ?_ | refine Zbo (fun _ _ => rfl) ?_ | refine Z8f (t := true) rfl (fun _ => ?_) (fun e => by cases e) | refine Z8f (t := false) rfl (fun e => by cases e) (fun _ => ?_)))
    (rw [show decide (k = 12) = false from decide_eq_false (by omega)])
    (repeat (first | refine st_q rfl rfl rfl ?_ | refine Z8v rfl (st_q rfl rfl rfl ?_) | refine Z8w rfl ?_ | refine Z8x rfl ?_ | (refine Z8y ?_; (repeat (first | refine Z9v rfl ?_ | refine Z9w ?_)); refine Z9u ?_) | refine awp_seq ?_ | refine Zbm (fun _ _ => rfl) ?_ | refine Z8h ?_ | refine Zbn (fun _ _ => rfl) ?_ | refine Zbo (fun _ _ => rfl) ?_ | refine Z8f (t := true) rfl (fun _ => ?_) (fun e => by cases e) | refine Z8f (t := false) rfl (fun e => by cases e) (fun _ => ?_)))
    (rw [show decide (k = 13) = false from decide_eq_false (by omega)])
    (repeat (first | refine st_q rfl rfl rfl ?_ | refine Z8v rfl (st_q rfl rfl rfl ?_) | refine Z8w rfl ?_ | refine Z8x rfl ?_ | (refine Z8y ?_; (repeat (first | refine Z9v rfl ?_ | refine Z9w ?_)); refine Z9u ?_) | refine awp_seq ?_ | refine Zbm (fun _ _ => rfl) ?_ | refine Z8h ?_ | refine Zbn (fun _ _ => rfl) ?_ | refine Zbo (fun _ _ => rfl) ?_ | refine Z8f (t := true) rfl (fun _ => ?_) (fun e => by cases e) | refine Z8f (t := false) rfl (fun e => by cases e) (fun _ => ?_)))
    (refine Z9y (keep := [1, 4]) ?_; ((repeat (first | refine Z9v rfl ?_ | refine Z9w ?_)); refine Z9u ?_))
    exact hrest _ (by simp only [Zlu]; rw [Bool.eq_iff_iff]; simp [q1, q2, q3, q4])
  refine Z8f (t := false) rfl (fun e => by cases e) (fun _ => ?_)
  refine Zbn (fun _ _ => rfl) ?_
  refine Z9z ?_
  (repeat (refine st_q rfl rfl rfl ?_))
  rw [Zlq]
  (refine Z8y ?_; (repeat (first | refine Z9v rfl ?_ | refine Z9w ?_)); refine Z9u ?_)
  refine Z9z ?_
  (repeat (refine st_q rfl rfl rfl ?_))
  (refine Z8y ?_; (repeat (first | refine Z9v rfl ?_ | refine Z9w ?_)); refine Z9u ?_)
  exact key _ r16
end Go.Abs
namespace Go.Abs
open Go Go.Proofs
set_option linter.unusedVariables false
set_option linter.unusedSimpArgs false
set_option maxHeartbeats 4000000
attribute [local irreducible] AWp aops KP
theorem Zn2 : ∀ (t : Ty), t.Fit → ∀ (deep n : Nat), deep ≤ 17 → n ≤ 100 → ∀ σ, Z1q Try.prog Zee [encT t, .int .i64 (deep : Int), .int .i64 (n : Int)] σ fun r σ' => r = .tup [.int .i64 ((chk deep n t).1 : Int), .int .i64 ((chk deep n t).2 : Int)] ∧ σ' = σ := by
  refine Ty.ind fun k ns ks l p s ih hfit deep n hd hn σ => ?_
  cases hfit with
  | mk hk1 hn1 hn4 hkids =>
  have hown := Zn1 (.mk k ns ks l p s) hk1 hn1
  simp only [encT, Ty.kind, Ty.names, Ty.kids, Ty.len, Ty.prec, Ty.scale] at *
  refine Z8t rfl Zld (Nat.le_of_ble_eq_true rfl) ?_
  refine Z9z ?_
  refine Z9j rfl (Z0.fit_iff.1 rfl) fun pb hpb => ?_
  (repeat (refine st_q rfl rfl rfl ?_))
  (refine Z8y ?_; (repeat (first | refine Z9v rfl ?_ | refine Z9w ?_)); refine Z9u ?_)
  refine Zb3 (d := 3) (cs := [.int .i64 k, .slc 1 (ns.map .str) false, .slc 6 (Zlm ks) false, .int .i64 l, .int .i64 p, .int .i64 s]) rfl ?_
  (repeat (first | refine st_q rfl rfl rfl ?_ | refine Z8v rfl (st_q rfl rfl rfl ?_) | refine Z8w rfl ?_ | refine Z8x rfl ?_ | (refine Z8y ?_; (repeat (first | refine Z9v rfl ?_ | refine Z9w ?_)); refine Z9u ?_) | refine awp_seq ?_ | refine Zbm (fun _ _ => rfl) ?_ | refine Z8h ?_ | refine Zbn (fun _ _ => rfl) ?_ | refine Zbo (fun _ _ => rfl) ?_ | refine Z8f (t := true) rfl (fun _ => ?_) (fun e => by cases e) | refine Z8f (t := false) rfl (fun e => by cases e) (fun _ => ?_)))
  by_cases g1 : 16 < deep
  · (rw [show decide ((16 : Int) < (deep : Int)) = true from decide_eq_true (by omega)])
    (repeat (first | refine st_q rfl rfl rfl ?_ | refine Z8v rfl (st_q rfl rfl rfl ?_) | refine Z8w rfl ?_ | refine Z8x rfl ?_ | (refine Z8y ?_; (repeat (first | refine Z9v rfl ?_ | refine Z9w ?_)); refine Z9u ?_) | refine awp_seq ?_ | refine Zbm (fun _ _ => rfl) ?_ | refine Z8h ?_ | refine Zbn (fun _ _ => rfl) ?_ | refine Zbo (fun _ _ => rfl) ?_ | refine Z8f (t := true) rfl (fun _ => ?_) (fun e => by cases e) | refine Z8f (t := false) rfl (fun e => by cases e) (fun _ => ?_)))
    refine Z8d ?_
    exact ares rfl (HSub.refl _) ⟨by rw [chk, if_pos (.inl g1)]; rfl, rfl⟩
  (rw [show decide ((16 : Int) < (deep : Int)) = false from decide_eq_false (by omega)])
  (repeat (first | refine st_q rfl rfl rfl ?_ | refine Z8v rfl (st_q rfl rfl rfl ?_) | refine Z8w rfl ?_ | refine Z8x rfl ?_ | (refine Z8y ?_; (repeat (first | refine Z9v rfl ?_ | refine Z9w ?_)); refine Z9u ?_) | refine awp_seq ?_ | refine Zbm (fun _ _ => rfl) ?_ | refine Z8h ?_ | refine Zbn (fun _ _ => rfl) ?_ | refine Zbo (fun _ _ => rfl) ?_ | refine Z8f (t := true) rfl (fun _ => ?_) (fun e => by cases e) | refine Z8f (t := false) rfl (fun e => by cases e) (fun _ => ?_)))
  by_cases g2 : 100 ≤ n
  · (rw [show decide ((100 : Int) ≤ (n : Int)) = true from decide_eq_true (by omega)])
    (repeat (first | refine st_q rfl rfl rfl ?_ | refine Z8v rfl (st_q rfl rfl rfl ?_) | refine Z8w rfl ?_ | refine Z8x rfl ?_ | (refine Z8y ?_; (repeat (first | refine Z9v rfl ?_ | refine Z9w ?_)); refine Z9u ?_) | refine awp_seq ?_ | refine Zbm (fun _ _ => rfl) ?_ | refine Z8h ?_ | refine Zbn (fun _ _ => rfl) ?_ | refine Zbo (fun _ _ => rfl) ?_ | refine Z8f (t := true) rfl (fun _ => ?_) (fun e => by cases e) | refine Z8f (t := false) rfl (fun e => by cases e) (fun _ => ?_)))
    refine Z8d ?_
    exact ares rfl (HSub.refl _) ⟨by rw [chk, if_pos (.inr g2)]; rfl, rfl⟩
  (rw [show decide ((100 : Int) ≤ (n : Int)) = false from decide_eq_false (by omega)])
  (repeat (first | refine st_q rfl rfl rfl ?_ | refine Z8v rfl (st_q rfl rfl rfl ?_) | refine Z8w rfl ?_ | refine Z8x rfl ?_ | (refine Z8y ?_; (repeat (first | refine Z9v rfl ?_ | refine Z9w ?_)); refine Z9u ?_) | refine awp_seq ?_ | refine Zbm (fun _ _ => rfl) ?_ | refine Z8h ?_ | refine Zbn (fun _ _ => rfl) ?_ | refine Zbo (fun _ _ => rfl) ?_ | refine Z8f (t := true) rfl (fun _ => ?_) (fun e => by cases e) | refine Z8f (t := false) rfl (fun e => by cases e) (fun _ => ?_)))
  have hc0 : ¬ (16 < deep ∨ 100 ≤ n) := by omega
  refine Z9t rfl (hown _) ?_
  (repeat (first | refine st_q rfl rfl rfl ?_ | refine Z8v rfl (st_q rfl rfl rfl ?_) | refine Z8w rfl ?_ | refine Z8x rfl ?_ | (refine Z8y ?_; (repeat (first | refine Z9v rfl ?_ | refine Z9w ?_)); refine Z9u ?_) | refine awp_seq ?_ | refine Zbm (fun _ _ => rfl) ?_ | refine Z8h ?_ | refine Zbn (fun _ _ => rfl) ?_ | refine Zbo (fun _ _ => rfl) ?_ | refine Z8f (t := true) rfl (fun _ => ?_) (fun e => by cases e) | refine Z8f (t := false) rfl (fun e => by cases e) (fun _ => ?_)))
  generalize ho : ownF k ns ks.length l p s = o
  by_cases g3 : o = 0
  · (rw [show decide (((o : Nat) : Int) ≠ 0) = false from decide_eq_false (by omega)])
    have hchk : chk deep n (.mk k ns ks l p s) = chkL (deep + 1) (n + 1) ks := by rw [chk, if_neg hc0, ho, g3]; simp
    rw [hchk]
    (repeat (first | refine st_q rfl rfl rfl ?_ | refine Z8v rfl (st_q rfl rfl rfl ?_) | refine Z8w rfl ?_ | refine Z8x rfl ?_ | (refine Z8y ?_; (repeat (first | refine Z9v rfl ?_ | refine Z9w ?_)); refine Z9u ?_) | refine awp_seq ?_ | refine Zbm (fun _ _ => rfl) ?_ | refine Z8h ?_ | refine Zbn (fun _ _ => rfl) ?_ | refine Zbo (fun _ _ => rfl) ?_ | refine Z8f (t := true) rfl (fun _ => ?_) (fun e => by cases e) | refine Z8f (t := false) rfl (fun e => by cases e) (fun _ => ?_)))
    (refine Z9y (keep := [1, 2, 3, 9]) ?_; ((repeat (first | refine Z9v rfl ?_ | refine Z9w ?_)); refine Z9u ?_))
    rw [show IntKind.wrap .i64 ((n : Int) + 1) = ((n + 1 : Nat) : Int) by rw [w64 _ (by omega) (by omega)]; omega]
    refine Zaa (fun m F σ' => ∃ (i n' : Nat), F = fset 1 (some (.int .i64 (deep : Int))) (fset 2 (some (.int .i64 (n' : Int))) (fset 3 (some (.iptr [.int .i64 k, .slc 1 (ns.map .str) false, .slc 6 (Zlm ks) false, .int .i64 l, .int .i64 p, .int .i64 s])) (fset 9 (some (.int .i64 (i : Int))) Z27))) ∧
      σ = σ' ∧ i ≤ ks.length ∧ n' ≤ 100 ∧ chkL (deep + 1) (n + 1) ks = chkL (deep + 1) n' (ks.drop i) ∧ m = ks.length - i) (n := ks.length)
      ⟨0, n + 1, rfl, rfl, by omega, by omega, rfl, rfl⟩ ?_
    rintro m F σ' ⟨i, n', rfl, rfl, hi, hn', hch, rfl⟩
    (repeat (first | refine st_q rfl rfl rfl ?_ | refine Z8v rfl (st_q rfl rfl rfl ?_) | refine Z8w rfl ?_ | refine Z8x rfl ?_ | (refine Z8y ?_; (repeat (first | refine Z9v rfl ?_ | refine Z9w ?_)); refine Z9u ?_) | refine awp_seq ?_ | refine Zbm (fun _ _ => rfl) ?_ | refine Z8h ?_ | refine Zbn (fun _ _ => rfl) ?_ | refine Zbo (fun _ _ => rfl) ?_ | refine Z8f (t := true) rfl (fun _ => ?_) (fun e => by cases e) | refine Z8f (t := false) rfl (fun e => by cases e) (fun _ => ?_)))
    rw [Zlq]
    refine Za3 (p := (i : Int) < (ks.length : Int)) rfl (fun h3 => ?_) (fun h3 => ?_)
    · have hil : i < ks.length := by omega
      have hx : (Zlm ks)[(i : Int).toNat]? = some (encT ks[i]) := Zlr (by rw [Int.toNat_natCast, List.getElem?_eq_getElem hil])
      have hdrop : ks.drop i = ks[i] :: ks.drop (i + 1) := List.drop_eq_getElem_cons hil
      (repeat (first | refine st_q rfl rfl rfl ?_ | refine Z8v rfl (st_q rfl rfl rfl ?_) | refine Z8w rfl ?_ | refine Z8x rfl ?_ | (refine Z8y ?_; (repeat (first | refine Z9v rfl ?_ | refine Z9w ?_)); refine Z9u ?_) | refine awp_seq ?_ | refine Zbm (fun _ _ => rfl) ?_ | refine Z8h ?_ | refine Zbn (fun _ _ => rfl) ?_ | refine Zbo (fun _ _ => rfl) ?_ | refine Z8f (t := true) rfl (fun _ => ?_) (fun e => by cases e) | refine Z8f (t := false) rfl (fun e => by cases e) (fun _ => ?_)))
      refine Z93 rfl (by omega) hx ?_
      rw [Zlo]
      (repeat (first | refine st_q rfl rfl rfl ?_ | refine Z8v rfl (st_q rfl rfl rfl ?_) | refine Z8w rfl ?_ | refine Z8x rfl ?_ | (refine Z8y ?_; (repeat (first | refine Z9v rfl ?_ | refine Z9w ?_)); refine Z9u ?_) | refine awp_seq ?_ | refine Zbm (fun _ _ => rfl) ?_ | refine Z8h ?_ | refine Zbn (fun _ _ => rfl) ?_ | refine Zbo (fun _ _ => rfl) ?_ | refine Z8f (t := true) rfl (fun _ => ?_) (fun e => by cases e) | refine Z8f (t := false) rfl (fun e => by cases e) (fun _ => ?_)))
      rw [show IntKind.wrap .i64 ((deep : Int) + 1) = ((deep + 1 : Nat) : Int) by rw [w64 _ (by omega) (by omega)]; omega]
      have hcw := ih ks[i] (List.getElem_mem hil) (hkids _ (List.getElem_mem hil)) (deep + 1) n' (by omega) hn' σ
      rw [Zlo] at hcw
      refine Z9t rfl hcw ?_
      (repeat (first | refine st_q rfl rfl rfl ?_ | refine Z8v rfl (st_q rfl rfl rfl ?_) | refine Z8w rfl ?_ | refine Z8x rfl ?_ | (refine Z8y ?_; (repeat (first | refine Z9v rfl ?_ | refine Z9w ?_)); refine Z9u ?_) | refine awp_seq ?_ | refine Zbm (fun _ _ => rfl) ?_ | refine Z8h ?_ | refine Zbn (fun _ _ => rfl) ?_ | refine Zbo (fun _ _ => rfl) ?_ | refine Z8f (t := true) rfl (fun _ => ?_) (fun e => by cases e) | refine Z8f (t := false) rfl (fun e => by cases e) (fun _ => ?_)))
      have he := Zmy ks[i] (deep + 1) n'
      have hle := Zmx ks[i] (deep + 1) n' hn'
      rw [hdrop, chkL] at hch
      by_cases g7 : (chk (deep + 1) n' ks[i]).2 = 0
      · rw [if_neg (by omega)] at hch
        (rw [show decide ((((chk (deep + 1) n' ks[i]).2 : Nat) : Int) ≠ 0) = false from decide_eq_false (by omega)])
        (repeat (first | refine st_q rfl rfl rfl ?_ | refine Z8v rfl (st_q rfl rfl rfl ?_) | refine Z8w rfl ?_ | refine Z8x rfl ?_ | (refine Z8y ?_; (repeat (first | refine Z9v rfl ?_ | refine Z9w ?_)); refine Z9u ?_) | refine awp_seq ?_ | refine Zbm (fun _ _ => rfl) ?_ | refine Z8h ?_ | refine Zbn (fun _ _ => rfl) ?_ | refine Zbo (fun _ _ => rfl) ?_ | refine Z8f (t := true) rfl (fun _ => ?_) (fun e => by cases e) | refine Z8f (t := false) rfl (fun e => by cases e) (fun _ => ?_)))
        refine Zbp ?_
        (repeat (refine st_q rfl rfl rfl ?_))
        rw [show IntKind.wrap .i64 ((i : Int) + 1) = ((i + 1 : Nat) : Int) by rw [w64 _ (by omega) (by omega)]; omega]
        (refine Z8y ?_; (repeat (first | refine Z9v rfl ?_ | refine Z9w ?_)); refine Z9u ?_)
        exact ⟨_, ks.length - (i + 1), HSub.refl _, ⟨i + 1, _, rfl, rfl, by omega, hle, hch, rfl⟩, by omega⟩
      · rw [if_pos g7] at hch
        (rw [show decide ((((chk (deep + 1) n' ks[i]).2 : Nat) : Int) ≠ 0) = true from decide_eq_true (by omega)])
        (repeat (first | refine st_q rfl rfl rfl ?_ | refine Z8v rfl (st_q rfl rfl rfl ?_) | refine Z8w rfl ?_ | refine Z8x rfl ?_ | (refine Z8y ?_; (repeat (first | refine Z9v rfl ?_ | refine Z9w ?_)); refine Z9u ?_) | refine awp_seq ?_ | refine Zbm (fun _ _ => rfl) ?_ | refine Z8h ?_ | refine Zbn (fun _ _ => rfl) ?_ | refine Zbo (fun _ _ => rfl) ?_ | refine Z8f (t := true) rfl (fun _ => ?_) (fun e => by cases e) | refine Z8f (t := false) rfl (fun e => by cases e) (fun _ => ?_)))
        refine Z8d ?_
        exact ares rfl (HSub.refl _) ⟨by rw [hch]; rfl, rfl⟩
    · (repeat (first | refine st_q rfl rfl rfl ?_ | refine Z8v rfl (st_q rfl rfl rfl ?_) | refine Z8w rfl ?_ | refine Z8x rfl ?_ | (refine Z8y ?_; (repeat (first | refine Z9v rfl ?_ | refine Z9w ?_)); refine Z9u ?_) | refine awp_seq ?_ | refine Zbm (fun _ _ => rfl) ?_ | refine Z8h ?_ | refine Zbn (fun _ _ => rfl) ?_ | refine Zbo (fun _ _ => rfl) ?_ | refine Z8f (t := true) rfl (fun _ => ?_) (fun e => by cases e) | refine Z8f (t := false) rfl (fun e => by cases e) (fun _ => ?_)))
      have hd0 : ks.drop i = [] := List.drop_of_length_le (by omega)
      rw [hd0, chkL] at hch
      refine Z8d ?_
      exact ares rfl (HSub.refl _) ⟨by rw [hch]; rfl, rfl⟩
  · (rw [show decide (((o : Nat) : Int) ≠ 0) = true from decide_eq_true (by omega)])
    (repeat (first | refine st_q rfl rfl rfl ?_ | refine Z8v rfl (st_q rfl rfl rfl ?_) | refine Z8w rfl ?_ | refine Z8x rfl ?_ | (refine Z8y ?_; (repeat (first | refine Z9v rfl ?_ | refine Z9w ?_)); refine Z9u ?_) | refine awp_seq ?_ | refine Zbm (fun _ _ => rfl) ?_ | refine Z8h ?_ | refine Zbn (fun _ _ => rfl) ?_ | refine Zbo (fun _ _ => rfl) ?_ | refine Z8f (t := true) rfl (fun _ => ?_) (fun e => by cases e) | refine Z8f (t := false) rfl (fun e => by cases e) (fun _ => ?_)))
    refine Z8d ?_
    exact ares rfl (HSub.refl _) ⟨by rw [chk, if_neg hc0, ho, if_pos g3]; rfl, rfl⟩
theorem Zn3 (t : Ty) (h : t.Fit) (σ : Zc) : Z1q Try.prog Zd6 [encT t] σ fun r σ' => r = .int .i64 (Zlw t : Int) ∧ σ' = σ := by
  have hw := Zn2 t h 1 0 (by omega) (by omega) σ
  rw [Zlo] at *
  refine Z8t rfl Zl8 (Nat.le_of_ble_eq_true rfl) ?_
  refine Z9z ?_
  refine Z9j rfl (Z0.fit_iff.1 rfl) fun pb hpb => ?_
  (repeat (refine st_q rfl rfl rfl ?_))
  (refine Z8y ?_; (repeat (first | refine Z9v rfl ?_ | refine Z9w ?_)); refine Z9u ?_)
  refine Zb3 (d := 1) (cs := Zln t) rfl ?_
  (repeat (first | refine st_q rfl rfl rfl ?_ | refine Z8v rfl (st_q rfl rfl rfl ?_) | refine Z8w rfl ?_ | refine Z8x rfl ?_ | (refine Z8y ?_; (repeat (first | refine Z9v rfl ?_ | refine Z9w ?_)); refine Z9u ?_) | refine awp_seq ?_ | refine Zbm (fun _ _ => rfl) ?_ | refine Z8h ?_ | refine Zbn (fun _ _ => rfl) ?_ | refine Zbo (fun _ _ => rfl) ?_ | refine Z8f (t := true) rfl (fun _ => ?_) (fun e => by cases e) | refine Z8f (t := false) rfl (fun e => by cases e) (fun _ => ?_)))
  refine Z9t rfl hw ?_
  (repeat (first | refine st_q rfl rfl rfl ?_ | refine Z8v rfl (st_q rfl rfl rfl ?_) | refine Z8w rfl ?_ | refine Z8x rfl ?_ | (refine Z8y ?_; (repeat (first | refine Z9v rfl ?_ | refine Z9w ?_)); refine Z9u ?_) | refine awp_seq ?_ | refine Zbm (fun _ _ => rfl) ?_ | refine Z8h ?_ | refine Zbn (fun _ _ => rfl) ?_ | refine Zbo (fun _ _ => rfl) ?_ | refine Z8f (t := true) rfl (fun _ => ?_) (fun e => by cases e) | refine Z8f (t := false) rfl (fun e => by cases e) (fun _ => ?_)))
  refine Z8d ?_
  exact ares rfl (HSub.refl _) ⟨rfl, rfl⟩
end Go.Abs
namespace Go.Abs
open Go Go.Proofs
set_option linter.unusedVariables false
set_option linter.unusedSimpArgs false
set_option maxHeartbeats 4000000
attribute [local irreducible] AWp aops KP
theorem Zn4 (xs : List Z0) (f : Bool) (σ : Zc) : Z1q Try.prog Zf9 [.slc 1 xs f] σ fun r σ' => r = .slc 1 xs true ∧ σ' = σ := by
  refine Z8t rfl Zlf (Nat.le_of_ble_eq_true rfl) ?_
  (repeat (first | refine st_q rfl rfl rfl ?_ | refine Z8v rfl (st_q rfl rfl rfl ?_) | refine Z8w rfl ?_ | refine Z8x rfl ?_ | (refine Z8y ?_; (repeat (first | refine Z9v rfl ?_ | refine Z9w ?_)); refine Z9u ?_) | refine awp_seq ?_ | refine Zbm (fun _ _ => rfl) ?_ | refine Z8h ?_ | refine Zbn (fun _ _ => rfl) ?_ | refine Zbo (fun _ _ => rfl) ?_ | refine Z8f (t := true) rfl (fun _ => ?_) (fun e => by cases e) | refine Z8f (t := false) rfl (fun e => by cases e) (fun _ => ?_)))
  refine Z9r rfl (by omega) (by omega) ?_
  rw [Int.toNat_natCast, List.take_length]
  (repeat (first | refine st_q rfl rfl rfl ?_ | refine Z8v rfl (st_q rfl rfl rfl ?_) | refine Z8w rfl ?_ | refine Z8x rfl ?_ | (refine Z8y ?_; (repeat (first | refine Z9v rfl ?_ | refine Z9w ?_)); refine Z9u ?_) | refine awp_seq ?_ | refine Zbm (fun _ _ => rfl) ?_ | refine Z8h ?_ | refine Zbn (fun _ _ => rfl) ?_ | refine Zbo (fun _ _ => rfl) ?_ | refine Z8f (t := true) rfl (fun _ => ?_) (fun e => by cases e) | refine Z8f (t := false) rfl (fun e => by cases e) (fun _ => ?_)))
  refine Z8d ?_
  exact ares rfl (HSub.refl _) ⟨rfl, rfl⟩
theorem Zn5 {v : Z0} {xs : List Z0} {β : Zc} (ho : Zbr 1 v xs β) (σ : Zc) : Z1q Try.prog Zf9 [v] (β ++ σ) fun r σ' => r = .slc 1 xs true ∧ σ' = σ := by
  rcases ho with ⟨⟨z, rfl⟩, rfl, rfl⟩ | ⟨b, rfl, rfl⟩
  · exact Z1q.args (VRle.nil_slc z 1 true) (Zn4 [] true σ)
  refine Z8t rfl Zlf (Nat.le_of_ble_eq_true rfl) ?_
  (repeat (first | refine st_q rfl rfl rfl ?_ | refine Z8v rfl (st_q rfl rfl rfl ?_) | refine Z8w rfl ?_ | refine Z8x rfl ?_ | (refine Z8y ?_; (repeat (first | refine Z9v rfl ?_ | refine Z9w ?_)); refine Z9u ?_) | refine awp_seq ?_ | refine Zbm (fun _ _ => rfl) ?_ | refine Z8h ?_ | refine Zbn (fun _ _ => rfl) ?_ | refine Zbo (fun _ _ => rfl) ?_ | refine Z8f (t := true) rfl (fun _ => ?_) (fun e => by cases e) | refine Z8f (t := false) rfl (fun e => by cases e) (fun _ => ?_)))
  refine Z9q rfl Z8z (by omega) (by omega) (by omega) Z9h ?_
  rw [List.drop_zero, Int.toNat_natCast, List.take_length]
  (repeat (first | refine st_q rfl rfl rfl ?_ | refine Z8v rfl (st_q rfl rfl rfl ?_) | refine Z8w rfl ?_ | refine Z8x rfl ?_ | (refine Z8y ?_; (repeat (first | refine Z9v rfl ?_ | refine Z9w ?_)); refine Z9u ?_) | refine awp_seq ?_ | refine Zbm (fun _ _ => rfl) ?_ | refine Z8h ?_ | refine Zbn (fun _ _ => rfl) ?_ | refine Zbo (fun _ _ => rfl) ?_ | refine Z8f (t := true) rfl (fun _ => ?_) (fun e => by cases e) | refine Z8f (t := false) rfl (fun e => by cases e) (fun _ => ?_)))
  refine Z8d ?_
  exact ares rfl (HSub.refl _) ⟨rfl, rfl⟩
theorem Zn6 (xs : List Z0) (f : Bool) (σ : Zc) : Z1q Try.prog Zfb [.slc 1 xs f] σ fun r σ' => r = .slc 1 xs true ∧ σ' = σ := by
  refine Z8t rfl Zlh (Nat.le_of_ble_eq_true rfl) ?_
  (repeat (first | refine st_q rfl rfl rfl ?_ | refine Z8v rfl (st_q rfl rfl rfl ?_) | refine Z8w rfl ?_ | refine Z8x rfl ?_ | (refine Z8y ?_; (repeat (first | refine Z9v rfl ?_ | refine Z9w ?_)); refine Z9u ?_) | refine awp_seq ?_ | refine Zbm (fun _ _ => rfl) ?_ | refine Z8h ?_ | refine Zbn (fun _ _ => rfl) ?_ | refine Zbo (fun _ _ => rfl) ?_ | refine Z8f (t := true) rfl (fun _ => ?_) (fun e => by cases e) | refine Z8f (t := false) rfl (fun e => by cases e) (fun _ => ?_)))
  refine Z9r rfl (by omega) (by omega) ?_
  rw [Int.toNat_natCast, List.take_length]
  (repeat (first | refine st_q rfl rfl rfl ?_ | refine Z8v rfl (st_q rfl rfl rfl ?_) | refine Z8w rfl ?_ | refine Z8x rfl ?_ | (refine Z8y ?_; (repeat (first | refine Z9v rfl ?_ | refine Z9w ?_)); refine Z9u ?_) | refine awp_seq ?_ | refine Zbm (fun _ _ => rfl) ?_ | refine Z8h ?_ | refine Zbn (fun _ _ => rfl) ?_ | refine Zbo (fun _ _ => rfl) ?_ | refine Z8f (t := true) rfl (fun _ => ?_) (fun e => by cases e) | refine Z8f (t := false) rfl (fun e => by cases e) (fun _ => ?_)))
  refine Z8d ?_
  exact ares rfl (HSub.refl _) ⟨rfl, rfl⟩
theorem Zn7 {v : Z0} {xs : List Z0} {β : Zc} (ho : Zbr 1 v xs β) (σ : Zc) : Z1q Try.prog Zfb [v] (β ++ σ) fun r σ' => r = .slc 1 xs true ∧ σ' = σ := by
  rcases ho with ⟨⟨z, rfl⟩, rfl, rfl⟩ | ⟨b, rfl, rfl⟩
  · exact Z1q.args (VRle.nil_slc z 1 true) (Zn6 [] true σ)
  refine Z8t rfl Zlh (Nat.le_of_ble_eq_true rfl) ?_
  (repeat (first | refine st_q rfl rfl rfl ?_ | refine Z8v rfl (st_q rfl rfl rfl ?_) | refine Z8w rfl ?_ | refine Z8x rfl ?_ | (refine Z8y ?_; (repeat (first | refine Z9v rfl ?_ | refine Z9w ?_)); refine Z9u ?_) | refine awp_seq ?_ | refine Zbm (fun _ _ => rfl) ?_ | refine Z8h ?_ | refine Zbn (fun _ _ => rfl) ?_ | refine Zbo (fun _ _ => rfl) ?_ | refine Z8f (t := true) rfl (fun _ => ?_) (fun e => by cases e) | refine Z8f (t := false) rfl (fun e => by cases e) (fun _ => ?_)))
  refine Z9q rfl Z8z (by omega) (by omega) (by omega) Z9h ?_
  rw [List.drop_zero, Int.toNat_natCast, List.take_length]
  (repeat (first | refine st_q rfl rfl rfl ?_ | refine Z8v rfl (st_q rfl rfl rfl ?_) | refine Z8w rfl ?_ | refine Z8x rfl ?_ | (refine Z8y ?_; (repeat (first | refine Z9v rfl ?_ | refine Z9w ?_)); refine Z9u ?_) | refine awp_seq ?_ | refine Zbm (fun _ _ => rfl) ?_ | refine Z8h ?_ | refine Zbn (fun _ _ => rfl) ?_ | refine Zbo (fun _ _ => rfl) ?_ | refine Z8f (t := true) rfl (fun _ => ?_) (fun e => by cases e) | refine Z8f (t := false) rfl (fun e => by cases e) (fun _ => ?_)))
  refine Z8d ?_
  exact ares rfl (HSub.refl _) ⟨rfl, rfl⟩
theorem Zn8 (xs : List Z0) (f : Bool) (σ : Zc) : Z1q Try.prog Ze2 [.slc 8 xs f] σ fun r σ' => r = .slc 8 xs true ∧ σ' = σ := by
  refine Z8t rfl Zlb (Nat.le_of_ble_eq_true rfl) ?_
  (repeat (first | refine st_q rfl rfl rfl ?_ | refine Z8v rfl (st_q rfl rfl rfl ?_) | refine Z8w rfl ?_ | refine Z8x rfl ?_ | (refine Z8y ?_; (repeat (first | refine Z9v rfl ?_ | refine Z9w ?_)); refine Z9u ?_) | refine awp_seq ?_ | refine Zbm (fun _ _ => rfl) ?_ | refine Z8h ?_ | refine Zbn (fun _ _ => rfl) ?_ | refine Zbo (fun _ _ => rfl) ?_ | refine Z8f (t := true) rfl (fun _ => ?_) (fun e => by cases e) | refine Z8f (t := false) rfl (fun e => by cases e) (fun _ => ?_)))
  refine Z9r rfl (by omega) (by omega) ?_
  rw [Int.toNat_natCast, List.take_length]
  (repeat (first | refine st_q rfl rfl rfl ?_ | refine Z8v rfl (st_q rfl rfl rfl ?_) | refine Z8w rfl ?_ | refine Z8x rfl ?_ | (refine Z8y ?_; (repeat (first | refine Z9v rfl ?_ | refine Z9w ?_)); refine Z9u ?_) | refine awp_seq ?_ | refine Zbm (fun _ _ => rfl) ?_ | refine Z8h ?_ | refine Zbn (fun _ _ => rfl) ?_ | refine Zbo (fun _ _ => rfl) ?_ | refine Z8f (t := true) rfl (fun _ => ?_) (fun e => by cases e) | refine Z8f (t := false) rfl (fun e => by cases e) (fun _ => ?_)))
  refine Z8d ?_
  exact ares rfl (HSub.refl _) ⟨rfl, rfl⟩
theorem Zn9 {v : Z0} {xs : List Z0} {β : Zc} (ho : Zbr 8 v xs β) (σ : Zc) : Z1q Try.prog Ze2 [v] (β ++ σ) fun r σ' => r = .slc 8 xs true ∧ σ' = σ := by
  rcases ho with ⟨⟨z, rfl⟩, rfl, rfl⟩ | ⟨b, rfl, rfl⟩
  · exact Z1q.args (VRle.nil_slc z 8 true) (Zn8 [] true σ)
  refine Z8t rfl Zlb (Nat.le_of_ble_eq_true rfl) ?_
  (repeat (first | refine st_q rfl rfl rfl ?_ | refine Z8v rfl (st_q rfl rfl rfl ?_) | refine Z8w rfl ?_ | refine Z8x rfl ?_ | (refine Z8y ?_; (repeat (first | refine Z9v rfl ?_ | refine Z9w ?_)); refine Z9u ?_) | refine awp_seq ?_ | refine Zbm (fun _ _ => rfl) ?_ | refine Z8h ?_ | refine Zbn (fun _ _ => rfl) ?_ | refine Zbo (fun _ _ => rfl) ?_ | refine Z8f (t := true) rfl (fun _ => ?_) (fun e => by cases e) | refine Z8f (t := false) rfl (fun e => by cases e) (fun _ => ?_)))
  refine Z9q rfl Z8z (by omega) (by omega) (by omega) Z9h ?_
  rw [List.drop_zero, Int.toNat_natCast, List.take_length]
  (repeat (first | refine st_q rfl rfl rfl ?_ | refine Z8v rfl (st_q rfl rfl rfl ?_) | refine Z8w rfl ?_ | refine Z8x rfl ?_ | (refine Z8y ?_; (repeat (first | refine Z9v rfl ?_ | refine Z9w ?_)); refine Z9u ?_) | refine awp_seq ?_ | refine Zbm (fun _ _ => rfl) ?_ | refine Z8h ?_ | refine Zbn (fun _ _ => rfl) ?_ | refine Zbo (fun _ _ => rfl) ?_ | refine Z8f (t := true) rfl (fun _ => ?_) (fun e => by cases e) | refine Z8f (t := false) rfl (fun e => by cases e) (fun _ => ?_)))
  refine Z8d ?_
  exact ares rfl (HSub.refl _) ⟨rfl, rfl⟩
theorem Zna (xs : List Z0) (f : Bool) (he : ∀ x ∈ xs, x.elem 1) (hb : xs.length * 16 ≤ 140737488355328) (σ : Zc) : Z1q Try.prog Zfa [.slc 1 xs f] σ fun r σ' => r = .slc 1 xs false ∧ σ' = σ := by
  refine Z8t rfl Zlg (Nat.le_of_ble_eq_true rfl) ?_
  have key : ∀ t : Bool, (t = true → xs = []) → AWp Try.prog Ziz.n (.cond (.t 4) (.seq (.region Zix [2]) .ret) .skip) (Z8e Try.prog Ziz.n (Ziz.code.snd 2) (ARet Ziz.res fun r σ' => r = .slc 1 xs false ∧ σ' = σ))
      (fset 0 (some (.slc 1 xs f)) (fset 4 (some (.bool t)) Z27)) σ := by
    intro t ht
    cases t with
    | true =>
      (repeat (first | refine st_q rfl rfl rfl ?_ | refine Z8v rfl (st_q rfl rfl rfl ?_) | refine Z8w rfl ?_ | refine Z8x rfl ?_ | (refine Z8y ?_; (repeat (first | refine Z9v rfl ?_ | refine Z9w ?_)); refine Z9u ?_) | refine awp_seq ?_ | refine Zbm (fun _ _ => rfl) ?_ | refine Z8h ?_ | refine Zbn (fun _ _ => rfl) ?_ | refine Zbo (fun _ _ => rfl) ?_ | refine Z8f (t := true) rfl (fun _ => ?_) (fun e => by cases e) | refine Z8f (t := false) rfl (fun e => by cases e) (fun _ => ?_)))
      refine Z8d ?_
      refine Zau rfl ?_ (HSub.refl _) ⟨rfl, rfl⟩
      rw [ht rfl]
      exact VRle.trans (VRle.nil_slc 0 1 true) VRle.full
    | false =>
      (repeat (first | refine st_q rfl rfl rfl ?_ | refine Z8v rfl (st_q rfl rfl rfl ?_) | refine Z8w rfl ?_ | refine Z8x rfl ?_ | (refine Z8y ?_; (repeat (first | refine Z9v rfl ?_ | refine Z9w ?_)); refine Z9u ?_) | refine awp_seq ?_ | refine Zbm (fun _ _ => rfl) ?_ | refine Z8h ?_ | refine Zbn (fun _ _ => rfl) ?_ | refine Zbo (fun _ _ => rfl) ?_ | refine Z8f (t := true) rfl (fun _ => ?_) (fun e => by cases e) | refine Z8f (t := false) rfl (fun e => by cases e) (fun _ => ?_)))
      refine Z9p rfl (ys := xs) (by simp [Z1m]) (by simpa using hb) fun b hb => ?_
      (repeat (first | refine st_q rfl rfl rfl ?_ | refine Z8v rfl (st_q rfl rfl rfl ?_) | refine Z8w rfl ?_ | refine Z8x rfl ?_ | (refine Z8y ?_; (repeat (first | refine Z9v rfl ?_ | refine Z9w ?_)); refine Z9u ?_) | refine awp_seq ?_ | refine Zbm (fun _ _ => rfl) ?_ | refine Z8h ?_ | refine Zbn (fun _ _ => rfl) ?_ | refine Zbo (fun _ _ => rfl) ?_ | refine Z8f (t := true) rfl (fun _ => ?_) (fun e => by cases e) | refine Z8f (t := false) rfl (fun e => by cases e) (fun _ => ?_)))
      refine Z8d ?_
      exact Zbu rfl (Zb6.one (Zb6.freeze rfl)) ⟨rfl, rfl⟩
  (repeat (first | refine st_q rfl rfl rfl ?_ | refine Z8v rfl (st_q rfl rfl rfl ?_) | refine Z8w rfl ?_ | refine Z8x rfl ?_ | (refine Z8y ?_; (repeat (first | refine Z9v rfl ?_ | refine Z9w ?_)); refine Z9u ?_) | refine awp_seq ?_ | refine Zbm (fun _ _ => rfl) ?_ | refine Z8h ?_ | refine Zbn (fun _ _ => rfl) ?_ | refine Zbo (fun _ _ => rfl) ?_ | refine Z8f (t := true) rfl (fun _ => ?_) (fun e => by cases e) | refine Z8f (t := false) rfl (fun e => by cases e) (fun _ => ?_)))
  refine Z8u rfl ?_
  refine ⟨fun _ => ?_, fun hx t => ?_⟩
  · (refine Z8y ?_; (repeat (first | refine Z9v rfl ?_ | refine Z9w ?_)); refine Z9u ?_)
    exact key false (fun h => by cases h)
  · (refine Z8y ?_; (repeat (first | refine Z9v rfl ?_ | refine Z9w ?_)); refine Z9u ?_)
    exact key t (fun _ => hx)
end Go.Abs
namespace Go.Abs
open Go Go.Proofs
set_option linter.unusedVariables false
set_option linter.unusedSimpArgs false
set_option maxHeartbeats 4000000
attribute [local irreducible] AWp aops KP
inductive Ty.Small : Ty → Prop
  | mk {t : Ty} (h1 : t.kids.length ≤ 300) (h2 : t.names.length ≤ 300) (h4 : ∀ s ∈ t.names, s.length ≤ 100) (h : ∀ k ∈ t.kids, Ty.Small k) : Ty.Small t
theorem Ty.Small.fit : ∀ t : Ty, t.Small → t.Fit := by
  refine Ty.ind fun k ns ks l p s ih h => ?_
  cases h with
  | mk h1 h2 h4 h3 => exact .mk (by omega) (by omega) (fun s hs => Nat.le_trans (h4 s hs) (by unfold maxLen; omega)) fun t ht => ih t ht (h3 t ht)
theorem Znb : ∀ ks : List Ty, ks.length ≤ cntL ks
  | [] => by simp [cntL]
  | .mk k ns ks l p s :: ts => by have := Znb ts; simp only [List.length_cons, cntL, cnt]; omega
theorem Znc : ∀ (t : Ty) (deep n : Nat), (chk deep n t).2 = 0 → (chk deep n t).1 = n + cnt t ∧ t.Small ∧ n + cnt t ≤ 100 := by
  refine Ty.ind fun k ns ks l p s ih deep n h => ?_
  have hL : ∀ (ks : List Ty), (∀ t ∈ ks, ∀ (deep n : Nat), (chk deep n t).2 = 0 → (chk deep n t).1 = n + cnt t ∧ t.Small ∧ n + cnt t ≤ 100) → ∀ deep n, n ≤ 100 → (chkL deep n ks).2 = 0 → (chkL deep n ks).1 = n + cntL ks ∧ (∀ t ∈ ks, t.Small) ∧ n + cntL ks ≤ 100 := by
    intro ks
    induction ks with
    | nil => intro _ deep n hn h; simp [chkL, cntL]; exact hn
    | cons t ts ih2 =>
      intro ht deep n hn h
      rw [chkL] at h ⊢
      split at h
      · rename_i hne; exact absurd h hne
      · rename_i hne
        rw [if_neg hne]
        have h1 := ht t (by simp) deep n (by simpa using hne)
        have h2 := ih2 (fun t ht' => ht t (by simp [ht'])) deep (chk deep n t).1 (by omega) h
        refine ⟨by rw [h2.1, h1.1, cntL]; omega, fun u hu => ?_, by rw [cntL]; have := h2.2.2; omega⟩
        rcases List.mem_cons.1 hu with rfl | hu
        · exact h1.2.1
        · exact h2.2.1 u hu
  rw [chk] at h ⊢
  split at h
  · simp at h
  · rename_i hc
    rw [if_neg hc]
    split at h
    · rename_i ho; exact absurd h ho
    · rename_i ho
      rw [if_neg ho]
      have h1 := hL ks ih (deep + 1) (n + 1) (by omega) h
      have hlen := Znb ks
      refine ⟨by rw [h1.1, cnt]; omega, .mk ?_ ?_ ?_ ?_, by rw [cnt]; have := h1.2.2; omega⟩
      · show ks.length ≤ 300
        have := h1.2.2; omega
      · show ns.length ≤ 300
        simp only [ne_eq, Decidable.not_not, ownF] at ho
        split at ho
        · cases ho
        · split at ho
          · cases ho
          · rename_i hr
            simp only [not_or, Bool.not_eq_false] at hr
            have hr' := hr.2.2
            simp only [Zlv, Bool.and_eq_true, Bool.or_eq_true, decide_eq_true_eq, List.isEmpty_iff] at hr'
            obtain ⟨⟨⟨⟨q1, q2⟩, _⟩, _⟩, _⟩ := hr'
            rcases q2 with q2 | q2
            · subst q2
              simp [Zlu] at q1
              have := h1.2.2; omega
            · rw [q2]; simp
      · show ∀ s ∈ ns, s.length ≤ 100
        simp only [ne_eq, Decidable.not_not, ownF] at ho
        split at ho
        · cases ho
        · split at ho
          · cases ho
          · rename_i hr
            simp only [not_or, Bool.not_eq_false] at hr
            have hr' := hr.2.2
            simp only [Zlv, Bool.and_eq_true, Zlt, List.all_eq_true, decide_eq_true_eq] at hr'
            exact fun s hs => (hr'.1.1.2.1 s hs).2
      · exact h1.2.1
theorem Znd : ∀ (ks : List Ty) (a i : Nat) (t : Ty), ks[i]? = some t → Zlx a (ks.take (i + 1)) = Zlx a (ks.take i) ++ [a + cntL (ks.take i)]
  | [], a, i, t, h => by simp at h
  | u :: ks, a, 0, t, h => by simp [Zlx, cntL]
  | u :: ks, a, i + 1, t, h => by
    simp only [List.take_succ_cons, Zlx, cntL, List.cons_append]
    rw [Znd ks (a + cnt u) i t (by simpa using h), Nat.add_assoc]
theorem Zne : ∀ (ks : List Ty) (a i : Nat) (parent : Int) (deep : Nat) (t : Ty), ks[i]? = some t → Zlz a parent deep (ks.take (i + 1)) = Zlz a parent deep (ks.take i) ++ Zly (a + cntL (ks.take i)) parent deep t
  | [], a, i, _, _, t, h => by simp at h
  | u :: ks, a, 0, _, _, t, h => by simp at h; subst h; simp [Zlz, cntL]
  | u :: ks, a, i + 1, parent, deep, t, h => by
    simp only [List.take_succ_cons, Zlz, cntL, List.append_assoc]
    rw [Zne ks (a + cnt u) i parent deep t (by simpa using h), Nat.add_assoc]
theorem Znf : ∀ (ks : List Ty) (a : Nat) (parent : Int) (deep : Nat), (Zlz a parent deep ks).length = cntL ks
  | [], _, _, _ => rfl
  | t :: ts, a, parent, deep => by rw [Zlz, List.length_append, Zm0, Znf ts, cntL]
theorem Zng : ∀ (ks : List Ty) (i : Nat) (t : Ty), ks[i]? = some t → cntL (ks.take (i + 1)) = cntL (ks.take i) + cnt t ∧ cntL (ks.take i) + cnt t ≤ cntL ks
  | [], i, t, h => by simp at h
  | u :: ks, 0, t, h => by simp at h; subst h; simp [cntL]
  | u :: ks, i + 1, t, h => by
    have := Zng ks i t (by simpa using h)
    simp only [List.take_succ_cons, cntL]
    omega
theorem Znh (ns : List (List UInt8)) : ∀ x ∈ ns.map Z0.str, x.elem 1 := fun x hx => by
  obtain ⟨s, _, rfl⟩ := List.mem_map.1 hx
  exact ⟨rfl, fun c hc => by rw [List.mem_singleton.1 hc]; rfl⟩
end Go.Abs
namespace Go.Abs
open Go Go.Proofs
set_option linter.unusedVariables false
set_option linter.unusedSimpArgs false
set_option maxHeartbeats 4000000
attribute [local irreducible] AWp aops KP
theorem Zni : ∀ (t : Ty), t.Small → ∀ (v : Z0) (xs : List Z0) (β : Zc) (parent : Int) (deep : Nat) (σ : Zc), Zbr 8 v xs β → xs.length + cnt t ≤ 1000 → deep + cnt t ≤ 1000 →
    Z1q Try.prog Ze3 [v, encT t, .int .i64 parent, .int .i64 (deep : Int)] (β ++ σ) fun r σ' => ∃ β', Zbr 8 r (xs ++ (Zly xs.length parent deep t).map encN) β' ∧ σ' = β' ++ σ := by
  refine Ty.ind fun k ns ks l p s ih hsmall v xs β parent deep σ ho hx hd => ?_
  cases hsmall with
  | mk hk1 hn1 hn4 hkids =>
  simp only [encT, Ty.kind, Ty.names, Ty.kids, Ty.len, Ty.prec, Ty.scale] at *
  have hlenks := Znb ks
  refine Z8t rfl Zlc (Nat.le_of_ble_eq_true rfl) ?_
  refine Z9z ?_
  refine Z9j rfl (Z0.fit_iff.1 rfl) fun pb hpb => ?_
  (repeat (refine st_q rfl rfl rfl ?_))
  (refine Z8y ?_; (repeat (first | refine Z9v rfl ?_ | refine Z9w ?_)); refine Z9u ?_)
  refine Zb3 (d := 5) (cs := [.int .i64 k, .slc 1 (ns.map .str) false, .slc 6 (Zlm ks) false, .int .i64 l, .int .i64 p, .int .i64 s]) rfl ?_
  refine Z9z ?_
  refine st_q rfl rfl rfl ?_
  refine Zas rfl ho.lens ?_
  (repeat (refine st_q rfl rfl rfl ?_))
  (refine Z8y ?_; (repeat (first | refine Z9v rfl ?_ | refine Z9w ?_)); refine Z9u ?_)
  refine Z9z ?_
  (repeat (refine st_q rfl rfl rfl ?_))
  refine Zbw rfl (Zna _ _ (Znh ns) (by rw [List.length_map]; omega)) ?_
  refine Zbw rfl (Zn4 _ _) ?_
  (repeat (refine st_q rfl rfl rfl ?_))
  refine Zbs (ys := [.agg [.int .i64 k, .slc 0 [] true, .slc 1 (ns.map .str) true, .int .i64 l, .int .i64 p, .int .i64 s, .int .i64 parent, .int .i64 (deep : Int)]]) ho rfl rfl (by simp only [List.length_cons, List.length_nil]; omega) fun b1 hb1 => ?_
  (repeat (first | refine st_q rfl rfl rfl ?_ | refine Z8v rfl (st_q rfl rfl rfl ?_) | refine Z8w rfl ?_ | refine Z8x rfl ?_ | (refine Z8y ?_; (repeat (first | refine Z9v rfl ?_ | refine Z9w ?_)); refine Z9u ?_) | refine awp_seq ?_ | refine Zbm (fun _ _ => rfl) ?_ | refine Z8h ?_ | refine Zbn (fun _ _ => rfl) ?_ | refine Zbo (fun _ _ => rfl) ?_ | refine Z8f (t := true) rfl (fun _ => ?_) (fun e => by cases e) | refine Z8f (t := false) rfl (fun e => by cases e) (fun _ => ?_)))
  rw [Zlq]
  obtain ⟨x0, hx0⟩ : ∃ x0, x0 = Z0.agg [.int .i64 k, .slc 0 [] true, .slc 1 (ns.map .str) true, .int .i64 l, .int .i64 p, .int .i64 s, .int .i64 parent, .int .i64 (deep : Int)] := ⟨_, rfl⟩
  rw [← hx0]
  refine Zaa (fun m F σ' => ∃ (i b : Nat) (vk : Z0) (βk : Zc) (R : List Z0), F = fset 0 (some (.arr 8 b 0 R.length)) (fset 3 (some (.int .i64 (deep : Int))) (fset 9 (some (.int .i64 (xs.length : Int))) (fset 10 (some vk) (fset 34 (some (.slc 6 (Zlm ks) false)) (fset 35 (some (.int .i64 (ks.length : Int))) (fset 36 (some (.int .i64 (i : Int))) Z27)))))) ∧
    σ' = (b, .cells 8 R) :: (βk ++ σ) ∧ R = xs ++ x0 :: (Zlz (xs.length + 1) (xs.length : Int) (deep + 1) (ks.take i)).map encN ∧ Zbr 1 vk (ints (Zlx (xs.length + 1) (ks.take i))) βk ∧ i ≤ ks.length ∧ m = ks.length - i) (n := ks.length)
    ⟨0, b1, _, [], _, rfl, rfl, rfl, Zbr.nil 1 0, by omega, rfl⟩ ?_
  rintro m F σ' ⟨i, b, vk, βk, R, rfl, rfl, hR, hok, hi, rfl⟩
  have hRl : R.length = xs.length + 1 + cntL (ks.take i) := by rw [hR]; simp [Znf]; omega
  (repeat (first | refine st_q rfl rfl rfl ?_ | refine Z8v rfl (st_q rfl rfl rfl ?_) | refine Z8w rfl ?_ | refine Z8x rfl ?_ | (refine Z8y ?_; (repeat (first | refine Z9v rfl ?_ | refine Z9w ?_)); refine Z9u ?_) | refine awp_seq ?_ | refine Zbm (fun _ _ => rfl) ?_ | refine Z8h ?_ | refine Zbn (fun _ _ => rfl) ?_ | refine Zbo (fun _ _ => rfl) ?_ | refine Z8f (t := true) rfl (fun _ => ?_) (fun e => by cases e) | refine Z8f (t := false) rfl (fun e => by cases e) (fun _ => ?_)))
  refine Za3 (p := (i : Int) < (ks.length : Int)) rfl (fun h3 => ?_) (fun h3 => ?_)
  · have hil : i < ks.length := by omega
    have Zd : ks[i]? = some ks[i] := List.getElem?_eq_getElem hil
    have hx' : (Zlm ks)[(i : Int).toNat]? = some (encT ks[i]) := Zlr (by rw [Int.toNat_natCast, Zd])
    have hcn := Zng ks i _ Zd
    have hkl := Znd ks (xs.length + 1) i _ Zd
    have hfl := Zne ks (xs.length + 1) i (xs.length : Int) (deep + 1) _ Zd
    simp only [cnt] at hx hd
    (repeat (first | refine st_q rfl rfl rfl ?_ | refine Z8v rfl (st_q rfl rfl rfl ?_) | refine Z8w rfl ?_ | refine Z8x rfl ?_ | (refine Z8y ?_; (repeat (first | refine Z9v rfl ?_ | refine Z9w ?_)); refine Z9u ?_) | refine awp_seq ?_ | refine Zbm (fun _ _ => rfl) ?_ | refine Z8h ?_ | refine Zbn (fun _ _ => rfl) ?_ | refine Zbo (fun _ _ => rfl) ?_ | refine Z8f (t := true) rfl (fun _ => ?_) (fun e => by cases e) | refine Z8f (t := false) rfl (fun e => by cases e) (fun _ => ?_)))
    refine Z93 rfl (by omega) hx' ?_
    rw [Zlo]
    (repeat (first | refine st_q rfl rfl rfl ?_ | refine Z8v rfl (st_q rfl rfl rfl ?_) | refine Z8w rfl ?_ | refine Z8x rfl ?_ | (refine Z8y ?_; (repeat (first | refine Z9v rfl ?_ | refine Z9w ?_)); refine Z9u ?_) | refine awp_seq ?_ | refine Zbm (fun _ _ => rfl) ?_ | refine Z8h ?_ | refine Zbn (fun _ _ => rfl) ?_ | refine Zbo (fun _ _ => rfl) ?_ | refine Z8f (t := true) rfl (fun _ => ?_) (fun e => by cases e) | refine Z8f (t := false) rfl (fun e => by cases e) (fun _ => ?_)))
    refine Z9k (by simp [Z0.cells, Z0.one]) fun vb hvb => ?_
    refine Z9a rfl Z8z rfl (by decide) (Z0.fit_iff.1 rfl) (fun h => by cases h) Z9b ?_
    (refine Z8y ?_; (repeat (first | refine Z9v rfl ?_ | refine Z9w ?_)); refine Z9u ?_)
    refine Zb3 (d := 12) (cs := Zln ks[i]) rfl ?_
    refine Zb4 (β := [(b, .cells 8 R)]) (γ := βk) ?_
    refine awp_seq ?_
    refine Zbm (fun _ _ => rfl) ?_
    (repeat (refine st_q rfl rfl rfl ?_))
    refine Zbs (ys := [.int .i64 (R.length : Int)]) hok rfl rfl (by
      simp only [List.length_cons, List.length_nil, ints, List.length_map]
      have : ∀ (l : List Ty) (a : Nat), (Zlx a l).length = l.length := by
        intro l; induction l with
        | nil => intro a; rfl
        | cons t l ih => intro a; simp [Zlx, ih]
      rw [this, List.length_take]; omega) fun b2 hb2 => ?_
    (repeat (refine st_q rfl rfl rfl ?_))
    (refine Z8y ?_; (repeat (first | refine Z9v rfl ?_ | refine Z9w ?_)); refine Z9u ?_)
    refine Zb4 (β := [(b2, .cells 1 _)]) (γ := [(b, .cells 8 R)]) ?_
    refine Zbm (fun _ _ => rfl) ?_
    (repeat (refine st_q rfl rfl rfl ?_))
    rw [show IntKind.wrap .i64 ((deep : Int) + 1) = ((deep + 1 : Nat) : Int) by rw [w64 _ (by omega) (by omega)]; omega]
    have hcw := ih ks[i] (List.getElem_mem hil) (hkids _ (List.getElem_mem hil)) (.arr 8 b 0 R.length) R [(b, .cells 8 R)] (xs.length : Int) (deep + 1) ([(b2, .cells 1 (ints (Zlx (xs.length + 1) (ks.take i)) ++ [.int .i64 (R.length : Int)]))] ++ σ) Zbr.mk (by omega) (by omega)
    rw [Zlo] at hcw
    refine Z9s rfl hcw ?_ ?_
    · obtain ⟨gv, gβ, hgr⟩ := Zbr.ex 8 (R ++ (Zly R.length (xs.length : Int) (deep + 1) ks[i]).map encN)
      exact ⟨_, _, gβ, hgr, rfl⟩
    rintro r2 _ ⟨β2, ho2, rfl⟩
    obtain ⟨b3, rfl, rfl⟩ := ho2.arr (by rw [hR]; simp)
    (repeat (refine st_q rfl rfl rfl ?_))
    (refine Z8y ?_; (repeat (first | refine Z9v rfl ?_ | refine Z9w ?_)); refine Z9u ?_)
    refine Zbp ?_
    (repeat (refine st_q rfl rfl rfl ?_))
    rw [show IntKind.wrap .i64 ((i : Int) + 1) = ((i + 1 : Nat) : Int) by rw [w64 _ (by omega) (by omega)]; omega]
    (refine Z8y ?_; (repeat (first | refine Z9v rfl ?_ | refine Z9w ?_)); refine Z9u ?_)
    refine ⟨_, ks.length - (i + 1), HSub.refl _, ⟨i + 1, b3, _, _, _, rfl, rfl, ?_, ?_, by omega, rfl⟩, by omega⟩
    · rw [hfl, hRl, hR]; simp
    · rw [hkl]
      have e : ints (Zlx (xs.length + 1) (ks.take i) ++ [xs.length + 1 + cntL (ks.take i)]) = ints (Zlx (xs.length + 1) (ks.take i)) ++ [.int .i64 (R.length : Int)] := by
        rw [hRl]; simp [ints]
      rw [e]
      exact Zbr.mk
  · have hie : i = ks.length := by omega
    subst hie
    rw [List.take_length] at hR hok
    refine Zbo (fun _ _ => rfl) ?_
    refine Zb4 (β := [(b, .cells 8 R)]) (γ := βk) ?_
    refine Z9z ?_
    (repeat (refine st_q rfl rfl rfl ?_))
    refine Z9t rfl (Zn7 hok ([(b, .cells 8 R)] ++ σ)) ?_
    refine Z94 rfl ⟨by omega, by omega⟩ ?_
    (repeat (refine st_q rfl rfl rfl ?_))
    have hxat : R[0 + ((xs.length : Nat) : Int).toNat]? = some x0 := by
      rw [hR, Nat.zero_add, Int.toNat_natCast]; simp
    refine Z9a rfl Z8z hxat (by decide) (Z0.fit_iff.1 rfl) (fun h => by rw [hx0] at h; cases h) Z9b ?_
    (repeat (first | refine st_q rfl rfl rfl ?_ | refine Z8v rfl (st_q rfl rfl rfl ?_) | refine Z8w rfl ?_ | refine Z8x rfl ?_ | (refine Z8y ?_; (repeat (first | refine Z9v rfl ?_ | refine Z9w ?_)); refine Z9u ?_) | refine awp_seq ?_ | refine Zbm (fun _ _ => rfl) ?_ | refine Z8h ?_ | refine Zbn (fun _ _ => rfl) ?_ | refine Zbo (fun _ _ => rfl) ?_ | refine Z8f (t := true) rfl (fun _ => ?_) (fun e => by cases e) | refine Z8f (t := false) rfl (fun e => by cases e) (fun _ => ?_)))
    refine Z8d ?_
    refine ares rfl (HSub.refl _) ⟨_, .inr ⟨b, ?_, rfl⟩, ?_⟩
    · simp [Z8m, hR, Zly, Znf]
    · have e : R.set (0 + ((xs.length : Nat) : Int).toNat) (Z1r x0 (0 + 1) (Z0.slc 1 (ints (Zlx (xs.length + 1) ks)) true).cells) = xs ++ (Zly xs.length parent deep (.mk k ns ks l p s)).map encN := by
        rw [hR, Nat.zero_add, Int.toNat_natCast, List.set_append_right _ _ (Nat.le_refl _), Nat.sub_self, List.set_cons_zero, hx0, Zly]
        rfl
      rw [e]; rfl
theorem Znj (t : Ty) (h : t.Fit) (σ : Zc) : Z1q Try.prog Zcr [encT t] σ fun r σ' => r = .slc 8 ((Zm3 t).map encN) true ∧ σ' = σ := by
  have hc := Zn0 t h σ
  have hf := fun (hs : t.Small) => Zni t hs (.slc 0 [] true) [] [] (-1) 1 σ (Zbr.nil 8 0)
  rw [Zlo] at *
  refine Z8t rfl Zl7 (Nat.le_of_ble_eq_true rfl) ?_
  refine Z9z ?_
  refine Z9j rfl (Z0.fit_iff.1 rfl) fun pb hpb => ?_
  (repeat (refine st_q rfl rfl rfl ?_))
  (refine Z8y ?_; (repeat (first | refine Z9v rfl ?_ | refine Z9w ?_)); refine Z9u ?_)
  refine Zb3 (d := 1) (cs := Zln t) rfl ?_
  (repeat (first | refine st_q rfl rfl rfl ?_ | refine Z8v rfl (st_q rfl rfl rfl ?_) | refine Z8w rfl ?_ | refine Z8x rfl ?_ | (refine Z8y ?_; (repeat (first | refine Z9v rfl ?_ | refine Z9w ?_)); refine Z9u ?_) | refine awp_seq ?_ | refine Zbm (fun _ _ => rfl) ?_ | refine Z8h ?_ | refine Zbn (fun _ _ => rfl) ?_ | refine Zbo (fun _ _ => rfl) ?_ | refine Z8f (t := true) rfl (fun _ => ?_) (fun e => by cases e) | refine Z8f (t := false) rfl (fun e => by cases e) (fun _ => ?_)))
  refine Z9t rfl hc ?_
  (repeat (first | refine st_q rfl rfl rfl ?_ | refine Z8v rfl (st_q rfl rfl rfl ?_) | refine Z8w rfl ?_ | refine Z8x rfl ?_ | (refine Z8y ?_; (repeat (first | refine Z9v rfl ?_ | refine Z9w ?_)); refine Z9u ?_) | refine awp_seq ?_ | refine Zbm (fun _ _ => rfl) ?_ | refine Z8h ?_ | refine Zbn (fun _ _ => rfl) ?_ | refine Zbo (fun _ _ => rfl) ?_ | refine Z8f (t := true) rfl (fun _ => ?_) (fun e => by cases e) | refine Z8f (t := false) rfl (fun e => by cases e) (fun _ => ?_)))
  by_cases h0 : Zlw t = 0
  · have hs := Znc t 1 0 h0
    (rw [show decide (((Zlw t : Nat) : Int) ≠ 0) = false from decide_eq_false (by omega)])
    (repeat (first | refine st_q rfl rfl rfl ?_ | refine Z8v rfl (st_q rfl rfl rfl ?_) | refine Z8w rfl ?_ | refine Z8x rfl ?_ | (refine Z8y ?_; (repeat (first | refine Z9v rfl ?_ | refine Z9w ?_)); refine Z9u ?_) | refine awp_seq ?_ | refine Zbm (fun _ _ => rfl) ?_ | refine Z8h ?_ | refine Zbn (fun _ _ => rfl) ?_ | refine Zbo (fun _ _ => rfl) ?_ | refine Z8f (t := true) rfl (fun _ => ?_) (fun e => by cases e) | refine Z8f (t := false) rfl (fun e => by cases e) (fun _ => ?_)))
    refine Z9s rfl (hf hs.2.1 (by simp; omega) (by omega)) ?_ ?_
    · obtain ⟨gv, gβ, hgr⟩ := Zbr.ex 8 ([] ++ (Zly 0 (-1) 1 t).map encN)
      exact ⟨_, _, gβ, hgr, rfl⟩
    rintro r2 _ ⟨β2, ho2, rfl⟩
    refine Z9t rfl (Zn9 ho2 σ) ?_
    (repeat (first | refine st_q rfl rfl rfl ?_ | refine Z8v rfl (st_q rfl rfl rfl ?_) | refine Z8w rfl ?_ | refine Z8x rfl ?_ | (refine Z8y ?_; (repeat (first | refine Z9v rfl ?_ | refine Z9w ?_)); refine Z9u ?_) | refine awp_seq ?_ | refine Zbm (fun _ _ => rfl) ?_ | refine Z8h ?_ | refine Zbn (fun _ _ => rfl) ?_ | refine Zbo (fun _ _ => rfl) ?_ | refine Z8f (t := true) rfl (fun _ => ?_) (fun e => by cases e) | refine Z8f (t := false) rfl (fun e => by cases e) (fun _ => ?_)))
    refine Z8d ?_
    exact ares rfl (HSub.refl _) ⟨by rw [Zm3, if_pos h0]; rfl, rfl⟩
  · (rw [show decide (((Zlw t : Nat) : Int) ≠ 0) = true from decide_eq_true (by omega)])
    (repeat (first | refine st_q rfl rfl rfl ?_ | refine Z8v rfl (st_q rfl rfl rfl ?_) | refine Z8w rfl ?_ | refine Z8x rfl ?_ | (refine Z8y ?_; (repeat (first | refine Z9v rfl ?_ | refine Z9w ?_)); refine Z9u ?_) | refine awp_seq ?_ | refine Zbm (fun _ _ => rfl) ?_ | refine Z8h ?_ | refine Zbn (fun _ _ => rfl) ?_ | refine Zbo (fun _ _ => rfl) ?_ | refine Z8f (t := true) rfl (fun _ => ?_) (fun e => by cases e) | refine Z8f (t := false) rfl (fun e => by cases e) (fun _ => ?_)))
    refine Z8d ?_
    refine Zau rfl ?_ (HSub.refl _) ⟨rfl, rfl⟩
    rw [Zm3, if_neg h0]
    exact VRle.nil_slc 0 8 true
end Go.Abs
namespace Go.Abs
open Go Go.Proofs
set_option linter.unusedVariables false
set_option linter.unusedSimpArgs false
set_option maxHeartbeats 4000000
attribute [local irreducible] AWp aops KP
theorem Znk : ∀ (l : List Ty) (a : Nat), (Zlx a l).length = l.length
  | [], _ => rfl
  | t :: l, a => by simp [Zlx, Znk l]
theorem Znl (n : Nd) : (encR n).elem 9 := ⟨rfl, by
  obtain ⟨⟨k, ns, ks, l, p, s⟩, kids, par, deep⟩ := n
  simp [encR, Zm2, Zln, Z0.cells, Z0.one]⟩
def rowR (k : Int) (ns : List (List UInt8)) (ks : List Ty) (l p s : Int) (vk : Z0) (parent : Int) (deep : Nat) : Z0 :=
  .agg [.int .i64 k, .slc 1 (ns.map .str) false, .slc 6 (Zlm ks) false, .int .i64 l, .int .i64 p, .int .i64 s, vk, .int .i64 parent, .int .i64 (deep : Int)]
theorem Znm : ∀ (t : Ty), t.Small → ∀ (v : Z0) (xs : List Z0) (β : Zc) (parent : Int) (deep : Nat) (σ : Zc), Zbr 9 v xs β → (∀ x ∈ xs, x.elem 9) → xs.length + cnt t ≤ 1000 → deep + cnt t ≤ 1000 →
    Z1q Try.prog Ze0 [v, encT t, .int .i64 parent, .int .i64 (deep : Int)] (β ++ σ) fun r σ' => ∃ β', Zbr 9 r (xs ++ (Zly xs.length parent deep t).map encR) β' ∧ σ' = β' ++ σ := by
  refine Ty.ind fun k ns ks l p s ih hsmall v xs β parent deep σ ho hxe hx hd => ?_
  cases hsmall with
  | mk hk1 hn1 hn4 hkids =>
  simp only [encT, Ty.kind, Ty.names, Ty.kids, Ty.len, Ty.prec, Ty.scale] at *
  have hlenks := Znb ks
  refine Z8t rfl Zl9 (Nat.le_of_ble_eq_true rfl) ?_
  refine Z9z ?_
  refine Z9j rfl (Z0.fit_iff.1 rfl) fun pb hpb => ?_
  (repeat (refine st_q rfl rfl rfl ?_))
  (refine Z8y ?_; (repeat (first | refine Z9v rfl ?_ | refine Z9w ?_)); refine Z9u ?_)
  refine Zb3 (d := 5) (cs := [.int .i64 k, .slc 1 (ns.map .str) false, .slc 6 (Zlm ks) false, .int .i64 l, .int .i64 p, .int .i64 s]) rfl ?_
  refine Z9z ?_
  refine st_q rfl rfl rfl ?_
  refine Zas rfl ho.lens ?_
  (repeat (refine st_q rfl rfl rfl ?_))
  (refine Z8y ?_; (repeat (first | refine Z9v rfl ?_ | refine Z9w ?_)); refine Z9u ?_)
  refine Z9z ?_
  (repeat (refine st_q rfl rfl rfl ?_))
  refine Zbs (ys := [.agg [.int .i64 k, .slc 1 (ns.map .str) false, .slc 6 (Zlm ks) false, .int .i64 l, .int .i64 p, .int .i64 s, .slc 0 [] true, .int .i64 parent, .int .i64 (deep : Int)]]) ho rfl rfl (by simp only [List.length_cons, List.length_nil]; omega) fun b1 hb1 => ?_
  (repeat (first | refine st_q rfl rfl rfl ?_ | refine Z8v rfl (st_q rfl rfl rfl ?_) | refine Z8w rfl ?_ | refine Z8x rfl ?_ | (refine Z8y ?_; (repeat (first | refine Z9v rfl ?_ | refine Z9w ?_)); refine Z9u ?_) | refine awp_seq ?_ | refine Zbm (fun _ _ => rfl) ?_ | refine Z8h ?_ | refine Zbn (fun _ _ => rfl) ?_ | refine Zbo (fun _ _ => rfl) ?_ | refine Z8f (t := true) rfl (fun _ => ?_) (fun e => by cases e) | refine Z8f (t := false) rfl (fun e => by cases e) (fun _ => ?_)))
  change AWp _ _ _ _ _ ((b1, .cells 9 (xs ++ [rowR k ns ks l p s (.slc 0 [] true) parent deep])) :: σ)
  refine Zaa (fun m F σ' => ∃ (i b : Nat) (vk : Z0) (βk : Zc) (R : List Z0), F = fset 0 (some (.arr 9 b 0 R.length)) (fset 3 (some (.int .i64 (deep : Int))) (fset 5 (some (.iptr [.int .i64 k, .slc 1 (ns.map .str) false, .slc 6 (Zlm ks) false, .int .i64 l, .int .i64 p, .int .i64 s])) (fset 9 (some (.int .i64 (xs.length : Int))) (fset 10 (some (.int .i64 (i : Int))) Z27)))) ∧
    σ' = (b, .cells 9 R) :: (βk ++ σ) ∧ R = xs ++ rowR k ns ks l p s vk parent deep :: (Zlz (xs.length + 1) (xs.length : Int) (deep + 1) (ks.take i)).map encR ∧ Zbr 1 vk (ints (Zlx (xs.length + 1) (ks.take i))) βk ∧ i ≤ ks.length ∧ m = ks.length - i) (n := ks.length)
    ⟨0, b1, _, [], _, rfl, rfl, rfl, Zbr.nil 1 0, by omega, rfl⟩ ?_
  rintro m F σ' ⟨i, b, vk, βk, R, rfl, rfl, hR, hok, hi, rfl⟩
  have hRl : R.length = xs.length + 1 + cntL (ks.take i) := by rw [hR]; simp [Znf]; omega
  have hvk1 : vk.one = true := by rcases hok with ⟨⟨z, rfl⟩, _, _⟩ | ⟨b, rfl, _⟩ <;> rfl
  have hRe : ∀ x ∈ R, x.elem 9 := by
    intro x hm
    rw [hR] at hm
    rcases List.mem_append.1 hm with hm | hm
    · exact hxe x hm
    rcases List.mem_cons.1 hm with rfl | hm
    · refine ⟨rfl, ?_⟩
      simp only [rowR, Z0.cells, List.mem_cons, List.not_mem_nil, or_false]
      rintro c (rfl | rfl | rfl | rfl | rfl | rfl | rfl | rfl | rfl) <;> first | rfl | exact hvk1
    · obtain ⟨n, _, rfl⟩ := List.mem_map.1 hm
      exact Znl n
  (repeat (first | refine st_q rfl rfl rfl ?_ | refine Z8v rfl (st_q rfl rfl rfl ?_) | refine Z8w rfl ?_ | refine Z8x rfl ?_ | (refine Z8y ?_; (repeat (first | refine Z9v rfl ?_ | refine Z9w ?_)); refine Z9u ?_) | refine awp_seq ?_ | refine Zbm (fun _ _ => rfl) ?_ | refine Z8h ?_ | refine Zbn (fun _ _ => rfl) ?_ | refine Zbo (fun _ _ => rfl) ?_ | refine Z8f (t := true) rfl (fun _ => ?_) (fun e => by cases e) | refine Z8f (t := false) rfl (fun e => by cases e) (fun _ => ?_)))
  rw [Zlq]
  refine Za3 (p := (i : Int) < (ks.length : Int)) rfl (fun h3 => ?_) (fun h3 => ?_)
  · have hil : i < ks.length := by omega
    have Zd : ks[i]? = some ks[i] := List.getElem?_eq_getElem hil
    have hx' : (Zlm ks)[(i : Int).toNat]? = some (encT ks[i]) := Zlr (by rw [Int.toNat_natCast, Zd])
    have hcn := Zng ks i _ Zd
    have hkl := Znd ks (xs.length + 1) i _ Zd
    have hfl := Zne ks (xs.length + 1) i (xs.length : Int) (deep + 1) _ Zd
    simp only [cnt] at hx hd
    (repeat (first | refine st_q rfl rfl rfl ?_ | refine Z8v rfl (st_q rfl rfl rfl ?_) | refine Z8w rfl ?_ | refine Z8x rfl ?_ | (refine Z8y ?_; (repeat (first | refine Z9v rfl ?_ | refine Z9w ?_)); refine Z9u ?_) | refine awp_seq ?_ | refine Zbm (fun _ _ => rfl) ?_ | refine Z8h ?_ | refine Zbn (fun _ _ => rfl) ?_ | refine Zbo (fun _ _ => rfl) ?_ | refine Z8f (t := true) rfl (fun _ => ?_) (fun e => by cases e) | refine Z8f (t := false) rfl (fun e => by cases e) (fun _ => ?_)))
    refine Z93 rfl (by omega) hx' ?_
    rw [Zlo]
    (repeat (refine st_q rfl rfl rfl ?_))
    rw [show IntKind.wrap .i64 ((deep : Int) + 1) = ((deep + 1 : Nat) : Int) by rw [w64 _ (by omega) (by omega)]; omega]
    have hcw := ih ks[i] (List.getElem_mem hil) (hkids _ (List.getElem_mem hil)) (.arr 9 b 0 R.length) R [(b, .cells 9 R)] (xs.length : Int) (deep + 1) (βk ++ σ) Zbr.mk hRe (by omega) (by omega)
    rw [Zlo] at hcw
    refine Z9s rfl hcw ?_ ?_
    · obtain ⟨gv, gβ, hgr⟩ := Zbr.ex 9 (R ++ (Zly R.length (xs.length : Int) (deep + 1) ks[i]).map encR)
      exact ⟨_, _, gβ, hgr, rfl⟩
    rintro r2 _ ⟨β2, ho2, rfl⟩
    obtain ⟨b3, rfl, rfl⟩ := ho2.arr (by rw [hR]; simp)
    (repeat (refine st_q rfl rfl rfl ?_))
    (refine Z8y ?_; (repeat (first | refine Z9v rfl ?_ | refine Z9w ?_)); refine Z9u ?_)
    generalize hR3 : R ++ (Zly R.length (xs.length : Int) (deep + 1) ks[i]).map encR = R3
    have hR3' : R3 = xs ++ rowR k ns ks l p s vk parent deep :: (Zlz (xs.length + 1) (xs.length : Int) (deep + 1) (ks.take (i + 1))).map encR := by
      rw [← hR3, hfl, hRl, hR]; simp
    have hat : ∀ z, R3[0 + ((xs.length : Nat) : Int).toNat]? = some z ↔ z = rowR k ns ks l p s vk parent deep := fun z => by
      rw [hR3', Nat.zero_add, Int.toNat_natCast]; simp; exact eq_comm
    have hat1 := (hat _).2 rfl
    have Ze : ∀ u : Z0, u.one = true → R3.set (0 + ((xs.length : Nat) : Int).toNat) (Z1r (rowR k ns ks l p s vk parent deep) (0 + 6) u.cells) = xs ++ rowR k ns ks l p s u parent deep :: (Zlz (xs.length + 1) (xs.length : Int) (deep + 1) (ks.take (i + 1))).map encR := by
      intro u hu
      rw [hR3', Nat.zero_add, Int.toNat_natCast, List.set_append_right _ _ (Nat.le_refl _), Nat.sub_self, List.set_cons_zero, Z0.cells_of_one hu]
      rfl
    have hkb : (Zlx (xs.length + 1) (ks.take i)).length ≤ 1000 := by rw [Znk, List.length_take]; omega
    have hkid : ints (Zlx (xs.length + 1) (ks.take (i + 1))) = ints (Zlx (xs.length + 1) (ks.take i)) ++ [.int .i64 (R.length : Int)] := by rw [hkl, hRl]; simp [ints]
    refine Z89 fun nd => ?_
    refine Zbm (fun _ _ => rfl) ?_
    refine st_q rfl rfl rfl ?_
    refine st_q rfl rfl rfl ?_
    refine st_q rfl rfl rfl ?_
    refine st_q rfl rfl rfl ?_
    refine Z94 rfl ⟨by omega, by rw [← hR3]; simp; omega⟩ ?_
    refine st_q rfl rfl rfl ?_
    refine Z92 rfl Z8z hat1 rfl ?_
    refine st_q rfl rfl rfl ?_
    refine st_q rfl rfl rfl ?_
    have hRt : xs.length < R3.length := by rw [← hR3]; simp; omega
    have done : ∀ (b' : Nat) (τ : Zc), b' ≠ b3 → HSub ((b3, .cells 9 (xs ++ rowR k ns ks l p s (.arr 1 b' 0 (ints (Zlx (xs.length + 1) (ks.take i)) ++ [Z0.int .i64 (R.length : Int)]).length) parent deep :: (Zlz (xs.length + 1) (xs.length : Int) (deep + 1) (ks.take (i + 1))).map encR)) :: (b', .cells 1 (ints (Zlx (xs.length + 1) (ks.take i)) ++ [Z0.int .i64 (R.length : Int)])) :: σ) τ →
        AWp Try.prog Zh7.n (.region Zh4 [0, 3, 5, 9, 10]) (Za9 (fun m F σ' => ∃ (i b : Nat) (vk : Z0) (βk : Zc) (R : List Z0), F = fset 0 (some (.arr 9 b 0 R.length)) (fset 3 (some (.int .i64 (deep : Int))) (fset 5 (some (.iptr [.int .i64 k, .slc 1 (ns.map .str) false, .slc 6 (Zlm ks) false, .int .i64 l, .int .i64 p, .int .i64 s])) (fset 9 (some (.int .i64 (xs.length : Int))) (fset 10 (some (.int .i64 (i : Int))) Z27)))) ∧
    σ' = (b, .cells 9 R) :: (βk ++ σ) ∧ R = xs ++ rowR k ns ks l p s vk parent deep :: (Zlz (xs.length + 1) (xs.length : Int) (deep + 1) (ks.take i)).map encR ∧ Zbr 1 vk (ints (Zlx (xs.length + 1) (ks.take i))) βk ∧ i ≤ ks.length ∧ m = ks.length - i) (ks.length - i) (Z8g 0 (Z8e Try.prog Zh7.n (Zh7.code.snd 4) (ARet Zh7.res fun r σ' => ∃ β', Zbr 9 r (xs ++ (Zly xs.length parent deep (.mk k ns ks l p s)).map encR) β' ∧ σ' = β' ++ σ))))
          (fset 0 (some (.arr 9 b3 0 R3.length)) (fset 3 (some (.int .i64 (deep : Int))) (fset 5 (some (.iptr [.int .i64 k, .slc 1 (ns.map .str) false, .slc 6 (Zlm ks) false, .int .i64 l, .int .i64 p, .int .i64 s])) (fset 9 (some (.int .i64 (xs.length : Int))) (fset 10 (some (.int .i64 (i : Int))) Z27))))) τ := by
      intro b' τ hne hτ
      refine Zbp ?_
      (repeat (refine st_q rfl rfl rfl ?_))
      rw [show IntKind.wrap .i64 ((i : Int) + 1) = ((i + 1 : Nat) : Int) by rw [w64 _ (by omega) (by omega)]; omega]
      (refine Z8y ?_; (repeat (first | refine Z9v rfl ?_ | refine Z9w ?_)); refine Z9u ?_)
      refine ⟨_, ks.length - (i + 1), hτ, ⟨i + 1, b3, _, [(b', .cells 1 _)], _, ?_, rfl, rfl, ?_, by omega, rfl⟩, by omega⟩
      · rw [hR3']; simp
      · rw [hkid]; exact Zbr.mk
    rcases hok with ⟨⟨z, rfl⟩, hk0, rfl⟩ | ⟨bk, rfl, rfl⟩
    · refine Z9p (ys := [.int .i64 (R.length : Int)]) rfl rfl (by simp) fun b' hb' => ?_
      have hne : b' ≠ b3 := fun e => hb' (by rw [e]; simp [Zh])
      (repeat (refine st_q rfl rfl rfl ?_))
      refine Z94 rfl ⟨by omega, by omega⟩ ?_
      (repeat (refine st_q rfl rfl rfl ?_))
      refine Z9a rfl (Z90 hne Z8z) hat1 (by decide) (Z0.fit_iff.1 rfl) (fun h => by cases h) (Z9c hne Z9b) ?_
      rw [Ze _ rfl]
      (refine Z8y ?_; (repeat (first | refine Z9v rfl ?_ | refine Z9w ?_)); refine Z9u ?_)
      refine done b' _ hne ?_
      rw [hk0]
      exact HSub.swap _ _ _
    · refine Z9o (xs := ints (Zlx (xs.length + 1) (ks.take i))) (ys := [.int .i64 (R.length : Int)]) (sz := 1) rfl (Z90 (by
        intro e; subst e; simp [Zh] at nd) Z8z) rfl rfl (by simp [ints]; omega) fun b' hb' => ?_
      have hne : b' ≠ b3 := fun e => hb' (by rw [e]; simp [Zh])
      simp only [List.singleton_append]
      rw [Z9f (by intro e; subst e; simp [Zh] at nd) Z9e]
      (repeat (refine st_q rfl rfl rfl ?_))
      refine Z94 rfl ⟨by omega, by omega⟩ ?_
      (repeat (refine st_q rfl rfl rfl ?_))
      refine Z9a rfl Z8z hat1 (by decide) (Z0.fit_iff.1 rfl) (fun h => by cases h) Z9b ?_
      rw [Ze _ rfl]
      (refine Z8y ?_; (repeat (first | refine Z9v rfl ?_ | refine Z9w ?_)); refine Z9u ?_)
      refine done b' _ hne ?_
      rw [List.length_append]
      exact HSub.refl _
  · have hie : i = ks.length := by omega
    subst hie
    rw [List.take_length] at hR hok
    have hfin : xs ++ rowR k ns ks l p s (.slc 1 (ints (Zlx (xs.length + 1) ks)) false) parent deep :: (Zlz (xs.length + 1) (xs.length : Int) (deep + 1) ks).map encR = xs ++ (Zly xs.length parent deep (.mk k ns ks l p s)).map encR := by
      rw [Zly]; rfl
    have hlen : (xs ++ (Zly xs.length parent deep (.mk k ns ks l p s)).map encR).length = R.length := by rw [← hfin, hR]; simp
    have hsh : HShift ((b, .cells 9 R) :: (βk ++ σ)) ((b, .cells 9 (xs ++ (Zly xs.length parent deep (.mk k ns ks l p s)).map encR)) :: σ) := by
      have hye : ∀ y ∈ xs ++ (Zly xs.length parent deep (.mk k ns ks l p s)).map encR, y.elem 9 := by
        intro y hy
        rcases List.mem_append.1 hy with hy | hy
        · exact hxe y hy
        · obtain ⟨n, _, rfl⟩ := List.mem_map.1 hy
          exact Znl n
      have hrep : ∀ (K : Kr), (∀ v, VR K vk v → VR K (.slc 1 (ints (Zlx (xs.length + 1) ks)) false) v) → ∀ vs, Z1 K (flat R) vs → Z1 K (flat (xs ++ (Zly xs.length parent deep (.mk k ns ks l p s)).map encR)) vs := by
        intro K hK vs hv
        rw [hR, Z4, Z3] at hv
        rw [← hfin, Z4, Z3]
        obtain ⟨m1, m2, rfl, g1, g2⟩ := hv.split
        obtain ⟨m3, m4, rfl, g3, g4⟩ := g2.split
        refine g1.append (Z1.append ?_ g4)
        simp only [rowR, Z0.cells] at g3 ⊢
        obtain ⟨v1, m5, rfl, a1, g3⟩ := g3.ex
        obtain ⟨v2, m5, rfl, a2, g3⟩ := g3.ex
        obtain ⟨v3, m5, rfl, a3, g3⟩ := g3.ex
        obtain ⟨v4, m5, rfl, a4, g3⟩ := g3.ex
        obtain ⟨v5, m5, rfl, a5, g3⟩ := g3.ex
        obtain ⟨v6, m5, rfl, a6, g3⟩ := g3.ex
        obtain ⟨v7, m5, rfl, a7, g3⟩ := g3.ex
        exact .cons a1 (.cons a2 (.cons a3 (.cons a4 (.cons a5 (.cons a6 (.cons (hK _ a7) g3))))))
      rcases hok with ⟨⟨z, rfl⟩, hk0, rfl⟩ | ⟨bk, rfl, rfl⟩
      · intro K w r
        refine ⟨K, Kr.le.refl K, Rel.content (xs := R) r hlen hye (hrep K fun v hv => ?_)⟩
        rw [hk0]
        exact VRle.trans (VRle.nil_slc z 1 true) VRle.full K [v] hv
      · exact HShift.inner hlen hye hrep
    refine Zbo (fun _ _ => rfl) ?_
    refine Zbx hsh ?_
    (repeat (first | refine st_q rfl rfl rfl ?_ | refine Z8v rfl (st_q rfl rfl rfl ?_) | refine Z8w rfl ?_ | refine Z8x rfl ?_ | (refine Z8y ?_; (repeat (first | refine Z9v rfl ?_ | refine Z9w ?_)); refine Z9u ?_) | refine awp_seq ?_ | refine Zbm (fun _ _ => rfl) ?_ | refine Z8h ?_ | refine Zbn (fun _ _ => rfl) ?_ | refine Zbo (fun _ _ => rfl) ?_ | refine Z8f (t := true) rfl (fun _ => ?_) (fun e => by cases e) | refine Z8f (t := false) rfl (fun e => by cases e) (fun _ => ?_)))
    refine Z8d ?_
    refine ares rfl (HSub.refl _) ⟨_, .inr ⟨b, ?_, rfl⟩, rfl⟩
    rw [hlen]; rfl
end Go.Abs
namespace Go.Abs
open Go Go.Proofs
theorem Znn (t : Ty) (hc : ∀ σ, Z1q Try.prog Zd6 [encT t] σ fun r σ' => r = .int .i64 (Zlw t : Int) ∧ σ' = σ) (σ : Zc) : Z1q Try.prog Zcq [encT t] σ fun r σ' => r = .slc 9 ((Zm3 t).map encR) false ∧ σ' = σ := by
  have hc := hc σ
  have hf := fun (hs : t.Small) => Znm t hs (.slc 0 [] true) [] [] (-1) 1 σ (Zbr.nil 9 0)
  rw [Zlo] at *
  refine Z8t rfl Zl6 (Nat.le_of_ble_eq_true rfl) ?_
  refine Z9z ?_
  refine Z9j rfl (Z0.fit_iff.1 rfl) fun pb hpb => ?_
  (repeat (refine st_q rfl rfl rfl ?_))
  (refine Z8y ?_; (repeat (first | refine Z9v rfl ?_ | refine Z9w ?_)); refine Z9u ?_)
  refine Zb3 (d := 1) (cs := Zln t) rfl ?_
  (repeat (first | refine st_q rfl rfl rfl ?_ | refine Z8v rfl (st_q rfl rfl rfl ?_) | refine Z8w rfl ?_ | refine Z8x rfl ?_ | (refine Z8y ?_; (repeat (first | refine Z9v rfl ?_ | refine Z9w ?_)); refine Z9u ?_) | refine awp_seq ?_ | refine Zbm (fun _ _ => rfl) ?_ | refine Z8h ?_ | refine Zbn (fun _ _ => rfl) ?_ | refine Zbo (fun _ _ => rfl) ?_ | refine Z8f (t := true) rfl (fun _ => ?_) (fun e => by cases e) | refine Z8f (t := false) rfl (fun e => by cases e) (fun _ => ?_)))
  refine Z9t rfl hc ?_
  (repeat (first | refine st_q rfl rfl rfl ?_ | refine Z8v rfl (st_q rfl rfl rfl ?_) | refine Z8w rfl ?_ | refine Z8x rfl ?_ | (refine Z8y ?_; (repeat (first | refine Z9v rfl ?_ | refine Z9w ?_)); refine Z9u ?_) | refine awp_seq ?_ | refine Zbm (fun _ _ => rfl) ?_ | refine Z8h ?_ | refine Zbn (fun _ _ => rfl) ?_ | refine Zbo (fun _ _ => rfl) ?_ | refine Z8f (t := true) rfl (fun _ => ?_) (fun e => by cases e) | refine Z8f (t := false) rfl (fun e => by cases e) (fun _ => ?_)))
  by_cases h0 : Zlw t = 0
  · have hs := Znc t 1 0 h0
    (rw [show decide (((Zlw t : Nat) : Int) ≠ 0) = false from decide_eq_false (by omega)])
    (repeat (first | refine st_q rfl rfl rfl ?_ | refine Z8v rfl (st_q rfl rfl rfl ?_) | refine Z8w rfl ?_ | refine Z8x rfl ?_ | (refine Z8y ?_; (repeat (first | refine Z9v rfl ?_ | refine Z9w ?_)); refine Z9u ?_) | refine awp_seq ?_ | refine Zbm (fun _ _ => rfl) ?_ | refine Z8h ?_ | refine Zbn (fun _ _ => rfl) ?_ | refine Zbo (fun _ _ => rfl) ?_ | refine Z8f (t := true) rfl (fun _ => ?_) (fun e => by cases e) | refine Z8f (t := false) rfl (fun e => by cases e) (fun _ => ?_)))
    refine Z9s rfl (hf hs.2.1 (by simp) (by simp; omega) (by omega)) ?_ ?_
    · obtain ⟨gv, gβ, hgr⟩ := Zbr.ex 9 ([] ++ (Zly 0 (-1) 1 t).map encR)
      exact ⟨_, _, gβ, hgr, rfl⟩
    rintro r2 _ ⟨β2, ho2, rfl⟩
    (repeat (first | refine st_q rfl rfl rfl ?_ | refine Z8v rfl (st_q rfl rfl rfl ?_) | refine Z8w rfl ?_ | refine Z8x rfl ?_ | (refine Z8y ?_; (repeat (first | refine Z9v rfl ?_ | refine Z9w ?_)); refine Z9u ?_) | refine awp_seq ?_ | refine Zbm (fun _ _ => rfl) ?_ | refine Z8h ?_ | refine Zbn (fun _ _ => rfl) ?_ | refine Zbo (fun _ _ => rfl) ?_ | refine Z8f (t := true) rfl (fun _ => ?_) (fun e => by cases e) | refine Z8f (t := false) rfl (fun e => by cases e) (fun _ => ?_)))
    refine Z8d ?_
    refine Zbu rfl (Zb6.one (Zb6.growG ho2)) ⟨?_, rfl⟩
    rw [Zm3, if_pos h0]; rfl
  · (rw [show decide (((Zlw t : Nat) : Int) ≠ 0) = true from decide_eq_true (by omega)])
    (repeat (first | refine st_q rfl rfl rfl ?_ | refine Z8v rfl (st_q rfl rfl rfl ?_) | refine Z8w rfl ?_ | refine Z8x rfl ?_ | (refine Z8y ?_; (repeat (first | refine Z9v rfl ?_ | refine Z9w ?_)); refine Z9u ?_) | refine awp_seq ?_ | refine Zbm (fun _ _ => rfl) ?_ | refine Z8h ?_ | refine Zbn (fun _ _ => rfl) ?_ | refine Zbo (fun _ _ => rfl) ?_ | refine Z8f (t := true) rfl (fun _ => ?_) (fun e => by cases e) | refine Z8f (t := false) rfl (fun e => by cases e) (fun _ => ?_)))
    refine Z8d ?_
    refine Zau rfl ?_ (HSub.refl _) ⟨rfl, rfl⟩
    rw [Zm3, if_neg h0]
    exact VRle.trans (VRle.nil_slc 0 9 true) VRle.full
end Go.Abs

