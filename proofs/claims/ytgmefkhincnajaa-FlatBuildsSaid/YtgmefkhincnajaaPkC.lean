/- Part C of a proof: merged by program. -/
import Derived.Test.YtgmefkhincnajaaProg
import Derived.WalkKit
import Derived.Maps.OwnSet
import Derived.Maps.AppendAt
import Derived.Test.YtgmefkhincnajaaPkB
import Derived.KernelRfl
set_option linter.unusedVariables false
set_option linter.unusedSimpArgs false
set_option maxHeartbeats 4000000
namespace Go.Abs
open Go
theorem Kwr (i : Nat) (h : i < 9223372036854775807) : IntKind.wrap .i64 ((i : Int) + 1) = ((i + 1 : Nat) : Int) := by rw [w64 _ (by omega) (by omega)]; omega
theorem Kc1 {P : Program} {N : Nat} {x : Zw} {a b : Z2c} {R : Z8i} {F : Z27} {σ : Zc} (hx : ev F x = some (.bool true)) (h : AWp P N a R F σ) : AWp P N (.cond x a b) R F σ := Z8q (t := true) hx (fun _ => h) (fun e => by cases e)
theorem Kfi {sz : Nat} {v : Z0} (h : Z0.fit sz v = true) : v.elem sz := Z0.fit_iff.1 h
theorem Kar {res : List ARes} {R : Z0 → Zc → Prop} {F : Z27} {σ : Zc} {vs : List Z0} (h : Z8w F σ res = some vs) (hR : R (Z8x vs) σ) : ARet res R .ret F σ := ares h (HSub.refl _) hR
theorem Kc2 {P : Program} {N : Nat} {x : Zw} {a b : Z2c} {R : Z8i} {F : Z27} {σ : Zc} (hx : ev F x = some (.bool false)) (h : AWp P N b R F σ) : AWp P N (.cond x a b) R F σ := Z8q (t := false) hx (fun e => by cases e) (fun _ => h)
end Go.Abs
namespace Go.Abs
def Zbi : Nat := 2
def Zbj : Nat := 3
def Zbk : Nat := 4
def Zbl : Nat := 5
def Zbm : Nat := 6
def Zbn : Nat := 7
def Zbo : Nat := 8
def Zbp : Nat := 9
def Zbq : Nat := 10
def Zbr : Nat := 11
def Zbs : Nat := 12
def Zbt : Nat := 13
def Zbu : Nat := 14
def Zbv : Nat := 15
def Zbw : Nat := 16
def Zbx : Nat := 17
def Zby : Nat := 18
def Zbz : Nat := 19
def Zc0 : Nat := 20
def Zc1 : Nat := 21
def Zc2 : Nat := 22
def Zc3 : Nat := 23
def Zc4 : Nat := 24
def Zc5 : Nat := 25
def Zc6 : Nat := 26
def Zc7 : Nat := 27
def Zc8 : Nat := 28
def Zc9 : Nat := 29
def Zca : Nat := 30
def Zcb : Nat := 31
def Zcc : Nat := 32
def Zcd : Nat := 33
def Zce : Nat := 34
def Zcf : Nat := 35
def Zcg : Nat := 36
def Zch : Nat := 37
def Zci : Nat := 38
def Zcj : Nat := 39
def Zck : Nat := 40
def Zcl : Nat := 41
def Zcm : Nat := 42
def Zcn : Nat := 43
def Zco : Nat := 44
def Zcp : Nat := 45
def Zcq : Nat := 46
def Zcr : Nat := 47
def Zcs : Nat := 48
def Zct : Nat := 49
def Zcu : Nat := 50
def Zcv : Nat := 51
def Zcw : Nat := 52
def Zcx : Nat := 53
def Zcy : Nat := 54
def Zcz : Nat := 55
def Zd0 : Nat := 56
def Zd1 : Nat := 57
def Zd2 : Nat := 58
def Zd3 : Nat := 59
def Zd4 : Nat := 60
def Zd5 : Nat := 61
def Zd6 : Nat := 62
def Zd7 : Nat := 63
def Zd8 : Nat := 64
def Zd9 : Nat := 65
def Zda : Nat := 66
def Zdb : Nat := 67
def Zdc : Nat := 68
def Zdd : Nat := 69
def Zde : Nat := 70
def Zdf : Nat := 71
def Zdg : Nat := 72
def Zdh : Nat := 73
def Zdi : Nat := 74
def Zdj : Nat := 75
def Zdk : Nat := 76
def Zdl : Nat := 77
def Zdm : Nat := 78
def Zdn : Nat := 79
def Zdo : Nat := 80
def Zdp : Nat := 81
def Zdq : Nat := 82
def Zdr : Nat := 83
def Zds : Nat := 84
def Zdt : Nat := 85
def Zdu : Nat := 86
def Zdv : Nat := 87
def Zdw : Nat := 88
def Zdx : Nat := 89
def Zdy : Nat := 90
def Zdz : Nat := 91
def Ze0 : Nat := 92
def Ze1 : Nat := 93
def Ze2 : Nat := 94
def Ze3 : Nat := 95
def Ze4 : Nat := 96
def Ze5 : Nat := 97
def Ze6 : Nat := 98
def Ze7 : Nat := 99
def Ze8 : Nat := 100
def Ze9 : Nat := 101
def Zea : Nat := 102
def Zeb : Nat := 103
def Zec : Nat := 104
def Zed : Nat := 105
def Zee : Nat := 106
def Zef : Nat := 107
def Zeg : Nat := 108
def Zeh : Nat := 109
def Zei : Nat := 110
def Zej : Nat := 111
def Zek : Nat := 112
def Zel : Nat := 113
def Zem : Nat := 114
def Zen : Nat := 115
def Zeo : Nat := 116
def Zep : Nat := 117
def Zeq : Nat := 118
def Zer : Nat := 119
def Zes : Nat := 120
def Zet : Nat := 121
def Zeu : Nat := 122
def Zev : Nat := 123
def Zew : Nat := 124
def Zex : Nat := 125
def Zey : Nat := 126
def Zez : Nat := 127
def Zf0 : Nat := 128
def Zf1 : Nat := 129
def Zf2 : Nat := 130
def Zf3 : Nat := 131
def Zf4 : Nat := 132
def Zf5 : Nat := 133
def Zf6 : Nat := 134
def Zf7 : Nat := 135
def Zf8 : Nat := 136
def Zf9 : Nat := 137
def Zfa : Nat := 138
def Zfb : Nat := 139
def Zfc : Nat := 140
def Zfd : Nat := 141
def Zfe : Nat := 142
def Zff : Nat := 143
def Zfg : Nat := 144
def Zfh : Nat := 146
def Zfi : Nat := 147
def Zfj : Nat := 148
def Zfk : Nat := 149
def Zfl : Nat := 150
def Zfm : Nat := 151
def Zfn : Nat := 152
def Zfo : Nat := 153
def Zfp : Nat := 154
def Zfq : Nat := 155
def Zfr : Nat := 156
def Zfs : Nat := 157
end Go.Abs
namespace Go.Abs
open Go
def Zft : List Z2b := [
 ⟨some 1,(.box 6),[.t 0],none⟩,⟨some 2,.mov,[.c (.int .i64 0)],none⟩]
def Zfu : List Z2b := [
 ⟨some 6,(.load true 6),[.t 1],none⟩,⟨some 7,(.call Zdp),[.t 6,.c (.int .i64 1),.c (.int .i64 0)],none⟩,⟨some 5,.mov,[.t 7],none⟩,⟨some 8,(.ext 0),[.t 5],none⟩,⟨some 9,(.ext 1),[.t 5],none⟩,⟨some 3,.mov,[.t 8],none⟩,⟨some 4,.mov,[.t 9],none⟩]
def Zfv : List Z2b := [
 ⟨some 10,.mov,[.t 4],none⟩,⟨some 2,.mov,[.t 10],none⟩]
def Zfw : Z2z := ⟨11,(.seq (.region Zft [1]) (.seq (.region Zfu [4]) (.seq (.region Zfv [2]) .ret))),[.t 2]⟩
def Zfx : List Z2b := [
 ⟨some 1,(.box 6),[.t 0],none⟩,⟨some 2,.mov,[.c (.int .i64 0)],none⟩]
def Zfy : List Z2b := [
 ⟨some 3,(.alloc (.int .i64 0)),[],none⟩,⟨none,(.store 1),[.t 3,.c (.int .i64 0)],none⟩]
def Zfz : List Z2b := [
 ⟨some 4,(.load true 6),[.t 1],none⟩,⟨some 5,(.call Zej),[.t 4,.c (.int .i64 1),.t 3],none⟩,⟨some 2,.mov,[.t 5],none⟩]
def Zg0 : Z2z := ⟨6,(.seq (.region Zfx [1]) (.seq (.region Zfy [1,3]) (.seq (.region Zfz [2]) .ret))),[.t 2]⟩
def Zg1 : List Z2b := [
 ⟨some 2,.mov,[.c (.slc 0 [] true)],none⟩]
def Zg2 : List Z2b := [
 ⟨some 3,.mov,[.t 0],none⟩,⟨some 4,.mov,[.t 0],none⟩,⟨some 5,.lens,[.t 4],none⟩,⟨some 6,.mov,[.t 0],none⟩,⟨some 7,.lens,[.t 6],none⟩,⟨some 8,(.clip 8),[.t 3,.t 5,.t 7],none⟩,⟨some 2,.mov,[.t 8],none⟩]
def Zg3 : Z2z := ⟨9,(.seq (.region Zg1 [0]) (.seq (.region Zg2 [2]) .ret)),[.t 2]⟩
def Zg4 : List Z2b := [
 ⟨some 2,.mov,[.c (.bool false)],none⟩]
def Zg5 : List Z2b := [
 ⟨some 3,.mov,[.t 0],none⟩,⟨some 4,(.bin .neq),[.t 3,.c (.int .i64 10)],none⟩,⟨some 5,.mov,[.t 4],none⟩,⟨some 6,.mov,[.t 0],some (5,true)⟩,⟨some 7,(.bin .neq),[.t 6,.c (.int .i64 11)],some (5,true)⟩,⟨some 8,.pick,[.t 5,.t 7,.c (.bool false)],none⟩,⟨some 9,.mov,[.t 8],none⟩,⟨some 10,.mov,[.t 0],some (9,true)⟩,⟨some 11,(.bin .neq),[.t 10,.c (.int .i64 12)],some (9,true)⟩,⟨some 12,.pick,[.t 9,.t 11,.c (.bool false)],none⟩,⟨some 13,.mov,[.t 12],none⟩,⟨some 14,.mov,[.t 0],some (13,true)⟩,⟨some 15,(.bin .neq),[.t 14,.c (.int .i64 13)],some (13,true)⟩,⟨some 16,.pick,[.t 13,.t 15,.c (.bool false)],none⟩,⟨some 2,.mov,[.t 16],none⟩]
def Zg6 : Z2z := ⟨17,(.seq (.region Zg4 [0,6,7,10,11,14,15]) (.seq (.region Zg5 [2]) .ret)),[.t 2]⟩
def Zg7 : List Z2b := [
 ⟨some 3,(.box 6),[.t 0],none⟩,⟨some 6,.mov,[.c (.int .i64 0)],none⟩,⟨some 7,.mov,[.c (.int .i64 0)],none⟩]
def Zg8 : List Z2b := [
 ⟨some 12,.mov,[.t 1],none⟩,⟨some 13,(.bin .gtr),[.t 12,.c (.int .i64 16)],none⟩,⟨some 14,.mov,[.t 13],none⟩,⟨some 15,.mov,[.t 2],some (14,false)⟩,⟨some 16,(.bin .geq),[.t 15,.c (.int .i64 100)],some (14,false)⟩,⟨some 17,.pick,[.t 14,.c (.bool true),.t 16],none⟩]
def Zg9 : List Z2b := [
 ⟨some 18,.mov,[.t 2],none⟩,⟨some 6,.mov,[.t 18],none⟩,⟨some 7,.mov,[.c (.int .i64 4)],none⟩]
def Zga : List Z2b := [
 ⟨some 19,(.load true 6),[.t 3],none⟩,⟨some 20,(.call Zep),[.t 19],none⟩,⟨some 8,.mov,[.t 20],none⟩]
def Zgb : List Z2b := [
 ⟨some 21,.mov,[.t 8],none⟩,⟨some 22,(.bin .neq),[.t 21,.c (.int .i64 0)],none⟩]
def Zgc : List Z2b := [
 ⟨some 23,.mov,[.t 2],none⟩,⟨some 24,.mov,[.t 8],none⟩,⟨some 6,.mov,[.t 23],none⟩,⟨some 7,.mov,[.t 24],none⟩]
def Zgd : List Z2b := [
 ⟨some 25,.mov,[.t 2],none⟩,⟨some 26,(.bin .add),[.t 25,.c (.int .i64 1)],none⟩,⟨some 2,.mov,[.t 26],none⟩]
def Zge : List Z2b := [
 ⟨some 9,.mov,[.c (.int .i64 0)],none⟩]
def Zgf : List Z2b := [
 ⟨some 27,.mov,[.t 9],none⟩,⟨some 28,(.fad 2),[.t 3],none⟩,⟨some 29,(.load false 1),[.t 28],none⟩,⟨some 30,.lens,[.t 29],none⟩,⟨some 31,(.bin .lss),[.t 27,.t 30],none⟩]
def Zgg : List Z2b := [
 ⟨some 35,(.fad 2),[.t 3],none⟩,⟨some 36,(.load false 1),[.t 35],none⟩,⟨some 37,.mov,[.t 9],none⟩,⟨some 38,(.iad 6),[.t 36,.t 37],none⟩,⟨some 39,(.load true 6),[.t 38],none⟩,⟨some 40,.mov,[.t 1],none⟩,⟨some 41,(.bin .add),[.t 40,.c (.int .i64 1)],none⟩,⟨some 42,.mov,[.t 2],none⟩,⟨some 43,(.call Zdp),[.t 39,.t 41,.t 42],none⟩,⟨some 34,.mov,[.t 43],none⟩,⟨some 44,(.ext 0),[.t 34],none⟩,⟨some 45,(.ext 1),[.t 34],none⟩,⟨some 10,.mov,[.t 44],none⟩,⟨some 11,.mov,[.t 45],none⟩]
def Zgh : List Z2b := [
 ⟨some 46,.mov,[.t 11],none⟩,⟨some 47,(.bin .neq),[.t 46,.c (.int .i64 0)],none⟩]
def Zgi : List Z2b := [
 ⟨some 48,.mov,[.t 10],none⟩,⟨some 49,.mov,[.t 11],none⟩,⟨some 6,.mov,[.t 48],none⟩,⟨some 7,.mov,[.t 49],none⟩]
def Zgj : List Z2b := [
 ⟨some 50,.mov,[.t 10],none⟩,⟨some 2,.mov,[.t 50],none⟩]
def Zgk : List Z2b := [
 ⟨some 32,.mov,[.t 9],none⟩,⟨some 33,(.bin .add),[.t 32,.c (.int .i64 1)],none⟩,⟨some 9,.mov,[.t 33],none⟩]
def Zgl : Z2c := (.seq (.seq (.region Zgf [1,2,3,9,31]) (.cond (.t 31) .skip (.exit 0))) (.seq (.block 1 (.seq (.region Zgg [1,3,9,10,11]) (.seq (.seq (.region Zgh [1,3,9,10,11,47]) (.cond (.t 47) (.seq (.region Zgi [6,7]) .ret) .skip)) (.region Zgj [1,2,3,9])))) (.region Zgk [1,2,3,9])))
def Zgm : List Z2b := [
 ⟨some 51,.mov,[.t 2],none⟩,⟨some 6,.mov,[.t 51],none⟩,⟨some 7,.mov,[.c (.int .i64 0)],none⟩]
def Zgn : Z2z := ⟨52,(.seq (.region Zg7 [1,2,3,15,16]) (.seq (.seq (.region Zg8 [1,2,3,17]) (.cond (.t 17) (.seq (.region Zg9 [6,7]) .ret) .skip)) (.seq (.region Zga [1,2,3,8]) (.seq (.seq (.region Zgb [1,2,3,8,22]) (.cond (.t 22) (.seq (.region Zgc [6,7]) .ret) .skip)) (.seq (.region Zgd [1,2,3]) (.seq (.seq (.region Zge [1,2,3,9]) (.block 0 (.loop Zgl))) (.seq (.region Zgm [6,7]) .ret))))))),[.t 6,.t 7]⟩
def Zgo : List Z2b := [
 ⟨some 3,(.box 6),[.t 0],none⟩,⟨some 6,.mov,[.c (.int .i64 0)],none⟩]
def Zgp : List Z2b := [
 ⟨some 11,.mov,[.t 1],none⟩,⟨some 12,(.bin .gtr),[.t 11,.c (.int .i64 16)],none⟩,⟨some 13,.mov,[.t 12],none⟩,⟨some 14,.mov,[.t 2],some (13,false)⟩,⟨some 15,.nilc,[.t 14],some (13,false)⟩,⟨some 16,(.load false 1),[.t 15],some (13,false)⟩,⟨some 17,(.bin .geq),[.t 16,.c (.int .i64 100)],some (13,false)⟩,⟨some 18,.pick,[.t 13,.c (.bool true),.t 17],none⟩,⟨some 10,.mov,[.t 18],none⟩]
def Zgq : List Z2b := [
 ⟨some 6,.mov,[.c (.int .i64 4)],none⟩]
def Zgr : List Z2b := [
 ⟨some 20,(.fad 0),[.t 3],none⟩,⟨some 21,(.load false 1),[.t 20],none⟩,⟨some 22,(.bin .eql),[.t 21,.c (.int .i64 5)],none⟩,⟨some 23,.mov,[.t 22],none⟩,⟨some 24,(.fad 0),[.t 3],some (23,false)⟩,⟨some 25,(.load false 1),[.t 24],some (23,false)⟩,⟨some 26,(.bin .eql),[.t 25,.c (.int .i64 6)],some (23,false)⟩,⟨some 27,.pick,[.t 23,.c (.bool true),.t 26],none⟩,⟨some 19,.mov,[.t 27],none⟩]
def Zgs : List Z2b := [
 ⟨some 6,.mov,[.c (.int .i64 5)],none⟩]
def Zgt : List Z2b := [
 ⟨some 29,(.fad 0),[.t 3],none⟩,⟨some 30,(.load false 1),[.t 29],none⟩,⟨some 31,(.bin .lss),[.t 30,.c (.int .i64 0)],none⟩,⟨some 32,.mov,[.t 31],none⟩,⟨some 33,(.fad 0),[.t 3],some (32,false)⟩,⟨some 34,(.load false 1),[.t 33],some (32,false)⟩,⟨some 35,(.bin .gtr),[.t 34,.c (.int .i64 17)],some (32,false)⟩,⟨some 36,.pick,[.t 32,.c (.bool true),.t 35],none⟩,⟨some 37,.mov,[.t 36],none⟩,⟨some 38,(.load true 6),[.t 3],some (37,false)⟩,⟨some 39,(.call Zfg),[.t 38],some (37,false)⟩,⟨some 40,.unot,[.t 39],some (37,false)⟩,⟨some 41,.pick,[.t 37,.c (.bool true),.t 40],none⟩,⟨some 28,.mov,[.t 41],none⟩]
def Zgu : List Z2b := [
 ⟨some 6,.mov,[.c (.int .i64 1)],none⟩]
def Zgv : List Z2b := [
 ⟨some 42,.mov,[.t 2],none⟩,⟨some 43,.nilc,[.t 42],none⟩,⟨some 44,(.load false 1),[.t 43],none⟩,⟨some 45,(.bin .add),[.t 44,.c (.int .i64 1)],none⟩,⟨some 46,.nilc,[.t 42],none⟩,⟨none,(.store 1),[.t 46,.t 45],none⟩]
def Zgw : List Z2b := [
 ⟨some 47,(.fad 2),[.t 3],none⟩,⟨some 48,(.load false 1),[.t 47],none⟩,⟨some 49,.lens,[.t 48],none⟩,⟨some 50,.mov,[.c (.int .i64 0)],none⟩]
def Zgx : List Z2b := [
 ⟨some 51,(.bin .lss),[.t 50,.t 49],none⟩]
def Zgy : List Z2b := [
 ⟨some 52,(.iad 6),[.t 48,.t 50],none⟩,⟨some 53,(.load true 6),[.t 52],none⟩,⟨some 8,(.alloc (.agg [(.int .i64 0),(.slc 0 [] true),(.slc 0 [] true),(.int .i64 0),(.int .i64 0),(.int .i64 0)])),[],none⟩,⟨none,(.store 6),[.t 8,.t 53],none⟩]
def Zgz : List Z2b := [
 ⟨some 54,(.load true 6),[.t 8],none⟩,⟨some 55,.mov,[.t 1],none⟩,⟨some 56,(.bin .add),[.t 55,.c (.int .i64 1)],none⟩,⟨some 57,.mov,[.t 2],none⟩,⟨some 58,(.call Zej),[.t 54,.t 56,.t 57],none⟩,⟨some 9,.mov,[.t 58],none⟩]
def Zh0 : List Z2b := [
 ⟨some 59,.mov,[.t 9],none⟩,⟨some 60,(.bin .neq),[.t 59,.c (.int .i64 0)],none⟩]
def Zh1 : List Z2b := [
 ⟨some 61,.mov,[.t 9],none⟩,⟨some 6,.mov,[.t 61],none⟩]
def Zh2 : List Z2b := [
 ⟨some 62,(.bin .add),[.t 50,.c (.int .i64 1)],none⟩,⟨some 50,.mov,[.t 62],none⟩]
def Zh3 : Z2c := (.seq (.region Zgx [1,2,48,49,50,51]) (.seq (.cond (.t 51) .skip (.exit 1)) (.seq (.block 2 (.seq (.region Zgy [1,2,8,48,49,50]) (.seq (.region Zgz [1,2,9,48,49,50]) (.seq (.region Zh0 [1,2,9,48,49,50,60]) (.cond (.t 60) (.seq (.region Zh1 [6]) .ret) .skip))))) (.region Zh2 [1,2,48,49,50]))))
def Zh4 : List Z2b := [
 ⟨some 6,.mov,[.c (.int .i64 0)],none⟩]
def Zh5 : Z2z := ⟨63,(.seq (.region Zgo [1,2,3,14,15,16,17,24,25,26,33,34,35,38,39,40]) (.seq (.block 0 (.seq (.region Zgp [1,2,3,10,24,25,26,33,34,35,38,39,40]) (.cond (.t 10) (.seq (.region Zgq [6]) .ret) (.seq (.region Zgr [1,2,3,19,33,34,35,38,39,40]) (.cond (.t 19) (.seq (.region Zgs [6]) .ret) (.seq (.region Zgt [1,2,3,28]) (.cond (.t 28) (.seq (.region Zgu [6]) .ret) .skip))))))) (.seq (.region Zgv [1,2,3]) (.seq (.seq (.region Zgw [1,2,48,49,50]) (.block 1 (.loop Zh3))) (.seq (.region Zh4 [6]) .ret))))),[.t 6]⟩
def Zh6 : List Z2b := [
 ⟨some 2,.mov,[.c (.slc 0 [] true)],none⟩]
def Zh7 : List Z2b := [
 ⟨some 3,.mov,[.t 0],none⟩,⟨some 4,.mov,[.t 0],none⟩,⟨some 5,.lens,[.t 4],none⟩,⟨some 6,.mov,[.t 0],none⟩,⟨some 7,.lens,[.t 6],none⟩,⟨some 8,(.clip 1),[.t 3,.t 5,.t 7],none⟩,⟨some 2,.mov,[.t 8],none⟩]
def Zh8 : Z2z := ⟨9,(.seq (.region Zh6 [0]) (.seq (.region Zh7 [2]) .ret)),[.t 2]⟩
def Zh9 : List Z2b := [
 ⟨some 2,.mov,[.c (.slc 0 [] true)],none⟩]
def Zha : List Z2b := [
 ⟨some 3,.mov,[.t 0],none⟩,⟨some 4,(.isnil false),[.t 3,.c (.slc 0 [] true)],none⟩]
def Zhb : List Z2b := [
 ⟨some 2,.mov,[.c (.slc 0 [] true)],none⟩]
def Zhc : List Z2b := [
 ⟨some 5,(.bsl 1),[],none⟩,⟨some 6,.mov,[.t 0],none⟩,⟨some 7,(.app 1 16),[.t 5,.t 6],none⟩,⟨some 2,.mov,[.t 7],none⟩]
def Zhd : Z2z := ⟨8,(.seq (.region Zh9 [0]) (.seq (.seq (.region Zha [0,4]) (.cond (.t 4) (.seq (.region Zhb [2]) .ret) .skip)) (.seq (.region Zhc [2]) .ret))),[.t 2]⟩
def Zhe : List Z2b := [
 ⟨some 2,.mov,[.c (.slc 0 [] true)],none⟩]
def Zhf : List Z2b := [
 ⟨some 3,.mov,[.t 0],none⟩,⟨some 4,.mov,[.t 0],none⟩,⟨some 5,.lens,[.t 4],none⟩,⟨some 6,.mov,[.t 0],none⟩,⟨some 7,.lens,[.t 6],none⟩,⟨some 8,(.clip 1),[.t 3,.t 5,.t 7],none⟩,⟨some 2,.mov,[.t 8],none⟩]
def Zhg : Z2z := ⟨9,(.seq (.region Zhe [0]) (.seq (.region Zhf [2]) .ret)),[.t 2]⟩
def Zhh : List Z2b := [
 ⟨some 2,.mov,[.c (.bool false)],none⟩]
def Zhi : List Z2b := [
 ⟨some 3,.mov,[.t 0],none⟩]
def Zhj : List Z2b := [
 ⟨some 5,(.bin .eql),[.t 3,.c (.int .i64 10)],none⟩,⟨some 4,.mov,[.t 5],none⟩]
def Zhk : List Z2b := [
 ⟨some 6,(.bin .eql),[.t 3,.c (.int .i64 11)],none⟩,⟨some 4,.mov,[.t 6],none⟩]
def Zhl : List Z2b := [
 ⟨some 8,(.bin .eql),[.t 3,.c (.int .i64 12)],none⟩,⟨some 7,.mov,[.t 8],none⟩]
def Zhm : List Z2b := [
 ⟨some 9,(.bin .eql),[.t 3,.c (.int .i64 13)],none⟩,⟨some 7,.mov,[.t 9],none⟩]
def Zhn : List Z2b := [
 ⟨some 2,.mov,[.c (.bool false)],none⟩]
def Zho : List Z2b := [
 ⟨some 2,.mov,[.c (.bool true)],none⟩]
def Zhp : Z2z := ⟨10,(.seq (.region Zhh [0]) (.seq (.seq (.region Zhi [3]) (.block 0 (.seq (.block 2 (.block 1 (.seq (.seq (.seq (.seq (.region Zhj [3,4]) (.cond (.t 4) .skip (.region Zhk [3,4]))) (.cond (.t 4) (.exit 1) .skip)) (.seq (.seq (.region Zhl [3,7]) (.cond (.t 7) .skip (.region Zhm [7]))) (.cond (.t 7) (.exit 2) .skip))) (.exit 0)))) (.seq (.seq (.region Zhn [2]) .ret) (.exit 0))))) (.seq (.region Zho [2]) .ret))),[.t 2]⟩
def Zhq : List Z2b := [
 ⟨some 1,(.box 6),[.t 0],none⟩,⟨some 2,.mov,[.c (.int .i64 0)],none⟩]
def Zhr : List Z2b := [
 ⟨some 8,(.fad 0),[.t 1],none⟩,⟨some 9,(.load false 1),[.t 8],none⟩,⟨some 10,(.bin .eql),[.t 9,.c (.int .i64 5)],none⟩,⟨some 11,.mov,[.t 10],none⟩,⟨some 12,(.fad 0),[.t 1],some (11,false)⟩,⟨some 13,(.load false 1),[.t 12],some (11,false)⟩,⟨some 14,(.bin .eql),[.t 13,.c (.int .i64 6)],some (11,false)⟩,⟨some 15,.pick,[.t 11,.c (.bool true),.t 14],none⟩]
def Zhs : List Z2b := [
 ⟨some 2,.mov,[.c (.int .i64 5)],none⟩]
def Zht : List Z2b := [
 ⟨some 16,(.fad 0),[.t 1],none⟩,⟨some 17,(.load false 1),[.t 16],none⟩,⟨some 18,(.bin .lss),[.t 17,.c (.int .i64 0)],none⟩,⟨some 19,.mov,[.t 18],none⟩,⟨some 20,(.fad 0),[.t 1],some (19,false)⟩,⟨some 21,(.load false 1),[.t 20],some (19,false)⟩,⟨some 22,(.bin .gtr),[.t 21,.c (.int .i64 17)],some (19,false)⟩,⟨some 23,.pick,[.t 19,.c (.bool true),.t 22],none⟩]
def Zhu : List Z2b := [
 ⟨some 2,.mov,[.c (.int .i64 1)],none⟩]
def Zhv : List Z2b := [
 ⟨some 24,(.fad 2),[.t 1],none⟩,⟨some 25,(.load false 1),[.t 24],none⟩,⟨some 26,.lens,[.t 25],none⟩,⟨some 3,.mov,[.t 26],none⟩]
def Zhw : List Z2b := [
 ⟨some 27,.mov,[.t 3],none⟩,⟨some 28,(.bin .eql),[.t 27,.c (.int .i64 0)],none⟩,⟨some 4,.mov,[.t 28],none⟩]
def Zhx : List Z2b := [
 ⟨some 29,(.fad 0),[.t 1],none⟩,⟨some 30,(.load false 1),[.t 29],none⟩]
def Zhy : List Z2b := [
 ⟨some 32,(.bin .eql),[.t 30,.c (.int .i64 10)],none⟩,⟨some 31,.mov,[.t 32],none⟩]
def Zhz : List Z2b := [
 ⟨some 33,.mov,[.t 3],none⟩,⟨some 34,(.bin .eql),[.t 33,.c (.int .i64 1)],none⟩,⟨some 4,.mov,[.t 34],none⟩]
def Zi0 : List Z2b := [
 ⟨some 36,(.bin .eql),[.t 30,.c (.int .i64 11)],none⟩,⟨some 35,.mov,[.t 36],none⟩]
def Zi1 : List Z2b := [
 ⟨some 37,.mov,[.t 3],none⟩,⟨some 38,(.bin .eql),[.t 37,.c (.int .i64 2)],none⟩,⟨some 4,.mov,[.t 38],none⟩]
def Zi2 : List Z2b := [
 ⟨some 40,(.bin .eql),[.t 30,.c (.int .i64 12)],none⟩,⟨some 39,.mov,[.t 40],none⟩]
def Zi3 : List Z2b := [
 ⟨some 41,.mov,[.t 3],none⟩,⟨some 42,(.fad 1),[.t 1],none⟩,⟨some 43,(.load false 1),[.t 42],none⟩,⟨some 44,.lens,[.t 43],none⟩,⟨some 45,(.bin .eql),[.t 41,.t 44],none⟩,⟨some 4,.mov,[.t 45],none⟩]
def Zi4 : List Z2b := [
 ⟨some 47,(.bin .eql),[.t 30,.c (.int .i64 13)],none⟩,⟨some 46,.mov,[.t 47],none⟩]
def Zi5 : List Z2b := [
 ⟨some 48,.mov,[.t 3],none⟩,⟨some 49,(.bin .geq),[.t 48,.c (.int .i64 1)],none⟩,⟨some 50,.mov,[.t 49],none⟩,⟨some 51,.mov,[.t 3],some (50,true)⟩,⟨some 52,(.bin .leq),[.t 51,.c (.int .i64 255)],some (50,true)⟩,⟨some 53,.pick,[.t 50,.t 52,.c (.bool false)],none⟩,⟨some 4,.mov,[.t 53],none⟩]
def Zi6 : List Z2b := [
 ⟨some 54,.mov,[.t 4],none⟩,⟨some 55,.unot,[.t 54],none⟩,⟨some 56,.mov,[.t 55],none⟩,⟨some 57,(.fad 0),[.t 1],some (56,false)⟩,⟨some 58,(.load false 1),[.t 57],some (56,false)⟩,⟨some 59,(.bin .neq),[.t 58,.c (.int .i64 12)],some (56,false)⟩,⟨some 60,.mov,[.t 59],some (56,false)⟩,⟨some 61,(.fad 1),[.t 1],some (60,true)⟩,⟨some 62,(.load false 1),[.t 61],some (60,true)⟩,⟨some 63,.lens,[.t 62],some (60,true)⟩,⟨some 64,(.bin .gtr),[.t 63,.c (.int .i64 0)],some (60,true)⟩,⟨some 65,.pick,[.t 60,.t 64,.c (.bool false)],some (56,false)⟩,⟨some 66,.pick,[.t 56,.c (.bool true),.t 65],none⟩]
def Zi7 : List Z2b := [
 ⟨some 2,.mov,[.c (.int .i64 1)],none⟩]
def Zi8 : List Z2b := [
 ⟨some 5,.mov,[.c (.int .i64 0)],none⟩]
def Zi9 : List Z2b := [
 ⟨some 67,.mov,[.t 5],none⟩,⟨some 68,(.fad 1),[.t 1],none⟩,⟨some 69,(.load false 1),[.t 68],none⟩,⟨some 70,.lens,[.t 69],none⟩,⟨some 71,(.bin .lss),[.t 67,.t 70],none⟩]
def Zia : List Z2b := [
 ⟨some 74,(.fad 1),[.t 1],none⟩,⟨some 75,(.load false 1),[.t 74],none⟩,⟨some 76,.mov,[.t 5],none⟩,⟨some 77,(.iad 1),[.t 75,.t 76],none⟩,⟨some 78,(.load false 1),[.t 77],none⟩,⟨some 79,(.bin .eql),[.t 78,.c (.str [])],none⟩,⟨some 80,.mov,[.t 79],none⟩,⟨some 81,(.fad 1),[.t 1],some (80,false)⟩,⟨some 82,(.load false 1),[.t 81],some (80,false)⟩,⟨some 83,.mov,[.t 5],some (80,false)⟩,⟨some 84,(.iad 1),[.t 82,.t 83],some (80,false)⟩,⟨some 85,(.load false 1),[.t 84],some (80,false)⟩,⟨some 86,.lent,[.t 85],some (80,false)⟩,⟨some 87,(.bin .gtr),[.t 86,.c (.int .i64 100)],some (80,false)⟩,⟨some 88,.pick,[.t 80,.c (.bool true),.t 87],none⟩]
def Zib : List Z2b := [
 ⟨some 2,.mov,[.c (.int .i64 1)],none⟩]
def Zic : List Z2b := [
 ⟨some 6,.mov,[.c (.int .i64 0)],none⟩]
def Zid : List Z2b := [
 ⟨some 89,.mov,[.t 6],none⟩,⟨some 90,.mov,[.t 5],none⟩,⟨some 91,(.bin .lss),[.t 89,.t 90],none⟩]
def Zie : List Z2b := [
 ⟨some 94,(.fad 1),[.t 1],none⟩,⟨some 95,(.load false 1),[.t 94],none⟩,⟨some 96,.mov,[.t 6],none⟩,⟨some 97,(.iad 1),[.t 95,.t 96],none⟩,⟨some 98,(.load false 1),[.t 97],none⟩,⟨some 99,(.fad 1),[.t 1],none⟩,⟨some 100,(.load false 1),[.t 99],none⟩,⟨some 101,.mov,[.t 5],none⟩,⟨some 102,(.iad 1),[.t 100,.t 101],none⟩,⟨some 103,(.load false 1),[.t 102],none⟩,⟨some 104,(.bin .eql),[.t 98,.t 103],none⟩]
def Zif : List Z2b := [
 ⟨some 2,.mov,[.c (.int .i64 1)],none⟩]
def Zig : List Z2b := [
 ⟨some 92,.mov,[.t 6],none⟩,⟨some 93,(.bin .add),[.t 92,.c (.int .i64 1)],none⟩,⟨some 6,.mov,[.t 93],none⟩]
def Zih : Z2c := (.seq (.seq (.region Zid [1,5,6,81,82,83,84,85,86,87,91,109,110,111,115,116,117,118,119,120,121,122,125,126,127,128,129,130,131,140,141,142,145,146,147,150,151,152,153,154,160,161,162]) (.cond (.t 91) .skip (.exit 3))) (.seq (.block 4 (.seq (.region Zie [1,5,6,81,82,83,84,85,86,87,104,109,110,111,115,116,117,118,119,120,121,122,125,126,127,128,129,130,131,140,141,142,145,146,147,150,151,152,153,154,160,161,162]) (.cond (.t 104) (.seq (.region Zif [2]) .ret) .skip))) (.region Zig [1,5,6,81,82,83,84,85,86,87,109,110,111,115,116,117,118,119,120,121,122,125,126,127,128,129,130,131,140,141,142,145,146,147,150,151,152,153,154,160,161,162])))
def Zii : List Z2b := [
 ⟨some 72,.mov,[.t 5],none⟩,⟨some 73,(.bin .add),[.t 72,.c (.int .i64 1)],none⟩,⟨some 5,.mov,[.t 73],none⟩]
def Zij : Z2c := (.seq (.seq (.region Zi9 [1,5,71,81,82,83,84,85,86,87,109,110,111,115,116,117,118,119,120,121,122,125,126,127,128,129,130,131,140,141,142,145,146,147,150,151,152,153,154,160,161,162]) (.cond (.t 71) .skip (.exit 1))) (.seq (.block 2 (.seq (.seq (.region Zia [1,5,81,82,83,84,85,86,87,88,109,110,111,115,116,117,118,119,120,121,122,125,126,127,128,129,130,131,140,141,142,145,146,147,150,151,152,153,154,160,161,162]) (.cond (.t 88) (.seq (.region Zib [2]) .ret) .skip)) (.seq (.region Zic [1,5,6,81,82,83,84,85,86,87,109,110,111,115,116,117,118,119,120,121,122,125,126,127,128,129,130,131,140,141,142,145,146,147,150,151,152,153,154,160,161,162]) (.block 3 (.loop Zih))))) (.region Zii [1,5,81,82,83,84,85,86,87,109,110,111,115,116,117,118,119,120,121,122,125,126,127,128,129,130,131,140,141,142,145,146,147,150,151,152,153,154,160,161,162])))
def Zik : List Z2b := [
 ⟨some 105,(.fad 0),[.t 1],none⟩,⟨some 106,(.load false 1),[.t 105],none⟩,⟨some 107,(.bin .eql),[.t 106,.c (.int .i64 16)],none⟩,⟨some 108,.mov,[.t 107],none⟩,⟨some 109,(.fad 0),[.t 1],some (108,false)⟩,⟨some 110,(.load false 1),[.t 109],some (108,false)⟩,⟨some 111,(.bin .eql),[.t 110,.c (.int .i64 17)],some (108,false)⟩,⟨some 112,.pick,[.t 108,.c (.bool true),.t 111],none⟩,⟨some 7,.mov,[.t 112],none⟩]
def Zil : List Z2b := [
 ⟨some 113,.mov,[.t 7],none⟩,⟨some 114,.mov,[.t 113],none⟩,⟨some 115,(.fad 3),[.t 1],some (114,true)⟩,⟨some 116,(.load false 1),[.t 115],some (114,true)⟩,⟨some 117,(.bin .lss),[.t 116,.c (.int .i64 1)],some (114,true)⟩,⟨some 118,.mov,[.t 117],some (114,true)⟩,⟨some 119,(.fad 3),[.t 1],some (118,false)⟩,⟨some 120,(.load false 1),[.t 119],some (118,false)⟩,⟨some 121,(.bin .gtr),[.t 120,.c (.int .i64 4096)],some (118,false)⟩,⟨some 122,.pick,[.t 118,.c (.bool true),.t 121],some (114,true)⟩,⟨some 123,.pick,[.t 114,.t 122,.c (.bool false)],none⟩,⟨some 124,.mov,[.t 123],none⟩,⟨some 125,.mov,[.t 7],some (124,false)⟩,⟨some 126,.unot,[.t 125],some (124,false)⟩,⟨some 127,.mov,[.t 126],some (124,false)⟩,⟨some 128,(.fad 3),[.t 1],some (127,true)⟩,⟨some 129,(.load false 1),[.t 128],some (127,true)⟩,⟨some 130,(.bin .neq),[.t 129,.c (.int .i64 0)],some (127,true)⟩,⟨some 131,.pick,[.t 127,.t 130,.c (.bool false)],some (124,false)⟩,⟨some 132,.pick,[.t 124,.c (.bool true),.t 131],none⟩]
def Zim : List Z2b := [
 ⟨some 2,.mov,[.c (.int .i64 1)],none⟩]
def Zin : List Z2b := [
 ⟨some 133,(.fad 0),[.t 1],none⟩,⟨some 134,(.load false 1),[.t 133],none⟩,⟨some 135,(.bin .eql),[.t 134,.c (.int .i64 14)],none⟩]
def Zio : List Z2b := [
 ⟨some 136,(.fad 4),[.t 1],none⟩,⟨some 137,(.load false 1),[.t 136],none⟩,⟨some 138,(.bin .lss),[.t 137,.c (.int .i64 1)],none⟩,⟨some 139,.mov,[.t 138],none⟩,⟨some 140,(.fad 4),[.t 1],some (139,false)⟩,⟨some 141,(.load false 1),[.t 140],some (139,false)⟩,⟨some 142,(.bin .gtr),[.t 141,.c (.int .i64 18)],some (139,false)⟩,⟨some 143,.pick,[.t 139,.c (.bool true),.t 142],none⟩,⟨some 144,.mov,[.t 143],none⟩,⟨some 145,(.fad 5),[.t 1],some (144,false)⟩,⟨some 146,(.load false 1),[.t 145],some (144,false)⟩,⟨some 147,(.bin .lss),[.t 146,.c (.int .i64 0)],some (144,false)⟩,⟨some 148,.pick,[.t 144,.c (.bool true),.t 147],none⟩,⟨some 149,.mov,[.t 148],none⟩,⟨some 150,(.fad 5),[.t 1],some (149,false)⟩,⟨some 151,(.load false 1),[.t 150],some (149,false)⟩,⟨some 152,(.fad 4),[.t 1],some (149,false)⟩,⟨some 153,(.load false 1),[.t 152],some (149,false)⟩,⟨some 154,(.bin .gtr),[.t 151,.t 153],some (149,false)⟩,⟨some 155,.pick,[.t 149,.c (.bool true),.t 154],none⟩]
def Zip : List Z2b := [
 ⟨some 2,.mov,[.c (.int .i64 1)],none⟩]
def Ziq : List Z2b := [
 ⟨some 156,(.fad 4),[.t 1],none⟩,⟨some 157,(.load false 1),[.t 156],none⟩,⟨some 158,(.bin .neq),[.t 157,.c (.int .i64 0)],none⟩,⟨some 159,.mov,[.t 158],none⟩,⟨some 160,(.fad 5),[.t 1],some (159,false)⟩,⟨some 161,(.load false 1),[.t 160],some (159,false)⟩,⟨some 162,(.bin .neq),[.t 161,.c (.int .i64 0)],some (159,false)⟩,⟨some 163,.pick,[.t 159,.c (.bool true),.t 162],none⟩]
def Zir : List Z2b := [
 ⟨some 2,.mov,[.c (.int .i64 1)],none⟩]
def Zis : List Z2b := [
 ⟨some 2,.mov,[.c (.int .i64 0)],none⟩]
def Zit : Z2z := ⟨164,(.seq (.region Zhq [1,12,13,14,20,21,22,51,52,57,58,59,60,61,62,63,64,65,81,82,83,84,85,86,87,109,110,111,115,116,117,118,119,120,121,122,125,126,127,128,129,130,131,140,141,142,145,146,147,150,151,152,153,154,160,161,162]) (.seq (.seq (.region Zhr [1,15,20,21,22,51,52,57,58,59,60,61,62,63,64,65,81,82,83,84,85,86,87,109,110,111,115,116,117,118,119,120,121,122,125,126,127,128,129,130,131,140,141,142,145,146,147,150,151,152,153,154,160,161,162]) (.cond (.t 15) (.seq (.region Zhs [2]) .ret) .skip)) (.seq (.seq (.region Zht [1,23,51,52,57,58,59,60,61,62,63,64,65,81,82,83,84,85,86,87,109,110,111,115,116,117,118,119,120,121,122,125,126,127,128,129,130,131,140,141,142,145,146,147,150,151,152,153,154,160,161,162]) (.cond (.t 23) (.seq (.region Zhu [2]) .ret) .skip)) (.seq (.region Zhv [1,3,51,52,57,58,59,60,61,62,63,64,65,81,82,83,84,85,86,87,109,110,111,115,116,117,118,119,120,121,122,125,126,127,128,129,130,131,140,141,142,145,146,147,150,151,152,153,154,160,161,162]) (.seq (.region Zhw [1,3,4,51,52,57,58,59,60,61,62,63,64,65,81,82,83,84,85,86,87,109,110,111,115,116,117,118,119,120,121,122,125,126,127,128,129,130,131,140,141,142,145,146,147,150,151,152,153,154,160,161,162]) (.seq (.seq (.region Zhx [1,3,4,30,51,52,57,58,59,60,61,62,63,64,65,81,82,83,84,85,86,87,109,110,111,115,116,117,118,119,120,121,122,125,126,127,128,129,130,131,140,141,142,145,146,147,150,151,152,153,154,160,161,162]) (.block 0 (.seq (.region Zhy [1,3,4,30,31,51,52,57,58,59,60,61,62,63,64,65,81,82,83,84,85,86,87,109,110,111,115,116,117,118,119,120,121,122,125,126,127,128,129,130,131,140,141,142,145,146,147,150,151,152,153,154,160,161,162]) (.cond (.t 31) (.region Zhz [1,4,57,58,59,60,61,62,63,64,65,81,82,83,84,85,86,87,109,110,111,115,116,117,118,119,120,121,122,125,126,127,128,129,130,131,140,141,142,145,146,147,150,151,152,153,154,160,161,162]) (.seq (.region Zi0 [1,3,4,30,35,51,52,57,58,59,60,61,62,63,64,65,81,82,83,84,85,86,87,109,110,111,115,116,117,118,119,120,121,122,125,126,127,128,129,130,131,140,141,142,145,146,147,150,151,152,153,154,160,161,162]) (.cond (.t 35) (.region Zi1 [1,4,57,58,59,60,61,62,63,64,65,81,82,83,84,85,86,87,109,110,111,115,116,117,118,119,120,121,122,125,126,127,128,129,130,131,140,141,142,145,146,147,150,151,152,153,154,160,161,162]) (.seq (.region Zi2 [1,3,4,30,39,51,52,57,58,59,60,61,62,63,64,65,81,82,83,84,85,86,87,109,110,111,115,116,117,118,119,120,121,122,125,126,127,128,129,130,131,140,141,142,145,146,147,150,151,152,153,154,160,161,162]) (.cond (.t 39) (.region Zi3 [1,4,57,58,59,60,61,62,63,64,65,81,82,83,84,85,86,87,109,110,111,115,116,117,118,119,120,121,122,125,126,127,128,129,130,131,140,141,142,145,146,147,150,151,152,153,154,160,161,162]) (.seq (.region Zi4 [1,3,4,46,51,52,57,58,59,60,61,62,63,64,65,81,82,83,84,85,86,87,109,110,111,115,116,117,118,119,120,121,122,125,126,127,128,129,130,131,140,141,142,145,146,147,150,151,152,153,154,160,161,162]) (.cond (.t 46) (.region Zi5 [1,4,57,58,59,60,61,62,63,64,65,81,82,83,84,85,86,87,109,110,111,115,116,117,118,119,120,121,122,125,126,127,128,129,130,131,140,141,142,145,146,147,150,151,152,153,154,160,161,162]) .skip)))))))))) (.seq (.seq (.region Zi6 [1,66,81,82,83,84,85,86,87,109,110,111,115,116,117,118,119,120,121,122,125,126,127,128,129,130,131,140,141,142,145,146,147,150,151,152,153,154,160,161,162]) (.cond (.t 66) (.seq (.region Zi7 [2]) .ret) .skip)) (.seq (.seq (.region Zi8 [1,5,81,82,83,84,85,86,87,109,110,111,115,116,117,118,119,120,121,122,125,126,127,128,129,130,131,140,141,142,145,146,147,150,151,152,153,154,160,161,162]) (.block 1 (.loop Zij))) (.seq (.region Zik [1,7,115,116,117,118,119,120,121,122,125,126,127,128,129,130,131,140,141,142,145,146,147,150,151,152,153,154,160,161,162]) (.seq (.seq (.region Zil [1,132,140,141,142,145,146,147,150,151,152,153,154,160,161,162]) (.cond (.t 132) (.seq (.region Zim [2]) .ret) .skip)) (.seq (.seq (.region Zin [1,135,140,141,142,145,146,147,150,151,152,153,154,160,161,162]) (.cond (.t 135) (.seq (.region Zio [155]) (.cond (.t 155) (.seq (.region Zip [2]) .ret) .skip)) (.seq (.region Ziq [163]) (.cond (.t 163) (.seq (.region Zir [2]) .ret) .skip)))) (.seq (.region Zis [2]) .ret)))))))))))),[.t 2]⟩
def Ziu : List Z2b := [
 ⟨some 1,(.box 6),[.t 0],none⟩,⟨some 2,.mov,[.c (.bool false)],none⟩]
def Ziv : List Z2b := [
 ⟨some 3,.mov,[.c (.int .i64 0)],none⟩,⟨some 4,.mov,[.c (.int .i64 0)],none⟩,⟨some 5,.mov,[.c (.int .i64 0)],none⟩,⟨some 6,.mov,[.c (.bool false)],none⟩]
def Ziw : List Z2b := [
 ⟨some 7,(.fad 0),[.t 1],none⟩,⟨some 8,(.load false 1),[.t 7],none⟩]
def Zix : List Z2b := [
 ⟨some 10,(.bin .eql),[.t 8,.c (.int .i64 11)],none⟩,⟨some 9,.mov,[.t 10],none⟩]
def Ziy : List Z2b := [
 ⟨some 12,(.bin .eql),[.t 8,.c (.int .i64 10)],none⟩,⟨some 11,.mov,[.t 12],none⟩]
def Ziz : List Z2b := [
 ⟨some 14,(.bin .eql),[.t 8,.c (.int .i64 12)],none⟩,⟨some 13,.mov,[.t 14],none⟩]
def Zj0 : List Z2b := [
 ⟨some 16,(.bin .eql),[.t 8,.c (.int .i64 13)],none⟩,⟨some 15,.mov,[.t 16],none⟩]
def Zj1 : List Z2b := [
 ⟨some 18,(.bin .eql),[.t 8,.c (.int .i64 16)],none⟩,⟨some 17,.mov,[.t 18],none⟩]
def Zj2 : List Z2b := [
 ⟨some 19,(.bin .eql),[.t 8,.c (.int .i64 17)],none⟩,⟨some 17,.mov,[.t 19],none⟩]
def Zj3 : List Z2b := [
 ⟨some 21,(.bin .eql),[.t 8,.c (.int .i64 14)],none⟩,⟨some 20,.mov,[.t 21],none⟩]
def Zj4 : List Z2b := [
 ⟨some 22,.mov,[.t 3],none⟩,⟨some 23,(.bin .add),[.t 22,.c (.int .i64 1)],none⟩,⟨some 3,.mov,[.t 23],none⟩]
def Zj5 : List Z2b := [
 ⟨some 24,.mov,[.t 3],none⟩,⟨some 25,(.bin .add),[.t 24,.c (.int .i64 1)],none⟩,⟨some 3,.mov,[.t 25],none⟩]
def Zj6 : List Z2b := [
 ⟨some 26,(.fad 1),[.t 1],none⟩,⟨some 27,(.load false 1),[.t 26],none⟩,⟨some 28,.lens,[.t 27],none⟩,⟨some 29,(.fad 1),[.t 1],none⟩,⟨some 30,(.load false 1),[.t 29],none⟩,⟨some 31,.lens,[.t 30],none⟩,⟨some 3,.mov,[.t 28],none⟩,⟨some 4,.mov,[.t 31],none⟩]
def Zj7 : List Z2b := [
 ⟨some 32,(.fad 2),[.t 1],none⟩,⟨some 33,(.load false 1),[.t 32],none⟩,⟨some 34,.lens,[.t 33],none⟩,⟨some 3,.mov,[.t 34],none⟩]
def Zj8 : List Z2b := [
 ⟨some 35,.mov,[.t 3],none⟩,⟨some 36,(.bin .lss),[.t 35,.c (.int .i64 1)],none⟩,⟨some 37,.mov,[.t 36],none⟩,⟨some 38,.mov,[.t 3],some (37,false)⟩,⟨some 39,(.bin .gtr),[.t 38,.c (.int .i64 255)],some (37,false)⟩,⟨some 40,.pick,[.t 37,.c (.bool true),.t 39],none⟩]
def Zj9 : List Z2b := [
 ⟨some 2,.mov,[.c (.bool false)],none⟩]
def Zja : List Z2b := [
 ⟨some 41,(.fad 3),[.t 1],none⟩,⟨some 42,(.load false 1),[.t 41],none⟩,⟨some 5,.mov,[.t 42],none⟩]
def Zjb : List Z2b := [
 ⟨some 43,.mov,[.t 5],none⟩,⟨some 44,(.bin .lss),[.t 43,.c (.int .i64 1)],none⟩,⟨some 45,.mov,[.t 44],none⟩,⟨some 46,.mov,[.t 5],some (45,false)⟩,⟨some 47,(.bin .gtr),[.t 46,.c (.int .i64 4096)],some (45,false)⟩,⟨some 48,.pick,[.t 45,.c (.bool true),.t 47],none⟩]
def Zjc : List Z2b := [
 ⟨some 2,.mov,[.c (.bool false)],none⟩]
def Zjd : List Z2b := [
 ⟨some 6,.mov,[.c (.bool true)],none⟩]
def Zje : List Z2b := [
 ⟨some 49,(.fad 2),[.t 1],none⟩,⟨some 50,(.load false 1),[.t 49],none⟩,⟨some 51,.lens,[.t 50],none⟩,⟨some 52,.mov,[.t 3],none⟩,⟨some 53,(.bin .neq),[.t 51,.t 52],none⟩,⟨some 54,.mov,[.t 53],none⟩,⟨some 55,(.fad 1),[.t 1],some (54,false)⟩,⟨some 56,(.load false 1),[.t 55],some (54,false)⟩,⟨some 57,.lens,[.t 56],some (54,false)⟩,⟨some 58,.mov,[.t 4],some (54,false)⟩,⟨some 59,(.bin .neq),[.t 57,.t 58],some (54,false)⟩,⟨some 60,.pick,[.t 54,.c (.bool true),.t 59],none⟩,⟨some 61,.mov,[.t 60],none⟩,⟨some 62,(.fad 3),[.t 1],some (61,false)⟩,⟨some 63,(.load false 1),[.t 62],some (61,false)⟩,⟨some 64,.mov,[.t 5],some (61,false)⟩,⟨some 65,(.bin .neq),[.t 63,.t 64],some (61,false)⟩,⟨some 66,.pick,[.t 61,.c (.bool true),.t 65],none⟩,⟨some 67,.mov,[.t 66],none⟩,⟨some 68,(.fad 1),[.t 1],some (67,false)⟩,⟨some 69,(.load false 1),[.t 68],some (67,false)⟩,⟨some 70,(.call Zfr),[.t 69],some (67,false)⟩,⟨some 71,.unot,[.t 70],some (67,false)⟩,⟨some 72,.pick,[.t 67,.c (.bool true),.t 71],none⟩]
def Zjf : List Z2b := [
 ⟨some 2,.mov,[.c (.bool false)],none⟩]
def Zjg : List Z2b := [
 ⟨some 73,.mov,[.t 6],none⟩]
def Zjh : List Z2b := [
 ⟨some 74,(.fad 4),[.t 1],none⟩,⟨some 75,(.load false 1),[.t 74],none⟩,⟨some 76,(.bin .geq),[.t 75,.c (.int .i64 1)],none⟩,⟨some 77,.mov,[.t 76],none⟩,⟨some 78,(.fad 4),[.t 1],some (77,true)⟩,⟨some 79,(.load false 1),[.t 78],some (77,true)⟩,⟨some 80,(.bin .leq),[.t 79,.c (.int .i64 18)],some (77,true)⟩,⟨some 81,.pick,[.t 77,.t 80,.c (.bool false)],none⟩,⟨some 82,.mov,[.t 81],none⟩,⟨some 83,(.fad 5),[.t 1],some (82,true)⟩,⟨some 84,(.load false 1),[.t 83],some (82,true)⟩,⟨some 85,(.bin .geq),[.t 84,.c (.int .i64 0)],some (82,true)⟩,⟨some 86,.pick,[.t 82,.t 85,.c (.bool false)],none⟩,⟨some 87,.mov,[.t 86],none⟩,⟨some 88,(.fad 5),[.t 1],some (87,true)⟩,⟨some 89,(.load false 1),[.t 88],some (87,true)⟩,⟨some 90,(.fad 4),[.t 1],some (87,true)⟩,⟨some 91,(.load false 1),[.t 90],some (87,true)⟩,⟨some 92,(.bin .leq),[.t 89,.t 91],some (87,true)⟩,⟨some 93,.pick,[.t 87,.t 92,.c (.bool false)],none⟩,⟨some 2,.mov,[.t 93],none⟩]
def Zji : List Z2b := [
 ⟨some 94,(.fad 4),[.t 1],none⟩,⟨some 95,(.load false 1),[.t 94],none⟩,⟨some 96,(.bin .eql),[.t 95,.c (.int .i64 0)],none⟩,⟨some 97,.mov,[.t 96],none⟩,⟨some 98,(.fad 5),[.t 1],some (97,true)⟩,⟨some 99,(.load false 1),[.t 98],some (97,true)⟩,⟨some 100,(.bin .eql),[.t 99,.c (.int .i64 0)],some (97,true)⟩,⟨some 101,.pick,[.t 97,.t 100,.c (.bool false)],none⟩,⟨some 2,.mov,[.t 101],none⟩]
def Zjj : Z2z := ⟨102,(.seq (.region Ziu [1,38,39,46,47,55,56,57,58,59,62,63,64,65,68,69,70,71,78,79,80,83,84,85,88,89,90,91,92,98,99,100]) (.seq (.region Ziv [1,3,4,5,6,38,39,46,47,55,56,57,58,59,62,63,64,65,68,69,70,71,78,79,80,83,84,85,88,89,90,91,92,98,99,100]) (.seq (.seq (.region Ziw [1,3,4,5,6,8,38,39,46,47,55,56,57,58,59,62,63,64,65,68,69,70,71,78,79,80,83,84,85,88,89,90,91,92,98,99,100]) (.block 0 (.seq (.block 6 (.seq (.block 5 (.seq (.block 4 (.seq (.block 3 (.seq (.block 2 (.seq (.block 1 (.seq (.seq (.seq (.region Zix [1,3,4,5,6,8,9,38,39,46,47,55,56,57,58,59,62,63,64,65,68,69,70,71,78,79,80,83,84,85,88,89,90,91,92,98,99,100]) (.cond (.t 9) (.exit 1) .skip)) (.seq (.seq (.region Ziy [1,3,4,5,6,8,11,38,39,46,47,55,56,57,58,59,62,63,64,65,68,69,70,71,78,79,80,83,84,85,88,89,90,91,92,98,99,100]) (.cond (.t 11) (.exit 2) .skip)) (.seq (.seq (.region Ziz [1,3,4,5,6,8,13,38,39,46,47,55,56,57,58,59,62,63,64,65,68,69,70,71,78,79,80,83,84,85,88,89,90,91,92,98,99,100]) (.cond (.t 13) (.exit 3) .skip)) (.seq (.seq (.region Zj0 [1,3,4,5,6,8,15,38,39,46,47,55,56,57,58,59,62,63,64,65,68,69,70,71,78,79,80,83,84,85,88,89,90,91,92,98,99,100]) (.cond (.t 15) (.exit 4) .skip)) (.seq (.seq (.seq (.region Zj1 [1,3,4,5,6,8,17,46,47,55,56,57,58,59,62,63,64,65,68,69,70,71,78,79,80,83,84,85,88,89,90,91,92,98,99,100]) (.cond (.t 17) .skip (.region Zj2 [1,3,4,5,6,8,17,46,47,55,56,57,58,59,62,63,64,65,68,69,70,71,78,79,80,83,84,85,88,89,90,91,92,98,99,100]))) (.cond (.t 17) (.exit 5) .skip)) (.seq (.region Zj3 [1,3,4,5,6,20,55,56,57,58,59,62,63,64,65,68,69,70,71,78,79,80,83,84,85,88,89,90,91,92,98,99,100]) (.cond (.t 20) (.exit 6) .skip))))))) (.exit 0))) (.region Zj4 [1,3,4,5,6,55,56,57,58,59,62,63,64,65,68,69,70,71,78,79,80,83,84,85,88,89,90,91,92,98,99,100]))) (.seq (.region Zj5 [1,3,4,5,6,55,56,57,58,59,62,63,64,65,68,69,70,71,78,79,80,83,84,85,88,89,90,91,92,98,99,100]) (.exit 0)))) (.seq (.region Zj6 [1,3,4,5,6,55,56,57,58,59,62,63,64,65,68,69,70,71,78,79,80,83,84,85,88,89,90,91,92,98,99,100]) (.exit 0)))) (.seq (.seq (.region Zj7 [1,3,4,5,6,38,39,55,56,57,58,59,62,63,64,65,68,69,70,71,78,79,80,83,84,85,88,89,90,91,92,98,99,100]) (.seq (.region Zj8 [1,3,4,5,6,40,55,56,57,58,59,62,63,64,65,68,69,70,71,78,79,80,83,84,85,88,89,90,91,92,98,99,100]) (.cond (.t 40) (.seq (.region Zj9 [2]) .ret) .skip))) (.exit 0)))) (.seq (.seq (.region Zja [1,3,4,5,6,46,47,55,56,57,58,59,62,63,64,65,68,69,70,71,78,79,80,83,84,85,88,89,90,91,92,98,99,100]) (.seq (.region Zjb [1,3,4,5,6,48,55,56,57,58,59,62,63,64,65,68,69,70,71,78,79,80,83,84,85,88,89,90,91,92,98,99,100]) (.cond (.t 48) (.seq (.region Zjc [2]) .ret) .skip))) (.exit 0)))) (.seq (.region Zjd [1,3,4,5,6,55,56,57,58,59,62,63,64,65,68,69,70,71,78,79,80,83,84,85,88,89,90,91,92,98,99,100]) (.exit 0))))) (.seq (.seq (.region Zje [1,6,72,78,79,80,83,84,85,88,89,90,91,92,98,99,100]) (.cond (.t 72) (.seq (.region Zjf [2]) .ret) .skip)) (.seq (.seq (.region Zjg [1,73,78,79,80,83,84,85,88,89,90,91,92,98,99,100]) (.cond (.t 73) (.seq (.region Zjh [2]) .ret) .skip)) (.seq (.region Zji [2]) .ret)))))),[.t 2]⟩
def Zjk : List Z2b := [
 ⟨some 2,.mov,[.c (.bool false)],none⟩]
def Zjl : List Z2b := [
 ⟨some 3,.mov,[.t 0],none⟩,⟨some 4,(.bin .eql),[.t 3,.c (.int .i64 7)],none⟩,⟨some 5,.mov,[.t 4],none⟩,⟨some 6,.mov,[.t 0],some (5,false)⟩,⟨some 7,(.bin .eql),[.t 6,.c (.int .i64 16)],some (5,false)⟩,⟨some 8,.pick,[.t 5,.c (.bool true),.t 7],none⟩,⟨some 9,.mov,[.t 8],none⟩,⟨some 10,.mov,[.t 0],some (9,false)⟩,⟨some 11,(.bin .eql),[.t 10,.c (.int .i64 17)],some (9,false)⟩,⟨some 12,.pick,[.t 9,.c (.bool true),.t 11],none⟩,⟨some 13,.mov,[.t 12],none⟩,⟨some 14,.mov,[.t 0],some (13,false)⟩,⟨some 15,(.bin .eql),[.t 14,.c (.int .i64 8)],some (13,false)⟩,⟨some 16,.pick,[.t 13,.c (.bool true),.t 15],none⟩,⟨some 2,.mov,[.t 16],none⟩]
def Zjm : Z2z := ⟨17,(.seq (.region Zjk [0,6,7,10,11,14,15]) (.seq (.region Zjl [2]) .ret)),[.t 2]⟩
def Zjn : List Z2b := [
 ⟨some 3,(.box 6),[.t 0],none⟩,⟨some 6,.mov,[.c (.bool false)],none⟩]
def Zjo : List Z2b := [
 ⟨some 7,.mov,[.t 2],none⟩,⟨some 8,(.bin .neq),[.t 7,.c (.int .i64 0)],none⟩,⟨some 9,.mov,[.t 8],none⟩,⟨some 10,(.fad 0),[.t 3],some (9,true)⟩,⟨some 11,(.load false 1),[.t 10],some (9,true)⟩,⟨some 12,(.bin .neq),[.t 11,.c (.int .i64 9)],some (9,true)⟩,⟨some 13,.pick,[.t 9,.t 12,.c (.bool false)],none⟩]
def Zjp : List Z2b := [
 ⟨some 6,.mov,[.c (.bool false)],none⟩]
def Zjq : List Z2b := [
 ⟨some 14,(.fad 0),[.t 3],none⟩,⟨some 15,(.load false 1),[.t 14],none⟩]
def Zjr : List Z2b := [
 ⟨some 17,(.bin .eql),[.t 15,.c (.int .i64 0)],none⟩,⟨some 16,.mov,[.t 17],none⟩]
def Zjs : List Z2b := [
 ⟨some 18,.mov,[.t 1],none⟩,⟨some 19,(.bin .eql),[.t 18,.c (.int .i64 0)],none⟩,⟨some 20,.mov,[.t 19],none⟩,⟨some 21,.mov,[.t 1],some (20,false)⟩,⟨some 22,(.bin .eql),[.t 21,.c (.int .i64 1)],some (20,false)⟩,⟨some 23,.pick,[.t 20,.c (.bool true),.t 22],none⟩,⟨some 6,.mov,[.t 23],none⟩]
def Zjt : List Z2b := [
 ⟨some 25,(.bin .eql),[.t 15,.c (.int .i64 1)],none⟩,⟨some 24,.mov,[.t 25],none⟩]
def Zju : List Z2b := [
 ⟨some 26,.mov,[.t 1],none⟩,⟨some 27,(.bin .geq),[.t 26,.c (.int .i64 (-128))],none⟩,⟨some 28,.mov,[.t 27],none⟩,⟨some 29,.mov,[.t 1],some (28,true)⟩,⟨some 30,(.bin .leq),[.t 29,.c (.int .i64 127)],some (28,true)⟩,⟨some 31,.pick,[.t 28,.t 30,.c (.bool false)],none⟩,⟨some 6,.mov,[.t 31],none⟩]
def Zjv : List Z2b := [
 ⟨some 33,(.bin .eql),[.t 15,.c (.int .i64 2)],none⟩,⟨some 32,.mov,[.t 33],none⟩]
def Zjw : List Z2b := [
 ⟨some 34,.mov,[.t 1],none⟩,⟨some 35,(.bin .geq),[.t 34,.c (.int .i64 (-32768))],none⟩,⟨some 36,.mov,[.t 35],none⟩,⟨some 37,.mov,[.t 1],some (36,true)⟩,⟨some 38,(.bin .leq),[.t 37,.c (.int .i64 32767)],some (36,true)⟩,⟨some 39,.pick,[.t 36,.t 38,.c (.bool false)],none⟩,⟨some 6,.mov,[.t 39],none⟩]
def Zjx : List Z2b := [
 ⟨some 41,(.bin .eql),[.t 15,.c (.int .i64 3)],none⟩,⟨some 40,.mov,[.t 41],none⟩]
def Zjy : List Z2b := [
 ⟨some 42,(.bin .eql),[.t 15,.c (.int .i64 15)],none⟩,⟨some 40,.mov,[.t 42],none⟩]
def Zjz : List Z2b := [
 ⟨some 43,.mov,[.t 1],none⟩,⟨some 44,(.bin .geq),[.t 43,.c (.int .i64 (-2147483648))],none⟩,⟨some 45,.mov,[.t 44],none⟩,⟨some 46,.mov,[.t 1],some (45,true)⟩,⟨some 47,(.bin .leq),[.t 46,.c (.int .i64 2147483647)],some (45,true)⟩,⟨some 48,.pick,[.t 45,.t 47,.c (.bool false)],none⟩,⟨some 6,.mov,[.t 48],none⟩]
def Zk0 : List Z2b := [
 ⟨some 50,(.bin .eql),[.t 15,.c (.int .i64 4)],none⟩,⟨some 49,.mov,[.t 50],none⟩]
def Zk1 : List Z2b := [
 ⟨some 6,.mov,[.c (.bool true)],none⟩]
def Zk2 : List Z2b := [
 ⟨some 52,(.bin .eql),[.t 15,.c (.int .i64 14)],none⟩,⟨some 51,.mov,[.t 52],none⟩]
def Zk3 : List Z2b := [
 ⟨some 53,.mov,[.t 1],none⟩,⟨some 54,(.callp Zex),[.t 53],none⟩,⟨some 55,(.fad 4),[.t 3],none⟩,⟨some 56,(.load false 1),[.t 55],none⟩,⟨some 57,(.bin .leq),[.t 54,.t 56],none⟩,⟨some 6,.mov,[.t 57],none⟩]
def Zk4 : List Z2b := [
 ⟨some 59,(.bin .eql),[.t 15,.c (.int .i64 9)],none⟩,⟨some 58,.mov,[.t 59],none⟩]
def Zk5 : List Z2b := [
 ⟨some 60,.mov,[.t 1],none⟩,⟨some 61,.mov,[.t 2],none⟩,⟨some 62,(.call Zey),[.t 60,.t 61],none⟩,⟨some 6,.mov,[.t 62],none⟩]
def Zk6 : List Z2b := [
 ⟨some 64,(.bin .eql),[.t 15,.c (.int .i64 13)],none⟩,⟨some 63,.mov,[.t 64],none⟩]
def Zk7 : List Z2b := [
 ⟨some 65,.mov,[.t 1],none⟩,⟨some 66,(.bin .geq),[.t 65,.c (.int .i64 0)],none⟩,⟨some 67,.mov,[.t 66],none⟩,⟨some 68,.mov,[.t 1],some (67,true)⟩,⟨some 69,(.fad 2),[.t 3],some (67,true)⟩,⟨some 70,(.load false 1),[.t 69],some (67,true)⟩,⟨some 71,.lens,[.t 70],some (67,true)⟩,⟨some 72,(.bin .lss),[.t 68,.t 71],some (67,true)⟩,⟨some 73,.pick,[.t 67,.t 72,.c (.bool false)],none⟩,⟨some 6,.mov,[.t 73],none⟩]
def Zk8 : List Z2b := [
 ⟨some 74,.mov,[.t 1],none⟩,⟨some 75,(.bin .eql),[.t 74,.c (.int .i64 0)],none⟩,⟨some 6,.mov,[.t 75],none⟩]
def Zk9 : Z2z := ⟨76,(.seq (.region Zjn [1,2,3,10,11,12,21,22,29,30,37,38,46,47,68,69,70,71,72]) (.seq (.seq (.region Zjo [1,2,3,13,21,22,29,30,37,38,46,47,68,69,70,71,72]) (.cond (.t 13) (.seq (.region Zjp [6]) .ret) .skip)) (.seq (.seq (.region Zjq [1,2,3,15,21,22,29,30,37,38,46,47,68,69,70,71,72]) (.block 0 (.seq (.region Zjr [1,2,3,15,16,21,22,29,30,37,38,46,47,68,69,70,71,72]) (.cond (.t 16) (.seq (.region Zjs [6]) .ret) (.seq (.region Zjt [1,2,3,15,24,29,30,37,38,46,47,68,69,70,71,72]) (.cond (.t 24) (.seq (.region Zju [6]) .ret) (.seq (.region Zjv [1,2,3,15,32,37,38,46,47,68,69,70,71,72]) (.cond (.t 32) (.seq (.region Zjw [6]) .ret) (.seq (.seq (.region Zjx [1,2,3,15,40,46,47,68,69,70,71,72]) (.cond (.t 40) .skip (.region Zjy [1,2,3,15,40,46,47,68,69,70,71,72]))) (.cond (.t 40) (.seq (.region Zjz [6]) .ret) (.seq (.region Zk0 [1,2,3,15,49,68,69,70,71,72]) (.cond (.t 49) (.seq (.region Zk1 [6]) .ret) (.seq (.region Zk2 [1,2,3,15,51,68,69,70,71,72]) (.cond (.t 51) (.seq (.region Zk3 [6]) .ret) (.seq (.region Zk4 [1,2,3,15,58,68,69,70,71,72]) (.cond (.t 58) (.seq (.region Zk5 [6]) .ret) (.seq (.region Zk6 [1,3,63,68,69,70,71,72]) (.cond (.t 63) (.seq (.region Zk7 [6]) .ret) .skip)))))))))))))))))) (.seq (.region Zk8 [6]) .ret)))),[.t 6]⟩
def Zka : List Z2b := [
 ⟨some 2,.mov,[.c (.int .i64 0)],none⟩]
def Zkb : List Z2b := [
 ⟨some 3,.mov,[.c (.int .i64 0)],none⟩]
def Zkc : List Z2b := [
 ⟨some 4,.mov,[.c (.int .i64 0)],none⟩]
def Zkd : List Z2b := [
 ⟨some 5,.mov,[.t 4],none⟩,⟨some 6,.mov,[.t 0],none⟩,⟨some 7,.lens,[.t 6],none⟩,⟨some 8,(.bin .lss),[.t 5,.t 7],none⟩]
def Zke : List Z2b := [
 ⟨some 11,.mov,[.t 0],none⟩,⟨some 12,.mov,[.t 4],none⟩,⟨some 13,(.iad 1),[.t 11,.t 12],none⟩,⟨some 14,(.load false 1),[.t 13],none⟩,⟨some 15,(.bin .shr),[.t 14,.c (.int .u64 6)],none⟩,⟨some 16,(.bin .neq),[.t 15,.c (.int .u8 2)],none⟩]
def Zkf : List Z2b := [
 ⟨some 17,.mov,[.t 3],none⟩,⟨some 18,(.bin .add),[.t 17,.c (.int .i64 1)],none⟩,⟨some 3,.mov,[.t 18],none⟩]
def Zkg : List Z2b := [
 ⟨some 9,.mov,[.t 4],none⟩,⟨some 10,(.bin .add),[.t 9,.c (.int .i64 1)],none⟩,⟨some 4,.mov,[.t 10],none⟩]
def Zkh : Z2c := (.seq (.seq (.region Zkd [0,3,4,8]) (.cond (.t 8) .skip (.exit 0))) (.seq (.block 1 (.seq (.region Zke [0,3,4,16]) (.cond (.t 16) (.region Zkf [0,3,4]) .skip))) (.region Zkg [0,3,4])))
def Zki : List Z2b := [
 ⟨some 19,.mov,[.t 3],none⟩,⟨some 2,.mov,[.t 19],none⟩]
def Zkj : Z2z := ⟨20,(.seq (.region Zka [0]) (.seq (.region Zkb [0,3]) (.seq (.seq (.region Zkc [0,3,4]) (.block 0 (.loop Zkh))) (.seq (.region Zki [2]) .ret)))),[.t 2]⟩
def Zkk : List Z2b := [
 ⟨some 3,(.box 6),[.t 0],none⟩,⟨some 4,(.box 5),[.t 1],none⟩,⟨some 6,(.alloc (.agg [(.int .i64 0),(.slc 0 [] true),(.slc 0 [] true),(.int .i64 0),(.int .i64 0),(.int .i64 0)])),[],none⟩]
def Zkl : List Z2b := [
 ⟨some 7,(.fad 0),[.t 3],none⟩,⟨some 8,(.load false 1),[.t 7],none⟩]
def Zkm : List Z2b := [
 ⟨some 10,(.bin .eql),[.t 8,.c (.int .i64 10)],none⟩,⟨some 9,.mov,[.t 10],none⟩]
def Zkn : List Z2b := [
 ⟨some 11,(.fad 2),[.t 3],none⟩,⟨some 12,(.load false 1),[.t 11],none⟩,⟨some 13,(.iad 6),[.t 12,.c (.int .i64 0)],none⟩,⟨some 14,(.load true 6),[.t 13],none⟩,⟨none,(.store 6),[.t 6,.t 14],none⟩]
def Zko : List Z2b := [
 ⟨some 16,(.bin .eql),[.t 8,.c (.int .i64 11)],none⟩,⟨some 15,.mov,[.t 16],none⟩]
def Zkp : List Z2b := [
 ⟨some 17,(.fad 2),[.t 3],none⟩,⟨some 18,(.load false 1),[.t 17],none⟩,⟨some 19,.mov,[.t 2],none⟩,⟨some 20,(.bin .rem),[.t 19,.c (.int .i64 2)],none⟩,⟨some 21,(.iad 6),[.t 18,.t 20],none⟩,⟨some 22,(.load true 6),[.t 21],none⟩,⟨none,(.store 6),[.t 6,.t 22],none⟩]
def Zkq : List Z2b := [
 ⟨some 24,(.bin .eql),[.t 8,.c (.int .i64 13)],none⟩,⟨some 23,.mov,[.t 24],none⟩]
def Zkr : List Z2b := [
 ⟨some 25,(.fad 2),[.t 3],none⟩,⟨some 26,(.load false 1),[.t 25],none⟩,⟨some 27,(.fad 1),[.t 4],none⟩,⟨some 28,(.load false 1),[.t 27],none⟩,⟨some 29,(.iad 6),[.t 26,.t 28],none⟩,⟨some 30,(.load true 6),[.t 29],none⟩,⟨none,(.store 6),[.t 6,.t 30],none⟩]
def Zks : List Z2b := [
 ⟨some 31,(.fad 2),[.t 3],none⟩,⟨some 32,(.load false 1),[.t 31],none⟩,⟨some 33,.mov,[.t 2],none⟩,⟨some 34,(.iad 6),[.t 32,.t 33],none⟩,⟨some 35,(.load true 6),[.t 34],none⟩,⟨none,(.store 6),[.t 6,.t 35],none⟩]
def Zkt : Z2z := ⟨36,(.seq (.region Zkk [2,3,4,6]) (.seq (.seq (.region Zkl [2,3,4,6,8]) (.block 0 (.seq (.region Zkm [2,3,4,6,8,9]) (.cond (.t 9) (.seq (.region Zkn [6]) .ret) (.seq (.region Zko [2,3,4,6,8,15]) (.cond (.t 15) (.seq (.region Zkp [6]) .ret) (.seq (.region Zkq [2,3,4,6,23]) (.cond (.t 23) (.seq (.region Zkr [6]) .ret) .skip)))))))) (.seq (.region Zks [6]) .ret))),[.cell 6 true 6]⟩
def Zku : List Z2b := [
 ⟨some 2,.mov,[.c (.int .i64 0)],none⟩]
def Zkv : List Z2b := [
 ⟨some 3,.mov,[.t 0],none⟩,⟨some 4,(.call Zfk),[.t 3],none⟩,⟨some 5,(.call Zfj),[.t 4],none⟩,⟨some 6,.lent,[.t 5],none⟩,⟨some 2,.mov,[.t 6],none⟩]
def Zkw : Z2z := ⟨7,(.seq (.region Zku [0]) (.seq (.region Zkv [2]) .ret)),[.t 2]⟩
def Zkx : List Z2b := [
 ⟨some 4,.mov,[.c (.bool false)],none⟩]
def Zky : List Z2b := [
 ⟨some 5,.mov,[.t 0],none⟩,⟨some 6,(.bin .geq),[.t 5,.c (.int .i64 (-1099511627776))],none⟩,⟨some 7,.mov,[.t 6],none⟩,⟨some 8,.mov,[.t 0],some (7,true)⟩,⟨some 9,(.bin .leq),[.t 8,.c (.int .i64 1099511627776)],some (7,true)⟩,⟨some 10,.pick,[.t 7,.t 9,.c (.bool false)],none⟩,⟨some 11,.mov,[.t 10],none⟩,⟨some 12,.mov,[.t 1],some (11,true)⟩,⟨some 13,(.bin .geq),[.t 12,.c (.int .i64 0)],some (11,true)⟩,⟨some 14,.pick,[.t 11,.t 13,.c (.bool false)],none⟩,⟨some 15,.mov,[.t 14],none⟩,⟨some 16,.mov,[.t 1],some (15,true)⟩,⟨some 17,(.bin .lss),[.t 16,.c (.int .i64 1000000000)],some (15,true)⟩,⟨some 18,.pick,[.t 15,.t 17,.c (.bool false)],none⟩,⟨some 4,.mov,[.t 18],none⟩]
def Zkz : Z2z := ⟨19,(.seq (.region Zkx [0,1,8,9,12,13,16,17]) (.seq (.region Zky [4]) .ret)),[.t 4]⟩
def Zl0 : List Z2b := [
 ⟨some 2,.mov,[.c (.str [])],none⟩]
def Zl1 : List Z2b := [
 ⟨some 4,.mov,[.t 0],none⟩,⟨some 5,(.bin .rem),[.t 4,.c (.int .u64 10)],none⟩,⟨some 6,(.bin .add),[.c (.int .u64 48),.t 5],none⟩,⟨some 7,(.conv .u8),[.t 6],none⟩,⟨some 8,(.bsl 1),[.t 7],none⟩,⟨some 9,.b2s,[.t 8],none⟩,⟨some 3,.mov,[.t 9],none⟩]
def Zl2 : List Z2b := [
 ⟨some 10,.mov,[.t 0],none⟩,⟨some 11,(.bin .geq),[.t 10,.c (.int .u64 10)],none⟩]
def Zl3 : List Z2b := [
 ⟨some 12,.mov,[.t 0],none⟩,⟨some 13,(.bin .quo),[.t 12,.c (.int .u64 10)],none⟩,⟨some 0,.mov,[.t 13],none⟩]
def Zl4 : List Z2b := [
 ⟨some 14,.mov,[.t 0],none⟩,⟨some 15,(.bin .rem),[.t 14,.c (.int .u64 10)],none⟩,⟨some 16,(.bin .add),[.c (.int .u64 48),.t 15],none⟩,⟨some 17,(.conv .u8),[.t 16],none⟩,⟨some 18,(.bsl 1),[.t 17],none⟩,⟨some 19,.b2s,[.t 18],none⟩,⟨some 20,.mov,[.t 3],none⟩,⟨some 21,(.bin .add),[.t 19,.t 20],none⟩,⟨some 3,.mov,[.t 21],none⟩]
def Zl5 : Z2c := (.seq (.seq (.region Zl2 [0,3,11]) (.cond (.t 11) .skip (.exit 0))) (.block 1 (.seq (.region Zl3 [0,3]) (.region Zl4 [0,3]))))
def Zl6 : List Z2b := [
 ⟨some 22,.mov,[.t 3],none⟩,⟨some 2,.mov,[.t 22],none⟩]
def Zl7 : Z2z := ⟨23,(.seq (.region Zl0 [0]) (.seq (.region Zl1 [0,3]) (.seq (.block 0 (.loop Zl5)) (.seq (.region Zl6 [2]) .ret)))),[.t 2]⟩
def Zl8 : List Z2b := [
 ⟨some 2,.mov,[.c (.int .u64 0)],none⟩]
def Zl9 : List Z2b := [
 ⟨some 3,.mov,[.t 0],none⟩,⟨some 4,(.bin .lss),[.t 3,.c (.int .i64 0)],none⟩]
def Zla : List Z2b := [
 ⟨some 5,.mov,[.t 0],none⟩,⟨some 6,(.bin .add),[.t 5,.c (.int .i64 1)],none⟩,⟨some 7,(.bin .sub),[.c (.int .i64 0),.t 6],none⟩,⟨some 8,(.conv .u64),[.t 7],none⟩,⟨some 9,(.bin .add),[.t 8,.c (.int .u64 1)],none⟩,⟨some 2,.mov,[.t 9],none⟩]
def Zlb : List Z2b := [
 ⟨some 10,.mov,[.t 0],none⟩,⟨some 11,(.conv .u64),[.t 10],none⟩,⟨some 2,.mov,[.t 11],none⟩]
def Zlc : Z2z := ⟨12,(.seq (.region Zl8 [0]) (.seq (.seq (.region Zl9 [0,4]) (.cond (.t 4) (.seq (.region Zla [2]) .ret) .skip)) (.seq (.region Zlb [2]) .ret))),[.t 2]⟩
end Go.Abs
namespace Go.Abs
open Go Go.Proofs
theorem Zld : Z30 Try.prog [] Zch = some Zfw.erase := by kernel_rfl
theorem Zle : Z30 Try.prog [] Zdc = some Zg0.erase := by kernel_rfl
theorem Zlf : Z30 Try.prog [] Zdd = some Zg3.erase := by kernel_rfl
theorem Zlg : Z30 Try.prog [] Zdl = some Zg6.erase := by kernel_rfl
theorem Zlh : Z30 Try.prog [] Zdp = some Zgn.erase := by kernel_rfl
theorem Zli : Z30 Try.prog [] Zej = some Zh5.erase := by kernel_rfl
theorem Zlj : Z30 Try.prog [] Zek = some Zh8.erase := by kernel_rfl
theorem Zlk : Z30 Try.prog [] Zel = some Zhd.erase := by kernel_rfl
theorem Zll : Z30 Try.prog [] Zem = some Zhg.erase := by kernel_rfl
theorem Zlm : Z30 Try.prog [] Zen = some Zhp.erase := by kernel_rfl
theorem Zln : Z30 Try.prog [] Zep = some Zit.erase := by kernel_rfl
theorem Zlo : Z30 Try.prog [] Zfg = some Zjj.erase := by kernel_rfl
theorem Zlp : Z30 Try.prog [] Zdk = some Zjm.erase := by kernel_rfl
theorem Zlq : Z30 Try.prog [(16, 1)] Zdy = some Zk9.erase := by kernel_rfl
theorem Zlr : Z30 Try.prog [] Zdz = some Zkj.erase := by kernel_rfl
theorem Zls : Z30 Try.prog [] Ze0 = some Zkt.erase := by kernel_rfl
theorem Zlt : Z30 Try.prog [] Zex = some Zkw.erase := by kernel_rfl
theorem Zlu : Z30 Try.prog [] Zey = some Zkz.erase := by kernel_rfl
theorem Zlv : Z30 Try.prog [] Zfj = some Zl7.erase := by kernel_rfl
theorem Zlw : Z30 Try.prog [] Zfk = some Zlc.erase := by kernel_rfl
end Go.Abs
namespace Go.Abs
open Go
inductive Ty where
 | mk (kind : Int) (names : List (List UInt8)) (kids : List Ty) (len prec scale : Int)
namespace Ty
def kind : Ty → Int | .mk k _ _ _ _ _ => k
def names : Ty → List (List UInt8) | .mk _ n _ _ _ _ => n
def kids : Ty → List Ty | .mk _ _ ks _ _ _ => ks
def len : Ty → Int | .mk _ _ _ l _ _ => l
def prec : Ty → Int | .mk _ _ _ _ p _ => p
def scale : Ty → Int | .mk _ _ _ _ _ s => s
theorem ind {p : Ty → Prop} (h : ∀ k ns ks l pr s, (∀ t ∈ ks, p t) → p (.mk k ns ks l pr s)) : ∀ t, p t := by
 intro t
 refine Ty.rec (motive_1 := p) (motive_2 := fun l => ∀ t ∈ l, p t) ?_ ?_ ?_ t
 ·intro k ns ks l pr s ih; exact h k ns ks l pr s ih
 ·intro t ht; cases ht
 ·intro a l ha hl t ht
  rcases List.mem_cons.1 ht with rfl | ht
  ·exact ha
  ·exact hl t ht
end Ty
def Zlx (ns : List (List UInt8)) : Z0 := .slc 1 (ns.map .str) false
mutual
def encT : Ty → Z0
 | .mk k ns ks l p s => .agg [.int .i64 k, .slc 1 (ns.map .str) false, .slc 6 (Zly ks) false, .int .i64 l, .int .i64 p, .int .i64 s]
def Zly : List Ty → List Z0
 | [] => []
 | t :: ts => encT t :: Zly ts
end
def Zlz (t : Ty) : List Z0 := [.int .i64 t.kind, .slc 1 (t.names.map .str) false, .slc 6 (Zly t.kids) false, .int .i64 t.len, .int .i64 t.prec, .int .i64 t.scale]
theorem Zm0 (t : Ty) : encT t = .agg (Zlz t) := by cases t; simp only [encT, Zlz, Ty.kind, Ty.names, Ty.kids, Ty.len, Ty.prec, Ty.scale]
theorem Zm1 (ts : List Ty) : Zly ts = ts.map encT := by
 induction ts with
 | nil => rfl
 | cons t ts ih => simp [Zly, ih]
theorem Zm2 (ts : List Ty) : (Zly ts).length = ts.length := by simp [Zm1]
theorem Zm3 {ts : List Ty} {i : Nat} {t : Ty} (h : ts[i]? = some t) : (Zly ts)[i]? = some (encT t) := by simp [Zm1, h]
def Zm4 (k : Int) : Bool := !(decide (k = 10) || decide (k = 11) || decide (k = 12) || decide (k = 13))
def Zm5 (ns : List (List UInt8)) : Bool := ns.all (fun s => decide (s ≠ [] ∧ s.length ≤ 100)) && decide ns.Nodup
def Zm6 (k : Int) (names kids : Nat) : Bool :=
 if k = 10 then kids == 1 else if k = 11 then kids == 2 else if k = 12 then kids == names else if k = 13 then decide (1 ≤ kids ∧ kids ≤ 255) else kids == 0
def Zm7 (k : Int) (ns : List (List UInt8)) (kids : Nat) (l p s : Int) : Bool :=
 Zm6 k ns.length kids && (decide (k = 12) || ns.isEmpty) && Zm5 ns &&
 (if k = 16 ∨ k = 17 then decide (1 ≤ l ∧ l ≤ 4096) else decide (l = 0)) &&
 (if k = 14 then decide (1 ≤ p ∧ p ≤ 18 ∧ 0 ≤ s ∧ s ≤ p) else decide (p = 0 ∧ s = 0))
def ownF (k : Int) (ns : List (List UInt8)) (kids : Nat) (l p s : Int) : Nat :=
 if k = 5 ∨ k = 6 then 5 else if k < 0 ∨ 17 < k ∨ Zm7 k ns kids l p s = false then 1 else 0
mutual
def chk (deep n : Nat) : Ty → Nat × Nat
 | .mk k ns ks l p s => if 16 < deep ∨ 100 ≤ n then (n, 4) else if ownF k ns ks.length l p s ≠ 0 then (n, ownF k ns ks.length l p s) else chkL (deep + 1) (n + 1) ks
def chkL (deep n : Nat) : List Ty → Nat × Nat
 | [] => (n, 0)
 | t :: ts => if (chk deep n t).2 ≠ 0 then chk deep n t else chkL deep (chk deep n t).1 ts
end
def Zm8 (t : Ty) : Nat := (chk 1 0 t).2
mutual
def cnt : Ty → Nat
 | .mk _ _ ks _ _ _ => 1 + cntL ks
def cntL : List Ty → Nat
 | [] => 0
 | t :: ts => cnt t + cntL ts
end
def Zm9 (at_ : Nat) : List Ty → List Nat
 | [] => []
 | t :: ts => at_ :: Zm9 (at_ + cnt t) ts
structure Nd where
 t : Ty
 kids : List Nat
 parent : Int
 deep : Nat
mutual
def Zma (at_ : Nat) (parent : Int) (deep : Nat) : Ty → List Nd
 | .mk k ns ks l p s => ⟨.mk k ns ks l p s, Zm9 (at_ + 1) ks, parent, deep⟩ :: Zmb (at_ + 1) (at_ : Int) (deep + 1) ks
def Zmb (at_ : Nat) (parent : Int) (deep : Nat) : List Ty → List Nd
 | [] => []
 | t :: ts => Zma at_ parent deep t ++ Zmb (at_ + cnt t) parent deep ts
end
theorem Zmc : (∀ t : Ty, ∀ at_ parent deep, (Zma at_ parent deep t).length = cnt t) := by
 refine Ty.ind fun k ns ks l p s ih at_ parent deep => ?_
 have hL : ∀ (ks : List Ty), (∀ t ∈ ks, ∀ at_ parent deep, (Zma at_ parent deep t).length = cnt t) → ∀ at_ parent deep, (Zmb at_ parent deep ks).length = cntL ks := by
  intro ks
  induction ks with
  | nil => intro _ at_ parent deep; simp [Zmb, cntL]
  | cons t ts ih2 =>
   intro h at_ parent deep
   simp only [Zmb, cntL, List.length_append]
   rw [h t (by simp), ih2 (fun t ht => h t (by simp [ht]))]
 simp only [Zma, cnt, List.length_cons]
 rw [hL ks ih]; omega
def ints (l : List Nat) : List Z0 := l.map fun (n : Nat) => Z0.int .i64 (n : Int)
def Zmd (n : Nd) : List Z0 := [.int .i64 n.t.kind, .slc 1 (ints n.kids) true, .slc 1 (n.t.names.map .str) true, .int .i64 n.t.len, .int .i64 n.t.prec, .int .i64 n.t.scale, .int .i64 n.parent, .int .i64 (n.deep : Int)]
def Zme (n : Nd) : List Z0 := Zlz n.t ++ [.slc 1 (ints n.kids) false, .int .i64 n.parent, .int .i64 (n.deep : Int)]
def encN (n : Nd) : Z0 := .agg (Zmd n)
def encR (n : Nd) : Z0 := .agg (Zme n)
def Zmf (t : Ty) : List Nd := if Zm8 t = 0 then Zma 0 (-1) 1 t else []
end Go.Abs
namespace Go.Abs
open Go
inductive Vl where
 | mk (null : Bool) (i n : Int) (b : List UInt8) (kids : List Vl)
instance : Inhabited Ty := ⟨.mk 0 [] [] 0 0 0⟩
instance : Inhabited Vl := ⟨.mk false 0 0 [] []⟩
namespace Vl
def null : Vl → Bool | .mk x _ _ _ _ => x
def i : Vl → Int | .mk _ x _ _ _ => x
def n : Vl → Int | .mk _ _ x _ _ => x
def b : Vl → List UInt8 | .mk _ _ _ x _ => x
def kids : Vl → List Vl | .mk _ _ _ _ x => x
theorem ind {p : Vl → Prop} (h : ∀ nu i n b ks, (∀ v ∈ ks, p v) → p (.mk nu i n b ks)) : ∀ v, p v := by
 intro v
 refine Vl.rec (motive_1 := p) (motive_2 := fun l => ∀ v ∈ l, p v) ?_ ?_ ?_ v
 ·intro nu i n b ks ih; exact h nu i n b ks ih
 ·intro v hv; cases hv
 ·intro a l ha hl v hv
  rcases List.mem_cons.1 hv with rfl | hv
  ·exact ha
  ·exact hl v hv
end Vl
mutual
def encV : Vl → Z0
 | .mk nu i n b ks => .agg [.bool nu, .int .i64 i, .int .i64 n, .slc 1 (bytes b) false, .slc 5 (Zmg ks) false]
def Zmg : List Vl → List Z0
 | [] => []
 | v :: vs => encV v :: Zmg vs
end
def Zmh (v : Vl) : List Z0 := [.bool v.null, .int .i64 v.i, .int .i64 v.n, .slc 1 (bytes v.b) false, .slc 5 (Zmg v.kids) false]
theorem Zmi (v : Vl) : encV v = .agg (Zmh v) := by cases v; simp only [encV, Zmh, Vl.null, Vl.i, Vl.n, Vl.b, Vl.kids]
theorem Zmj (vs : List Vl) : Zmg vs = vs.map encV := by
 induction vs with
 | nil => rfl
 | cons v vs ih => simp [Zmg, ih]
theorem Zmk (vs : List Vl) : (Zmg vs).length = vs.length := by simp [Zmj]
theorem Zml {vs : List Vl} {i : Nat} {v : Vl} (h : vs[i]? = some v) : (Zmg vs)[i]? = some (encV v) := by simp [Zmj, h]
def Zmm (k : Int) : Bool := decide (k = 7) || decide (k = 16) || decide (k = 17) || decide (k = 8)
def digN (u : Nat) : Nat := if _h : u < 10 then 1 else digN (u / 10) + 1
termination_by u
decreasing_by exact Nat.div_lt_self (Nat.lt_of_lt_of_le (by decide) (Nat.le_of_not_lt _h)) (by decide)
def Zmn (b : List UInt8) : Nat := (b.filter fun c => decide (c.toNat / 64 ≠ 2)).length
def Zmo (i n : Int) : Bool := decide (-1099511627776 ≤ i ∧ i ≤ 1099511627776 ∧ 0 ≤ n ∧ n < 1000000000)
def Zmp (k : Int) (kids : Nat) (prec i n : Int) : Bool :=
 if n ≠ 0 ∧ k ≠ 9 then false
 else if k = 0 then decide (i = 0 ∨ i = 1)
 else if k = 1 then decide (-128 ≤ i ∧ i ≤ 127)
 else if k = 2 then decide (-32768 ≤ i ∧ i ≤ 32767)
 else if k = 3 ∨ k = 15 then decide (-2147483648 ≤ i ∧ i ≤ 2147483647)
 else if k = 4 then true
 else if k = 14 then decide ((digN i.natAbs : Int) ≤ prec)
 else if k = 9 then Zmo i n
 else if k = 13 then decide (0 ≤ i ∧ i < kids)
 else decide (i = 0)
def Zmq (k i : Int) (j : Nat) : Nat := if k = 10 then 0 else if k = 11 then j % 2 else if k = 13 then i.toNat else j
def kidT (t : Ty) (i : Int) (j : Nat) : Ty := t.kids.getD (Zmq t.kind i j) default
def ownV (t : Ty) (i n : Int) (b : List UInt8) (kids : Nat) : Nat :=
 if Zmp t.kind t.kids.length t.prec i n = false ∨ (b ≠ [] ∧ Zmm t.kind = false) ∨ (kids ≠ 0 ∧ Zm4 t.kind = true) then 1
 else if 4096 < b.length ∨ ((t.kind = 16 ∨ t.kind = 17) ∧ t.len < (Zmn b : Int)) then 4
 else if t.kind = 10 then (if 16384 < kids then 4 else 0)
 else if t.kind = 11 then (if kids % 2 ≠ 0 then 1 else if 32768 < kids then 4 else 0)
 else if t.kind = 12 then (if kids ≠ t.kids.length then 1 else 0)
 else if t.kind = 13 then (if kids ≠ 1 then 1 else 0)
 else 0
mutual
def vchk (t : Ty) : Vl → Nat
 | .mk nu i n b ks =>
  if nu = true then (if i ≠ 0 ∨ n ≠ 0 ∨ b ≠ [] ∨ ks.length ≠ 0 then 1 else 0)
  else if ownV t i n b ks.length ≠ 0 then ownV t i n b ks.length
  else Zmr t i 0 ks
def Zmr (t : Ty) (i : Int) (j : Nat) : List Vl → Nat
 | [] => 0
 | k :: ks => if t.kind = 11 ∧ j % 2 = 0 ∧ k.null = true then 1 else if vchk (kidT t i j) k ≠ 0 then vchk (kidT t i j) k else Zmr t i (j + 1) ks
end
theorem Zms : ∀ (k u : Nat), 1 ≤ k → u < 10 ^ k → digN u ≤ k
 | 0, u, h, _ => absurd h (by omega)
 | k + 1, u, _, h => by
  rw [digN]
  split
  ·omega
  ·rename_i hu
   have : digN (u / 10) ≤ k := Zms k (u / 10) (by
    cases k with
    | zero => simp at h; omega
    | succ k => omega) (by rw [Nat.pow_succ] at h; omega)
   omega
theorem Zmt {u : Nat} (h : u ≤ 18446744073709551615) : digN u ≤ 20 := Zms 20 u (by decide) (Nat.lt_of_le_of_lt h (by decide))
theorem Zmu (b : List UInt8) : Zmn b ≤ b.length := List.length_filter_le _ _
theorem Zmv {b : List UInt8} {i : Nat} {c : UInt8} (h : b[i]? = some c) : Zmn (b.take (i + 1)) = Zmn (b.take i) + (if c.toNat / 64 ≠ 2 then 1 else 0) := by
 rw [List.take_add_one, h]
 simp only [Zmn, Option.toList_some, List.filter_append, List.length_append]
 congr 1
 by_cases hc : c.toNat / 64 = 2 <;> simp [hc]
end Go.Abs
namespace Go.Abs
open Go Go.Proofs
attribute [local irreducible] AWp aops KP
theorem Zmw {P : Program} {l : List Z2b} {F : Z27} {σ : Zc} {Q : Z27 → Zc → Prop} {d : Nat} {args : List Zw} {s t : List UInt8} (h1 : evs F args = some [.str s, .str t]) (h2 : s.length + t.length ≤ maxLen) (h : aops P l (fset d (some (.str (s ++ t))) F) σ Q) :
  aops P (⟨some d, .bin .add, args, none⟩ :: l) F σ Q :=
 Kq h1 (by simp [Z1r, abin, Z12, h2]) rfl h
theorem Zmx (k : Int) (σ : Zc) : Z1s Try.prog Zdk [.int .i64 k] σ fun r σ' => r = .bool (Zmm k) ∧ σ' = σ := by
 refine Z94 rfl Zlp (Nat.le_of_ble_eq_true rfl) ?_
 by_cases h1 : k = 7
 ·subst h1; (repeat(first|refine Kq rfl rfl rfl ?_|refine Z97 rfl ?_|(refine Z99 ?_; (repeat(first|refine Z9x rfl ?_|refine Z9y ?_)); refine Z9w ?_)|refine Ks ?_|refine Zb1 (fun _ _ => rfl) ?_)); refine Z8o ?_; exact Kar rfl ⟨rfl, rfl⟩
 by_cases h2 : k = 16
 ·subst h2; (repeat(first|refine Kq rfl rfl rfl ?_|refine Z96 rfl (Kq rfl rfl rfl ?_)|refine Z97 rfl ?_|(refine Z99 ?_; (repeat(first|refine Z9x rfl ?_|refine Z9y ?_)); refine Z9w ?_)|refine Ks ?_|refine Zb1 (fun _ _ => rfl) ?_)); refine Z8o ?_; exact Kar rfl ⟨rfl, rfl⟩
 by_cases h3 : k = 17
 ·subst h3; (repeat(first|refine Kq rfl rfl rfl ?_|refine Z96 rfl (Kq rfl rfl rfl ?_)|refine Z97 rfl ?_|(refine Z99 ?_; (repeat(first|refine Z9x rfl ?_|refine Z9y ?_)); refine Z9w ?_)|refine Ks ?_|refine Zb1 (fun _ _ => rfl) ?_)); refine Z8o ?_; exact Kar rfl ⟨rfl, rfl⟩
 (repeat(first|refine Kq rfl rfl rfl ?_|(refine Z99 ?_; (repeat(first|refine Z9x rfl ?_|refine Z9y ?_)); refine Z9w ?_)|refine Ks ?_|refine Zb1 (fun _ _ => rfl) ?_))
 (rw [decide_eq_false (p := k = 7) (by omega)])
 (repeat(first|refine Kq rfl rfl rfl ?_|refine Z96 rfl (Kq rfl rfl rfl ?_)))
 (rw [decide_eq_false (p := k = 16) (by omega)])
 (repeat(first|refine Kq rfl rfl rfl ?_|refine Z96 rfl (Kq rfl rfl rfl ?_)))
 (rw [decide_eq_false (p := k = 17) (by omega)])
 (repeat(first|refine Kq rfl rfl rfl ?_|refine Z96 rfl (Kq rfl rfl rfl ?_)|(refine Z99 ?_; (repeat(first|refine Z9x rfl ?_|refine Z9y ?_)); refine Z9w ?_)))
 refine Z8o ?_
 exact Kar rfl ⟨by simp [Zmm, h1, h2, h3, Z8x], rfl⟩
theorem Zmy (k : Int) (σ : Zc) : Z1s Try.prog Zdl [.int .i64 k] σ fun r σ' => r = .bool (Zm4 k) ∧ σ' = σ := by
 refine Z94 rfl Zlg (Nat.le_of_ble_eq_true rfl) ?_
 by_cases h1 : k = 10
 ·subst h1; (repeat(first|refine Kq rfl rfl rfl ?_|refine Z97 rfl ?_|(refine Z99 ?_; (repeat(first|refine Z9x rfl ?_|refine Z9y ?_)); refine Z9w ?_)|refine Ks ?_|refine Zb1 (fun _ _ => rfl) ?_)); refine Z8o ?_; exact Kar rfl ⟨rfl, rfl⟩
 by_cases h2 : k = 11
 ·subst h2; (repeat(first|refine Kq rfl rfl rfl ?_|refine Z96 rfl (Kq rfl rfl rfl ?_)|refine Z97 rfl ?_|(refine Z99 ?_; (repeat(first|refine Z9x rfl ?_|refine Z9y ?_)); refine Z9w ?_)|refine Ks ?_|refine Zb1 (fun _ _ => rfl) ?_)); refine Z8o ?_; exact Kar rfl ⟨rfl, rfl⟩
 by_cases h3 : k = 12
 ·subst h3; (repeat(first|refine Kq rfl rfl rfl ?_|refine Z96 rfl (Kq rfl rfl rfl ?_)|refine Z97 rfl ?_|(refine Z99 ?_; (repeat(first|refine Z9x rfl ?_|refine Z9y ?_)); refine Z9w ?_)|refine Ks ?_|refine Zb1 (fun _ _ => rfl) ?_)); refine Z8o ?_; exact Kar rfl ⟨rfl, rfl⟩
 (repeat(first|refine Kq rfl rfl rfl ?_|(refine Z99 ?_; (repeat(first|refine Z9x rfl ?_|refine Z9y ?_)); refine Z9w ?_)|refine Ks ?_|refine Zb1 (fun _ _ => rfl) ?_))
 (rw [decide_eq_true (p := k ≠ 10) (by omega)])
 (repeat(first|refine Kq rfl rfl rfl ?_|refine Z96 rfl (Kq rfl rfl rfl ?_)))
 (rw [decide_eq_true (p := k ≠ 11) (by omega)])
 (repeat(first|refine Kq rfl rfl rfl ?_|refine Z96 rfl (Kq rfl rfl rfl ?_)))
 (rw [decide_eq_true (p := k ≠ 12) (by omega)])
 (repeat(first|refine Kq rfl rfl rfl ?_|refine Z96 rfl (Kq rfl rfl rfl ?_)|(refine Z99 ?_; (repeat(first|refine Z9x rfl ?_|refine Z9y ?_)); refine Z9w ?_)))
 refine Z8o ?_
 exact Kar rfl ⟨by simp [Zm4, h1, h2, h3, Z8x], rfl⟩
theorem Zmz (i : Int) (h0 : -9223372036854775808 ≤ i) (h1 : i ≤ 9223372036854775807) (σ : Zc) : Z1s Try.prog Zfk [.int .i64 i] σ fun r σ' => r = .int .u64 (i.natAbs : Int) ∧ σ' = σ := by
 refine Z94 rfl Zlw (Nat.le_of_ble_eq_true rfl) ?_
 have wu : ∀ n : Int, IntKind.wrap .u64 n = n % 18446744073709551616 := fun n => by simp [IntKind.wrap, IntKind.bits, IntKind.signed]
 (repeat(first|refine Kq rfl rfl rfl ?_|(refine Z99 ?_; (repeat(first|refine Z9x rfl ?_|refine Z9y ?_)); refine Z9w ?_)|refine Ks ?_|refine Zb1 (fun _ _ => rfl) ?_))
 by_cases h : i < 0
 ·(rw [decide_eq_true (p := i < 0) (by omega)])
  (repeat(first|refine Kq rfl rfl rfl ?_|(refine Z99 ?_; (repeat(first|refine Z9x rfl ?_|refine Z9y ?_)); refine Z9w ?_)|refine Ks ?_|refine Zb1 (fun _ _ => rfl) ?_|refine Kc1 rfl ?_))
  rw [w64 (i + 1) (by omega) (by omega), w64 (0 - (i + 1)) (by omega) (by omega), wu (0 - (i + 1)), wu]
  skip
  refine Z8o ?_
  exact Kar rfl ⟨by simp only [Z8x]; congr 1; omega, rfl⟩
 ·(rw [decide_eq_false (p := i < 0) (by omega)])
  (repeat(first|refine Kq rfl rfl rfl ?_|(refine Z99 ?_; (repeat(first|refine Z9x rfl ?_|refine Z9y ?_)); refine Z9w ?_)|refine Ks ?_|refine Zb1 (fun _ _ => rfl) ?_|refine Zb2 (fun _ _ => rfl) ?_|refine Kc2 rfl ?_))
  rw [wu]
  skip
  refine Z8o ?_
  exact Kar rfl ⟨by simp only [Z8x]; congr 1; omega, rfl⟩
theorem Zn0 (u : Nat) (hu : u ≤ 18446744073709551615) (σ : Zc) : Z1s Try.prog Zfj [.int .u64 (u : Int)] σ fun r σ' => (∃ s, r = .str s ∧ s.length = digN u) ∧ σ' = σ := by
 refine Z94 rfl Zlv (Nat.le_of_ble_eq_true rfl) ?_
 (repeat(first|refine Kq rfl rfl rfl ?_|(refine Z99 ?_; (repeat(first|refine Z9x rfl ?_|refine Z9y ?_)); refine Z9w ?_)|refine Ks ?_|refine Zb1 (fun _ _ => rfl) ?_|refine Z8s ?_))
 refine Za6 (fun m F σ' => ∃ (u' : Nat) (s : List UInt8), F = fset 0 (some (.int .u64 (u' : Int))) (fset 3 (some (.str s)) Z28) ∧ σ = σ' ∧ s.length + digN u' = digN u + 1 ∧ u' ≤ u ∧ m = u') (n := u)
  ⟨u, _, rfl, rfl, by simp; omega, Nat.le_refl _, rfl⟩ ?_
 rintro u' F σ' ⟨u2, s, rfl, rfl, hs, hu', rfl⟩
 (repeat(first|refine Kq rfl rfl rfl ?_|(refine Z99 ?_; (repeat(first|refine Z9x rfl ?_|refine Z9y ?_)); refine Z9w ?_)|refine Ks ?_|refine Zb1 (fun _ _ => rfl) ?_))
 have h20 := Zmt hu
 have wu : ∀ n : Int, IntKind.wrap .u64 n = n % 18446744073709551616 := fun n => by simp [IntKind.wrap, IntKind.bits, IntKind.signed]
 refine Za2 (p := (10 : Int) ≤ (u' : Int)) rfl (fun h3 => ?_) (fun h3 => ?_)
 ·(repeat(first|refine Kq rfl rfl rfl ?_|(refine Z99 ?_; (repeat(first|refine Z9x rfl ?_|refine Z9y ?_)); refine Z9w ?_)|refine Ks ?_|refine Zb1 (fun _ _ => rfl) ?_|refine Z8s ?_|refine Zb2 (fun _ _ => rfl) ?_))
  have e1 : IntKind.wrap .u64 ((u' : Int).tdiv 10) = ((u' / 10 : Nat) : Int) := by
   rw [Int.tdiv_eq_ediv_of_nonneg (by omega), wu]; omega
  rw [e1]
  have hd : digN u' = digN (u' / 10) + 1 := by rw [digN, dif_neg (by omega)]
  refine awp_region ?_
  repeat refine Kq rfl rfl rfl ?_
  refine Zmw rfl (by simp only [List.length_reverse, List.length_cons, List.length_nil]; unfold maxLen; omega) ?_
  refine Kq rfl rfl rfl ?_
  refine Z99 ?_
  refine Za7 (keep := [0, 3]) ?_
  ((repeat(first|refine Z9x rfl ?_|refine Z9y ?_)); refine Z9w ?_)
  exact ⟨_, u' / 10, HSub.refl _, ⟨u' / 10, _, rfl, rfl, by simp only [List.length_append, List.length_reverse, List.length_cons, List.length_nil]; omega, by omega, rfl⟩, by omega⟩
 ·(repeat(first|refine Kq rfl rfl rfl ?_|(refine Z99 ?_; (repeat(first|refine Z9x rfl ?_|refine Z9y ?_)); refine Z9w ?_)|refine Ks ?_|refine Zb1 (fun _ _ => rfl) ?_|refine Zb3 (fun _ _ => rfl) ?_))
  have hd : digN u' = 1 := by rw [digN, dif_pos (by omega)]
  refine Z8o ?_
  exact Kar rfl ⟨⟨s, rfl, by omega⟩, rfl⟩
theorem Zn1 (i : Int) (h0 : -9223372036854775808 ≤ i) (h1 : i ≤ 9223372036854775807) (σ : Zc) : Z1s Try.prog Zex [.int .i64 i] σ fun r σ' => r = .int .i64 (digN i.natAbs : Int) ∧ σ' = σ := by
 refine Z94 rfl Zlt (Nat.le_of_ble_eq_true rfl) ?_
 (repeat(first|refine Kq rfl rfl rfl ?_|(refine Z99 ?_; (repeat(first|refine Z9x rfl ?_|refine Z9y ?_)); refine Z9w ?_)|refine Ks ?_|refine Zb1 (fun _ _ => rfl) ?_))
 refine Z9v rfl (Zmz i h0 h1 _) ?_
 refine Z9u rfl (Zn0 i.natAbs (by omega) _) ?_ ?_
 ·exact ⟨_, _, ⟨List.replicate (digN i.natAbs) 0, rfl, List.length_replicate⟩, rfl⟩
 rintro _ _ ⟨⟨s, rfl, hs⟩, rfl⟩
 (repeat(first|refine Kq rfl rfl rfl ?_|(refine Z99 ?_; (repeat(first|refine Z9x rfl ?_|refine Z9y ?_)); refine Z9w ?_)))
 refine Z8o ?_
 exact Kar rfl ⟨by rw [← hs]; rfl, rfl⟩
theorem Zn2 (i n : Int) (σ : Zc) : Z1s Try.prog Zey [.int .i64 i, .int .i64 n] σ fun r σ' => r = .bool (Zmo i n) ∧ σ' = σ := by
 refine Z94 rfl Zlu (Nat.le_of_ble_eq_true rfl) ?_
 (repeat(first|refine Kq rfl rfl rfl ?_|(refine Z99 ?_; (repeat(first|refine Z9x rfl ?_|refine Z9y ?_)); refine Z9w ?_)|refine Ks ?_|refine Zb1 (fun _ _ => rfl) ?_))
 by_cases h1 : -1099511627776 ≤ i
 ·(rw [decide_eq_true (p := -1099511627776 ≤ i) (by omega)])
  (repeat(first|refine Kq rfl rfl rfl ?_|refine Z96 rfl (Kq rfl rfl rfl ?_)))
  by_cases h2 : i ≤ 1099511627776
  ·(rw [decide_eq_true (p := i ≤ 1099511627776) (by omega)])
   (repeat(first|refine Kq rfl rfl rfl ?_|refine Z96 rfl (Kq rfl rfl rfl ?_)))
   by_cases h3 : 0 ≤ n
   ·(rw [decide_eq_true (p := 0 ≤ n) (by omega)])
    (repeat(first|refine Kq rfl rfl rfl ?_|refine Z96 rfl (Kq rfl rfl rfl ?_)|(refine Z99 ?_; (repeat(first|refine Z9x rfl ?_|refine Z9y ?_)); refine Z9w ?_)))
    refine Z8o ?_
    exact Kar rfl ⟨by simp [Zmo, Z8x, h1, h2, h3], rfl⟩
   ·(rw [decide_eq_false (p := 0 ≤ n) (by omega)])
    (repeat(first|refine Kq rfl rfl rfl ?_|refine Z97 rfl ?_|(refine Z99 ?_; (repeat(first|refine Z9x rfl ?_|refine Z9y ?_)); refine Z9w ?_)))
    refine Z8o ?_
    exact Kar rfl ⟨by simp [Zmo, Z8x, h3], rfl⟩
  ·(rw [decide_eq_false (p := i ≤ 1099511627776) (by omega)])
   (repeat(first|refine Kq rfl rfl rfl ?_|refine Z97 rfl ?_|(refine Z99 ?_; (repeat(first|refine Z9x rfl ?_|refine Z9y ?_)); refine Z9w ?_)))
   refine Z8o ?_
   exact Kar rfl ⟨by simp [Zmo, Z8x, h2], rfl⟩
 ·(rw [decide_eq_false (p := -1099511627776 ≤ i) (by omega)])
  (repeat(first|refine Kq rfl rfl rfl ?_|refine Z97 rfl ?_|(refine Z99 ?_; (repeat(first|refine Z9x rfl ?_|refine Z9y ?_)); refine Z9w ?_)))
  refine Z8o ?_
  exact Kar rfl ⟨by simp [Zmo, Z8x, h1], rfl⟩
theorem Zn3 (b : List UInt8) (f : Bool) (hb : b.length ≤ 9223372036854775807) (σ : Zc) : Z1s Try.prog Zdz [.slc 1 (bytes b) f] σ fun r σ' => r = .int .i64 (Zmn b : Int) ∧ σ' = σ := by
 refine Z94 rfl Zlr (Nat.le_of_ble_eq_true rfl) ?_
 (repeat(first|refine Kq rfl rfl rfl ?_|(refine Z99 ?_; (repeat(first|refine Z9x rfl ?_|refine Z9y ?_)); refine Z9w ?_)|refine Ks ?_|refine Zb1 (fun _ _ => rfl) ?_|refine Z8s ?_))
 refine Za6 (fun m F σ' => ∃ (i : Nat), F = fset 0 (some (.slc 1 (bytes b) f)) (fset 3 (some (.int .i64 (Zmn (b.take i) : Int))) (fset 4 (some (.int .i64 (i : Int))) Z28)) ∧ σ = σ' ∧ i ≤ b.length ∧ m = b.length - i) (n := b.length)
  ⟨0, rfl, rfl, by omega, rfl⟩ ?_
 rintro m F σ' ⟨i, rfl, rfl, hi, rfl⟩
 (repeat(first|refine Kq rfl rfl rfl ?_|(refine Z99 ?_; (repeat(first|refine Z9x rfl ?_|refine Z9y ?_)); refine Z9w ?_)|refine Ks ?_|refine Zb1 (fun _ _ => rfl) ?_))
 rw [Zac]
 refine Za2 (p := (i : Int) < (b.length : Int)) rfl (fun h3 => ?_) (fun h3 => ?_)
 ·obtain ⟨c, hc⟩ : ∃ c, b[i]? = some c := ⟨_, List.getElem?_eq_getElem (by omega)⟩
  have hx : (bytes b)[(i : Int).toNat]? = some (Zx c) := by rw [Zad, Int.toNat_natCast, hc]; rfl
  have hst := Zmv hc
  have hsl := Zmu (b.take (i + 1))
  rw [List.length_take] at hsl
  (repeat(first|refine Kq rfl rfl rfl ?_|refine Ks ?_|refine Zb1 (fun _ _ => rfl) ?_|refine Z8s ?_|refine Zb2 (fun _ _ => rfl) ?_))
  refine Z9d rfl (by omega) hx ?_
  (repeat(first|refine Kq rfl rfl rfl ?_|(refine Z99 ?_; (repeat(first|refine Z9x rfl ?_|refine Z9y ?_)); refine Z9w ?_)))
  have e6 : Int.fdiv (c.toNat : Int) (2 ^ (Nat.min ((6 : Int).toNat) IntKind.u8.bits)) = ((c.toNat / 64 : Nat) : Int) := by
   show Int.fdiv (c.toNat : Int) 64 = _
   rw [Int.fdiv_eq_ediv_of_nonneg _ (by omega)]; omega
  rw [e6]
  skip
  have next : ∀ x : Int, x = (Zmn (b.take (i + 1)) : Int) → AWp Try.prog Zkj.n (.region Zkg [0, 3, 4]) (Za5 (fun m F σ' => ∃ (i : Nat), F = fset 0 (some (.slc 1 (bytes b) f)) (fset 3 (some (.int .i64 (Zmn (b.take i) : Int))) (fset 4 (some (.int .i64 (i : Int))) Z28)) ∧ σ = σ' ∧ i ≤ b.length ∧ m = b.length - i) (b.length - i)
    (Z8r 0 (Z8p Try.prog Zkj.n (Zkj.code.snd 3) (ARet Zkj.res fun r σ' => r = .int .i64 (Zmn b : Int) ∧ σ' = σ))))
    (fset 0 (some (.slc 1 (bytes b) f)) (fset 3 (some (.int .i64 x)) (fset 4 (some (.int .i64 (i : Int))) Z28))) σ := by
   rintro x rfl
   refine Zb4 ?_
   repeat refine Kq rfl rfl rfl ?_
   rw [Kwr i (by omega)]
   (refine Z99 ?_; (repeat(first|refine Z9x rfl ?_|refine Z9y ?_)); refine Z9w ?_)
   exact ⟨_, b.length - (i + 1), HSub.refl _, ⟨i + 1, rfl, rfl, by omega, rfl⟩, by omega⟩
  refine Za2 (p := ((c.toNat / 64 : Nat) : Int) ≠ 2) rfl (fun h4 => ?_) (fun h4 => ?_)
  ·refine Zb1 (fun _ _ => rfl) ?_
   repeat refine Kq rfl rfl rfl ?_
   (refine Z99 ?_; (repeat(first|refine Z9x rfl ?_|refine Z9y ?_)); refine Z9w ?_)
   refine next _ ?_
   rw [hst, if_pos (by omega)]
   rw [hst, if_pos (by omega)] at hsl
   rw [w64 _ (by omega) (by omega)]; rfl
  ·refine Zb2 (fun _ _ => rfl) ?_
   (refine Za0 (keep := [0, 3, 4]) ?_; ((repeat(first|refine Z9x rfl ?_|refine Z9y ?_)); refine Z9w ?_))
   refine next _ ?_
   rw [hst, if_neg (by omega)]; rfl
 ·(repeat(first|refine Kq rfl rfl rfl ?_|(refine Z99 ?_; (repeat(first|refine Z9x rfl ?_|refine Z9y ?_)); refine Z9w ?_)|refine Ks ?_|refine Zb1 (fun _ _ => rfl) ?_|refine Zb3 (fun _ _ => rfl) ?_))
  have hie : i = b.length := by omega
  subst hie
  refine Z8o ?_
  exact Kar rfl ⟨by rw [List.take_length]; rfl, rfl⟩
end Go.Abs
namespace Go.Abs
open Go Go.Proofs
attribute [local irreducible] AWp aops KP
theorem Zn4 (t : Ty) (i n : Int) (h0 : -9223372036854775808 ≤ i) (h1 : i ≤ 9223372036854775807) (σ : Zc) : Z1s Try.prog Zdy [encT t, .int .i64 i, .int .i64 n] σ fun r σ' => r = .bool (Zmp t.kind t.kids.length t.prec i n) ∧ σ' = σ := by
 obtain ⟨k, ns, ks, l, p, s⟩ := t
 simp only [encT, Ty.kind, Ty.kids, Ty.prec] at *
 refine Z94 rfl Zlq (Nat.le_of_ble_eq_true rfl) ?_
 refine Za1 ?_
 refine Z9n rfl (Kfi rfl) fun b hb => ?_
 repeat refine Kq rfl rfl rfl ?_
 (refine Z99 ?_; (repeat(first|refine Z9x rfl ?_|refine Z9y ?_)); refine Z9w ?_)
 refine Zaj (d := 3) (cs := [.int .i64 k, .slc 1 (ns.map .str) false, .slc 6 (Zly ks) false, .int .i64 l, .int .i64 p, .int .i64 s]) rfl ?_
 have main : ¬ (n ≠ 0 ∧ k ≠ 9) → AWp Try.prog Zk9.n (Zk9.code.snd 2) (ARet Zk9.res fun r σ' => r = .bool (Zmp k ks.length p i n) ∧ σ' = σ)
   (fset 1 (some (.int .i64 i)) (fset 2 (some (.int .i64 n)) (fset 3 (some (.iptr [.int .i64 k, .slc 1 (ns.map .str) false, .slc 6 (Zly ks) false, .int .i64 l, .int .i64 p, .int .i64 s])) Z28))) σ := by
  intro hc
  have hN : Zmp k ks.length p i n = (if k = 0 then decide (i = 0 ∨ i = 1) else if k = 1 then decide (-128 ≤ i ∧ i ≤ 127) else if k = 2 then decide (-32768 ≤ i ∧ i ≤ 32767)
   else if k = 3 ∨ k = 15 then decide (-2147483648 ≤ i ∧ i ≤ 2147483647) else if k = 4 then true else if k = 14 then decide ((digN i.natAbs : Int) ≤ p) else if k = 9 then Zmo i n
   else if k = 13 then decide (0 ≤ i ∧ i < ks.length) else decide (i = 0)) := by rw [Zmp, if_neg hc]
  rw [hN]
  by_cases k0 : k = 0
  ·subst k0
   (repeat(first|refine Kq rfl rfl rfl ?_|(refine Z99 ?_; (repeat(first|refine Z9x rfl ?_|refine Z9y ?_)); refine Z9w ?_)|refine Ks ?_|refine Zb1 (fun _ _ => rfl) ?_|refine Z8s ?_|refine Kc1 rfl ?_))
   by_cases q : i = 0
   ·(rw [decide_eq_true (p := i = 0) (by omega)])
    (repeat(first|refine Kq rfl rfl rfl ?_|refine Z97 rfl ?_|(refine Z99 ?_; (repeat(first|refine Z9x rfl ?_|refine Z9y ?_)); refine Z9w ?_)))
    refine Z8o ?_
    exact Kar rfl ⟨by simp [Z8x, q], rfl⟩
   ·(rw [decide_eq_false (p := i = 0) (by omega)])
    (repeat(first|refine Kq rfl rfl rfl ?_|refine Z96 rfl (Kq rfl rfl rfl ?_)|(refine Z99 ?_; (repeat(first|refine Z9x rfl ?_|refine Z9y ?_)); refine Z9w ?_)))
    refine Z8o ?_
    exact Kar rfl ⟨by simp [Z8x, q], rfl⟩
  by_cases k1 : k = 1
  ·subst k1
   (repeat(first|refine Kq rfl rfl rfl ?_|(refine Z99 ?_; (repeat(first|refine Z9x rfl ?_|refine Z9y ?_)); refine Z9w ?_)|refine Ks ?_|refine Zb1 (fun _ _ => rfl) ?_|refine Z8s ?_|refine Kc1 rfl ?_|refine Kc2 rfl ?_))
   by_cases q : -128 ≤ i
   ·(rw [decide_eq_true (p := -128 ≤ i) (by omega)])
    (repeat(first|refine Kq rfl rfl rfl ?_|refine Z96 rfl (Kq rfl rfl rfl ?_)|(refine Z99 ?_; (repeat(first|refine Z9x rfl ?_|refine Z9y ?_)); refine Z9w ?_)))
    refine Z8o ?_
    exact Kar rfl ⟨by simp [Z8x, q], rfl⟩
   ·(rw [decide_eq_false (p := -128 ≤ i) (by omega)])
    (repeat(first|refine Kq rfl rfl rfl ?_|refine Z97 rfl ?_|(refine Z99 ?_; (repeat(first|refine Z9x rfl ?_|refine Z9y ?_)); refine Z9w ?_)))
    refine Z8o ?_
    exact Kar rfl ⟨by simp [Z8x, q], rfl⟩
  by_cases k2 : k = 2
  ·subst k2
   (repeat(first|refine Kq rfl rfl rfl ?_|(refine Z99 ?_; (repeat(first|refine Z9x rfl ?_|refine Z9y ?_)); refine Z9w ?_)|refine Ks ?_|refine Zb1 (fun _ _ => rfl) ?_|refine Z8s ?_|refine Kc1 rfl ?_|refine Kc2 rfl ?_))
   by_cases q : -32768 ≤ i
   ·(rw [decide_eq_true (p := -32768 ≤ i) (by omega)])
    (repeat(first|refine Kq rfl rfl rfl ?_|refine Z96 rfl (Kq rfl rfl rfl ?_)|(refine Z99 ?_; (repeat(first|refine Z9x rfl ?_|refine Z9y ?_)); refine Z9w ?_)))
    refine Z8o ?_
    exact Kar rfl ⟨by simp [Z8x, q], rfl⟩
   ·(rw [decide_eq_false (p := -32768 ≤ i) (by omega)])
    (repeat(first|refine Kq rfl rfl rfl ?_|refine Z97 rfl ?_|(refine Z99 ?_; (repeat(first|refine Z9x rfl ?_|refine Z9y ?_)); refine Z9w ?_)))
    refine Z8o ?_
    exact Kar rfl ⟨by simp [Z8x, q], rfl⟩
  by_cases k3 : k = 3
  ·subst k3
   (repeat(first|refine Kq rfl rfl rfl ?_|(refine Z99 ?_; (repeat(first|refine Z9x rfl ?_|refine Z9y ?_)); refine Z9w ?_)|refine Ks ?_|refine Zb1 (fun _ _ => rfl) ?_|refine Z8s ?_|refine Zb2 (fun _ _ => rfl) ?_|refine Kc1 rfl ?_|refine Kc2 rfl ?_))
   by_cases q : -2147483648 ≤ i
   ·(rw [decide_eq_true (p := -2147483648 ≤ i) (by omega)])
    (repeat(first|refine Kq rfl rfl rfl ?_|refine Z96 rfl (Kq rfl rfl rfl ?_)|(refine Z99 ?_; (repeat(first|refine Z9x rfl ?_|refine Z9y ?_)); refine Z9w ?_)))
    refine Z8o ?_
    exact Kar rfl ⟨by simp [Z8x, q], rfl⟩
   ·(rw [decide_eq_false (p := -2147483648 ≤ i) (by omega)])
    (repeat(first|refine Kq rfl rfl rfl ?_|refine Z97 rfl ?_|(refine Z99 ?_; (repeat(first|refine Z9x rfl ?_|refine Z9y ?_)); refine Z9w ?_)))
    refine Z8o ?_
    exact Kar rfl ⟨by simp [Z8x, q], rfl⟩
  by_cases k15 : k = 15
  ·subst k15
   (repeat(first|refine Kq rfl rfl rfl ?_|(refine Z99 ?_; (repeat(first|refine Z9x rfl ?_|refine Z9y ?_)); refine Z9w ?_)|refine Ks ?_|refine Zb1 (fun _ _ => rfl) ?_|refine Z8s ?_|refine Kc1 rfl ?_|refine Kc2 rfl ?_))
   by_cases q : -2147483648 ≤ i
   ·(rw [decide_eq_true (p := -2147483648 ≤ i) (by omega)])
    (repeat(first|refine Kq rfl rfl rfl ?_|refine Z96 rfl (Kq rfl rfl rfl ?_)|(refine Z99 ?_; (repeat(first|refine Z9x rfl ?_|refine Z9y ?_)); refine Z9w ?_)))
    refine Z8o ?_
    exact Kar rfl ⟨by simp [Z8x, q], rfl⟩
   ·(rw [decide_eq_false (p := -2147483648 ≤ i) (by omega)])
    (repeat(first|refine Kq rfl rfl rfl ?_|refine Z97 rfl ?_|(refine Z99 ?_; (repeat(first|refine Z9x rfl ?_|refine Z9y ?_)); refine Z9w ?_)))
    refine Z8o ?_
    exact Kar rfl ⟨by simp [Z8x, q], rfl⟩
  by_cases k4 : k = 4
  ·subst k4
   (repeat(first|refine Kq rfl rfl rfl ?_|(refine Z99 ?_; (repeat(first|refine Z9x rfl ?_|refine Z9y ?_)); refine Z9w ?_)|refine Ks ?_|refine Zb1 (fun _ _ => rfl) ?_|refine Z8s ?_|refine Kc1 rfl ?_|refine Kc2 rfl ?_))
   refine Z8o ?_
   exact Kar rfl ⟨by simp [Z8x], rfl⟩
  by_cases k14 : k = 14
  ·subst k14
   (repeat(first|refine Kq rfl rfl rfl ?_|(refine Z99 ?_; (repeat(first|refine Z9x rfl ?_|refine Z9y ?_)); refine Z9w ?_)|refine Ks ?_|refine Zb1 (fun _ _ => rfl) ?_|refine Z8s ?_|refine Kc1 rfl ?_|refine Kc2 rfl ?_))
   refine Zb9 rfl (Zn1 i h0 h1) ?_
   (repeat(first|refine Kq rfl rfl rfl ?_|(refine Z99 ?_; (repeat(first|refine Z9x rfl ?_|refine Z9y ?_)); refine Z9w ?_)))
   refine Z8o ?_
   exact Kar rfl ⟨by simp [Z8x], rfl⟩
  by_cases k9 : k = 9
  ·subst k9
   (repeat(first|refine Kq rfl rfl rfl ?_|(refine Z99 ?_; (repeat(first|refine Z9x rfl ?_|refine Z9y ?_)); refine Z9w ?_)|refine Ks ?_|refine Zb1 (fun _ _ => rfl) ?_|refine Z8s ?_|refine Kc1 rfl ?_|refine Kc2 rfl ?_))
   refine Z9v rfl (Zn2 i n _) ?_
   (repeat(first|refine Kq rfl rfl rfl ?_|(refine Z99 ?_; (repeat(first|refine Z9x rfl ?_|refine Z9y ?_)); refine Z9w ?_)))
   refine Z8o ?_
   exact Kar rfl ⟨by simp [Z8x], rfl⟩
  by_cases k13 : k = 13
  ·subst k13
   (repeat(first|refine Kq rfl rfl rfl ?_|(refine Z99 ?_; (repeat(first|refine Z9x rfl ?_|refine Z9y ?_)); refine Z9w ?_)|refine Ks ?_|refine Zb1 (fun _ _ => rfl) ?_|refine Z8s ?_|refine Kc1 rfl ?_|refine Kc2 rfl ?_))
   by_cases q : 0 ≤ i
   ·(rw [decide_eq_true (p := 0 ≤ i) (by omega)])
    (repeat(first|refine Kq rfl rfl rfl ?_|refine Z96 rfl (Kq rfl rfl rfl ?_)|(refine Z99 ?_; (repeat(first|refine Z9x rfl ?_|refine Z9y ?_)); refine Z9w ?_)))
    rw [Zm2]
    refine Z8o ?_
    exact Kar rfl ⟨by simp [Z8x, q], rfl⟩
   ·(rw [decide_eq_false (p := 0 ≤ i) (by omega)])
    (repeat(first|refine Kq rfl rfl rfl ?_|refine Z97 rfl ?_|(refine Z99 ?_; (repeat(first|refine Z9x rfl ?_|refine Z9y ?_)); refine Z9w ?_)))
    refine Z8o ?_
    exact Kar rfl ⟨by simp [Z8x, q], rfl⟩
  (repeat(first|refine Kq rfl rfl rfl ?_|(refine Z99 ?_; (repeat(first|refine Z9x rfl ?_|refine Z9y ?_)); refine Z9w ?_)|refine Ks ?_|refine Zb1 (fun _ _ => rfl) ?_|refine Z8s ?_))
  (rw [decide_eq_false (p := k = 0) (by omega)])
  (repeat(first|refine Kq rfl rfl rfl ?_|(refine Z99 ?_; (repeat(first|refine Z9x rfl ?_|refine Z9y ?_)); refine Z9w ?_)|refine Ks ?_|refine Zb1 (fun _ _ => rfl) ?_|refine Kc2 rfl ?_))
  (rw [decide_eq_false (p := k = 1) (by omega)])
  (repeat(first|refine Kq rfl rfl rfl ?_|(refine Z99 ?_; (repeat(first|refine Z9x rfl ?_|refine Z9y ?_)); refine Z9w ?_)|refine Ks ?_|refine Zb1 (fun _ _ => rfl) ?_|refine Kc2 rfl ?_))
  (rw [decide_eq_false (p := k = 2) (by omega)])
  (repeat(first|refine Kq rfl rfl rfl ?_|(refine Z99 ?_; (repeat(first|refine Z9x rfl ?_|refine Z9y ?_)); refine Z9w ?_)|refine Ks ?_|refine Zb1 (fun _ _ => rfl) ?_|refine Kc2 rfl ?_))
  (rw [decide_eq_false (p := k = 3) (by omega)])
  (repeat(first|refine Kq rfl rfl rfl ?_|(refine Z99 ?_; (repeat(first|refine Z9x rfl ?_|refine Z9y ?_)); refine Z9w ?_)|refine Zb1 (fun _ _ => rfl) ?_|refine Kc2 rfl ?_))
  (rw [decide_eq_false (p := k = 15) (by omega)])
  (repeat(first|refine Kq rfl rfl rfl ?_|(refine Z99 ?_; (repeat(first|refine Z9x rfl ?_|refine Z9y ?_)); refine Z9w ?_)|refine Ks ?_|refine Zb1 (fun _ _ => rfl) ?_|refine Kc2 rfl ?_))
  (rw [decide_eq_false (p := k = 4) (by omega)])
  (repeat(first|refine Kq rfl rfl rfl ?_|(refine Z99 ?_; (repeat(first|refine Z9x rfl ?_|refine Z9y ?_)); refine Z9w ?_)|refine Ks ?_|refine Zb1 (fun _ _ => rfl) ?_|refine Kc2 rfl ?_))
  (rw [decide_eq_false (p := k = 14) (by omega)])
  (repeat(first|refine Kq rfl rfl rfl ?_|(refine Z99 ?_; (repeat(first|refine Z9x rfl ?_|refine Z9y ?_)); refine Z9w ?_)|refine Ks ?_|refine Zb1 (fun _ _ => rfl) ?_|refine Kc2 rfl ?_))
  (rw [decide_eq_false (p := k = 9) (by omega)])
  (repeat(first|refine Kq rfl rfl rfl ?_|(refine Z99 ?_; (repeat(first|refine Z9x rfl ?_|refine Z9y ?_)); refine Z9w ?_)|refine Ks ?_|refine Zb1 (fun _ _ => rfl) ?_|refine Kc2 rfl ?_))
  (rw [decide_eq_false (p := k = 13) (by omega)])
  (repeat(first|refine Kq rfl rfl rfl ?_|(refine Z99 ?_; (repeat(first|refine Z9x rfl ?_|refine Z9y ?_)); refine Z9w ?_)|refine Ks ?_|refine Zb1 (fun _ _ => rfl) ?_|refine Zb2 (fun _ _ => rfl) ?_|refine Kc2 rfl ?_))
  refine Z8o ?_
  exact Kar rfl ⟨by simp [Z8x, k0, k1, k2, k3, k15, k4, k14, k9, k13], rfl⟩
 have key : ∀ rest : Z2c, (¬ (n ≠ 0 ∧ k ≠ 9) → AWp Try.prog Zk9.n rest (ARet Zk9.res fun r σ' => r = .bool (Zmp k ks.length p i n) ∧ σ' = σ)
   (fset 1 (some (.int .i64 i)) (fset 2 (some (.int .i64 n)) (fset 3 (some (.iptr [.int .i64 k, .slc 1 (ns.map .str) false, .slc 6 (Zly ks) false, .int .i64 l, .int .i64 p, .int .i64 s])) Z28))) σ) →
   AWp Try.prog Zk9.n (.seq (Zk9.code.snd 1).fst rest) (ARet Zk9.res fun r σ' => r = .bool (Zmp k ks.length p i n) ∧ σ' = σ)
   (fset 1 (some (.int .i64 i)) (fset 2 (some (.int .i64 n)) (fset 3 (some (.iptr [.int .i64 k, .slc 1 (ns.map .str) false, .slc 6 (Zly ks) false, .int .i64 l, .int .i64 p, .int .i64 s])) Z28))) σ := by
  intro rest hrest
  (repeat(first|refine Kq rfl rfl rfl ?_|refine Ks ?_|refine Zb1 (fun _ _ => rfl) ?_))
  by_cases q1 : n = 0
  ·(rw [decide_eq_false (p := n ≠ 0) (by omega)])
   (repeat(first|refine Kq rfl rfl rfl ?_|refine Z97 rfl ?_|(refine Z99 ?_; (repeat(first|refine Z9x rfl ?_|refine Z9y ?_)); refine Z9w ?_)|refine Zb2 (fun _ _ => rfl) ?_|refine Kc2 rfl ?_))
   (refine Za0 (keep := [1, 2, 3]) ?_; ((repeat(first|refine Z9x rfl ?_|refine Z9y ?_)); refine Z9w ?_))
   exact hrest (by omega)
  ·(rw [decide_eq_true (p := n ≠ 0) (by omega)])
   (repeat(first|refine Kq rfl rfl rfl ?_|refine Z96 rfl (Kq rfl rfl rfl ?_)|(refine Z99 ?_; (repeat(first|refine Z9x rfl ?_|refine Z9y ?_)); refine Z9w ?_)))
   by_cases q2 : k = 9
   ·(rw [decide_eq_false (p := k ≠ 9) (by omega)])
    (repeat(first|refine Zb2 (fun _ _ => rfl) ?_|refine Kc2 rfl ?_))
    (refine Za0 (keep := [1, 2, 3]) ?_; ((repeat(first|refine Z9x rfl ?_|refine Z9y ?_)); refine Z9w ?_))
    exact hrest (by omega)
   ·(rw [decide_eq_true (p := k ≠ 9) (by omega)])
    (repeat(first|refine Kq rfl rfl rfl ?_|(refine Z99 ?_; (repeat(first|refine Z9x rfl ?_|refine Z9y ?_)); refine Z9w ?_)|refine Ks ?_|refine Zb1 (fun _ _ => rfl) ?_|refine Kc1 rfl ?_))
    refine Z8o ?_
    exact Kar rfl ⟨by simp [Zmp, q1, q2, Z8x], rfl⟩
 (refine Za0 (keep := [1, 2, 3]) ?_; ((repeat(first|refine Z9x rfl ?_|refine Z9y ?_)); refine Z9w ?_))
 exact key _ main
theorem Zn5 (t : Ty) (i n : Int) (nu : Bool) (bs : List UInt8) (vks : List Vl) (j : Nat) (hj : j ≤ 9223372036854775807) (hi : t.kind = 13 → 0 ≤ i) (hlt : Zmq t.kind i j < t.kids.length) (σ : Zc) :
  Z1s Try.prog Ze0 [encT t, encV (.mk nu i n bs vks), .int .i64 (j : Int)] σ fun r σ' => r = encT (kidT t i j) ∧ σ' = σ := by
 obtain ⟨k, ns, ks, l, p, s⟩ := t
 simp only [Ty.kind, Ty.kids] at hi hlt
 obtain ⟨t', ht'⟩ : ∃ t', ks[Zmq k i j]? = some t' := ⟨_, List.getElem?_eq_getElem hlt⟩
 have hkid : kidT (.mk k ns ks l p s) i j = t' := by simp only [kidT, Ty.kids, Ty.kind, List.getD_eq_getElem?_getD, ht', Option.getD_some]
 have hx := Zm3 ht'
 rw [hkid, Zm0 t'] at *
 simp only [encT, encV]
 refine Z94 rfl Zls (Nat.le_of_ble_eq_true rfl) ?_
 refine Za1 ?_
 refine Z9n rfl (Kfi rfl) fun b hb => ?_
 refine Z9n rfl (Kfi rfl) fun b2 hb2 => ?_
 refine Z9o (by simp [Z0.cells, Z0.one]) fun b3 hb3 => ?_
 (refine Z99 ?_; (repeat(first|refine Z9x rfl ?_|refine Z9y ?_)); refine Z9w ?_)
 refine Z8l (FSub.refl _) (τ := (b2, .cells 5 [.agg [.bool nu, .int .i64 i, .int .i64 n, .slc 1 (bytes bs) false, .slc 5 (Zmg vks) false]]) :: (b, .cells 6 [.agg [.int .i64 k, .slc 1 (ns.map .str) false, .slc 6 (Zly ks) false, .int .i64 l, .int .i64 p, .int .i64 s]]) :: (b3, .cells 6 [.agg [.int .i64 0, .slc 0 [] true, .slc 0 [] true, .int .i64 0, .int .i64 0, .int .i64 0]]) :: σ)
  (HSub.of_perm (List.Perm.trans (List.Perm.cons _ (List.Perm.swap _ _ _)) (List.Perm.swap _ _ _))) ?_
 refine Zaj (d := 4) (cs := [.bool nu, .int .i64 i, .int .i64 n, .slc 1 (bytes bs) false, .slc 5 (Zmg vks) false]) rfl ?_
 refine Zaj (d := 3) (cs := [.int .i64 k, .slc 1 (ns.map .str) false, .slc 6 (Zly ks) false, .int .i64 l, .int .i64 p, .int .i64 s]) rfl ?_
 have fin : ∀ (R : Z8i) (F : Z27), F 6 = some (.ptr b3 0 0) → (∀ F τ, R .ret F τ = ARet Zkt.res (fun r σ' => r = .agg (Zlz t') ∧ σ' = σ) .ret F τ) → AWp Try.prog Zkt.n .ret R F ((b3, .cells 6 [.agg (Zlz t')]) :: σ) := by
  intro R F hF hR
  refine Zaj (d := 6) (cs := Zlz t') hF ?_
  refine Z8o ?_
  rw [hR]
  exact Kar rfl ⟨rfl, rfl⟩
 by_cases k10 : k = 10
 ·subst k10
  (repeat(first|refine Kq rfl rfl rfl ?_|(refine Z99 ?_; (repeat(first|refine Z9x rfl ?_|refine Z9y ?_)); refine Z9w ?_)|refine Ks ?_|refine Zb1 (fun _ _ => rfl) ?_|refine Z8s ?_|refine Kc1 rfl ?_))
  refine Z9d rfl (by omega) (show (Zly ks)[(0 : Int).toNat]? = _ from hx) ?_
  (repeat refine Kq rfl rfl rfl ?_)
  refine Z9g rfl Z9a rfl (by decide) (Kfi rfl) (fun h => by cases h) Z9h ?_
  (repeat(refine Z99 ?_; (repeat(first|refine Z9x rfl ?_|refine Z9y ?_)); refine Z9w ?_))
  exact fin _ _ rfl fun _ _ => rfl
 by_cases k11 : k = 11
 ·subst k11
  (repeat(first|refine Kq rfl rfl rfl ?_|(refine Z99 ?_; (repeat(first|refine Z9x rfl ?_|refine Z9y ?_)); refine Z9w ?_)|refine Ks ?_|refine Zb1 (fun _ _ => rfl) ?_|refine Z8s ?_|refine Kc1 rfl ?_|refine Kc2 rfl ?_))
  have e : (j : Int).tmod 2 = ((j % 2 : Nat) : Int) := by rw [Int.tmod_eq_emod_of_nonneg (by omega)]; omega
  rw [e]
  refine Z9d rfl (by omega) (show (Zly ks)[((j % 2 : Nat) : Int).toNat]? = _ by rw [Int.toNat_natCast]; exact hx) ?_
  (repeat refine Kq rfl rfl rfl ?_)
  refine Z9g rfl Z9a rfl (by decide) (Kfi rfl) (fun h => by cases h) Z9h ?_
  (repeat(refine Z99 ?_; (repeat(first|refine Z9x rfl ?_|refine Z9y ?_)); refine Z9w ?_))
  exact fin _ _ rfl fun _ _ => rfl
 by_cases k13 : k = 13
 ·subst k13
  have h0 := hi rfl
  (repeat(first|refine Kq rfl rfl rfl ?_|(refine Z99 ?_; (repeat(first|refine Z9x rfl ?_|refine Z9y ?_)); refine Z9w ?_)|refine Ks ?_|refine Zb1 (fun _ _ => rfl) ?_|refine Z8s ?_|refine Kc1 rfl ?_|refine Kc2 rfl ?_))
  refine Z9d rfl h0 (show (Zly ks)[i.toNat]? = _ from hx) ?_
  (repeat refine Kq rfl rfl rfl ?_)
  refine Z9g rfl Z9a rfl (by decide) (Kfi rfl) (fun h => by cases h) Z9h ?_
  (repeat(refine Z99 ?_; (repeat(first|refine Z9x rfl ?_|refine Z9y ?_)); refine Z9w ?_))
  exact fin _ _ rfl fun _ _ => rfl
 have hx' : (Zly ks)[(j : Int).toNat]? = some (.agg (Zlz t')) := by
  rw [Int.toNat_natCast, ← hx, Zmq, if_neg k10, if_neg k11, if_neg k13]
 (repeat(first|refine Kq rfl rfl rfl ?_|(refine Z99 ?_; (repeat(first|refine Z9x rfl ?_|refine Z9y ?_)); refine Z9w ?_)|refine Ks ?_|refine Zb1 (fun _ _ => rfl) ?_|refine Z8s ?_))
 (rw [decide_eq_false (p := k = 10) (by omega)])
 (repeat(first|refine Kq rfl rfl rfl ?_|(refine Z99 ?_; (repeat(first|refine Z9x rfl ?_|refine Z9y ?_)); refine Z9w ?_)|refine Ks ?_|refine Zb1 (fun _ _ => rfl) ?_|refine Kc2 rfl ?_))
 (rw [decide_eq_false (p := k = 11) (by omega)])
 (repeat(first|refine Kq rfl rfl rfl ?_|(refine Z99 ?_; (repeat(first|refine Z9x rfl ?_|refine Z9y ?_)); refine Z9w ?_)|refine Ks ?_|refine Zb1 (fun _ _ => rfl) ?_|refine Kc2 rfl ?_))
 (rw [decide_eq_false (p := k = 13) (by omega)])
 (repeat(first|refine Kq rfl rfl rfl ?_|refine Ks ?_|refine Zb1 (fun _ _ => rfl) ?_|refine Zb2 (fun _ _ => rfl) ?_|refine Kc2 rfl ?_))
 refine Z9d rfl (by omega) hx' ?_
 (repeat refine Kq rfl rfl rfl ?_)
 refine Z9g rfl Z9a rfl (by decide) (Kfi rfl) (fun h => by cases h) Z9h ?_
 (repeat(refine Z99 ?_; (repeat(first|refine Z9x rfl ?_|refine Z9y ?_)); refine Z9w ?_))
 exact fin _ _ rfl fun _ _ => rfl
end Go.Abs
namespace Go.Abs.Names
open Go Go.Proofs Go.RowKit Go.Maps
def Dn (ns : List (List UInt8)) : DataW Unit := ns.foldl (fun D s => D.put (.string s) (.lit (.bool true))) (.map [])
theorem Zn6 (s : List UInt8) : WideAt.IsKeyLit (.string s) := by first | exact trivial | exact WideAt.IsKeyLit.string | simp [WideAt.IsKeyLit]
theorem Zn7 (ns : List (List UInt8)) (s : List UInt8) : Dn (ns ++ [s]) = (Dn ns).put (.string s) (.lit (.bool true)) := by simp [Dn]
theorem Zn8 : ∀ (ns : List (List UInt8)) (s : List UInt8), (Dn ns).atKey (.string s) (.lit (.bool false)) = .lit (.bool (decide (s ∈ ns))) := by
 intro ns s
 have : ∀ (ns : List (List UInt8)) (D : DataW Unit) (c : Bool), IsMap D → D.atKey (.string s) (.lit (.bool false)) = .lit (.bool c) →
   (ns.foldl (fun D s => D.put (.string s) (.lit (.bool true))) D).atKey (.string s) (.lit (.bool false)) = .lit (.bool (c || decide (s ∈ ns))) := by
  intro ns
  induction ns with
  | nil => intro D c hD h; simpa using h
  | cons u ns ih =>
   intro D c hD h
   have hD' : IsMap (D.put (.string u) (.lit (.bool true))) := by first | exact hD.put _ _ | exact isMap_put hD _ _
   by_cases e : s = u
   ·subst e
    have := ih _ true hD' (atKey_put_same hD (Zn6 s) _ _)
    simpa using this
   ·have := ih _ c hD' ((atKey_put_other (by simpa using e) _ _).trans h)
    simpa [e] using this
 exact (this ns _ false (by first | exact ⟨_, rfl⟩ | exact trivial | simp [IsMap]) rfl).trans (by simp)
def str (s : List UInt8) : Value := .string ⟨s.toArray⟩
def okTo (ns : List (List UInt8)) (k : Nat) : Prop := ∀ (a : Nat) (s : List UInt8), a < k → ns[a]? = some s → (s ≠ [] ∧ s.length ≤ 100) ∧ s ∉ ns.take a
theorem law9 : Keyed Try.prog 9 := string_keyed Try.underlying9
theorem Zn9 (w : World) : (zeroValue 4).run Try.prog w = .ok (.bool false) w := by kernel_rfl
theorem Zna {P : Program} {e : TypeId} {v : Value} {y : DataW Unit × List MemPlace} (he : P.underlying e = some .bool) (h : plainElem P e v = some y) : ∃ c, v = .bool c ∧ y = (.lit (.bool c), []) := by
 unfold plainElem at h
 rw [he] at h
 cases v <;> simp at h
 exact ⟨_, rfl, h.symm⟩
theorem look (ns : List (List UInt8)) (s : List UInt8) (hs : s.length ≤ maxLen) {w : World} {b n : Nat} (h : w.ownsMap Try.prog 9 (plainElem Try.prog 4) b n (Dn ns)) :
  (Instr.lookup 212 (.map (some b)) (str s) false).run Try.prog w = .ok (.bool (decide (s ∈ ns))) w := by
 have hk : keyOf Try.prog 9 (str s) = some (.string s) := by
  have := Go.WideMaps.keyOf_string_mk (P := Try.prog) (k := 9) Try.underlying9 (s := ⟨s.toArray⟩) (by simpa [ByteArray.size] using hs)
  simpa [str] using this
 obtain ⟨v, ps, hrun, hv⟩ := h.lookup law9 Try.underlying212 (Zn9 w) (zd := .lit (.bool false)) (zp := []) (by simp [plainElem, Try.underlying4]) hk
 rw [Zn8] at hv
 obtain ⟨c, rfl, e⟩ := Zna Try.underlying4 hv
 simp only [Prod.mk.injEq, DataW.lit.injEq, Lit.bool.injEq] at e
 rw [hrun, e.1]
set_option maxHeartbeats 1600000 in
set_option maxRecDepth 100000 in
theorem names_any (b off len cap : Nat) (ns : List (List UInt8)) (w : World) (hl : ns.length = len) (hm : len ≤ 140737488355328) (hb : b < w.heap.size)
  (hc : ∀ j, j < len → w.cell? ⟨b, off + j, none⟩ = some (str (ns.getD j []))) (hw : ∀ s ∈ ns, s.length ≤ maxLen) (R : Bool) (hR : R = true ↔ okTo ns len) :
  Calls Try.prog 156 #[.slice (some ⟨b, off, none⟩) len cap] w fun e w' => e = .returned (.bool R) ∧ Below w.heap.size w w' := by
 have hmm := @run_makeMap Try.prog
 have hm' : len ≤ 140737488355328 := hm
 go_enter Try.func156, Try.ntmps156
 go_wp2
 go_loopw [9] (fun i wr => ∃ k : Nat, k ≤ len ∧ i = .int .i64 k ∧ wr.ownsMap Try.prog 9 (plainElem Try.prog 4) w.heap.size k (Dn (ns.take k)) ∧ Below w.heap.size w wr ∧ okTo ns k)
  (fun i _ => len - (intOf i).toNat)
 case atStart => exact ⟨0, Nat.zero_le _, rfl, by exact World.ownsMap_made _ _ _ _, (Below.refl _ _).alloc (Nat.le_refl _) _, fun a s h => absurd h (by omega)⟩
 case round =>
  obtain ⟨k, hk, rfl, hown, hnx, hok⟩ := hrel
  have hcx : k < len → wr.cell? ⟨b, off + k, none⟩ = some (.string ⟨(ns.getD k []).toArray⟩) := fun _ => (hnx.cell (by exact hb)).trans (hc k (by omega))
  generalize hs : ns.getD k [] = s at hcx
  have hsl : s.length ≤ maxLen := by
   rw [List.getD_eq_getElem?_getD] at hs
   cases h : ns[k]? with
   | none => rw [h] at hs; subst hs; simp
   | some u => rw [h] at hs; simp at hs; subst hs; exact hw u (List.mem_of_getElem? h)
  have hkey : keyOf Try.prog 9 (.string ⟨s.toArray⟩) = some (.string s) := by
   have := Go.WideMaps.keyOf_string_mk (P := Try.prog) (k := 9) Try.underlying9 (s := ⟨s.toArray⟩) (by simpa [ByteArray.size] using hsl)
   simpa using this
  have hlook : (Instr.lookup 212 (.map (some w.heap.size)) (.string ⟨s.toArray⟩) false).run Try.prog wr = .ok (.bool (decide (s ∈ ns.take k))) wr := look (ns.take k) s hsl hown
  have bad : k < len → ¬ ((s ≠ [] ∧ s.length ≤ 100) ∧ s ∉ ns.take k) → R = false := fun hlt h => by
   cases hR' : R with
   | false => rfl
   | true =>
    refine absurd ((hR.1 hR') k s hlt ?_) h
    rw [← hs, List.getD_eq_getElem?_getD, List.getElem?_eq_getElem (by omega)]; rfl
  obtain ⟨w1, hupd, hown1, hgrow1⟩ := hown.update law9 Try.underlying212 (by unfold maxLen; omega) hkey (plainElem_bool Try.underlying4 true)
  go_wp2
  ·have hb' := bad (by assumption) (fun h => h.1.1 (by assumption))
   go_ret
   exact ⟨by rw [hb']; rfl, hnx⟩
  ·have hb' := bad (by assumption) (fun h => by
    rename_i h1 h2 h3 h4
    have h4' : (s.isEmpty = true ∨ 100 < (s.length : Int)) ∨ s ∈ List.take k ns := by assumption
    rcases h4' with (h4 | h4) | h4
    ·exact h.1.1 (by simpa using h4)
    ·have := h.1.2; omega
    ·exact h.2 h4)
   go_ret
   exact ⟨by rw [hb']; rfl, hnx⟩
  ·have hlt : k < len := by assumption
   have Zd : ns[k]? = some s := by rw [← hs, List.getD_eq_getElem?_getD, List.getElem?_eq_getElem (by omega)]; rfl
   have htake : ns.take (k + 1) = ns.take k ++ [s] := by rw [List.take_add_one, Zd]; rfl
   have hne : ¬ s = [] := by assumption
   have h100 : (s.length : Int) ≤ 100 := by assumption
   have hnin : (s.isEmpty = false ∧ (s.length : Int) ≤ 100) ∧ ¬s ∈ List.take k ns := by assumption
   go_roundw
   case rel =>
    refine ⟨k + 1, by omega, by first | go_num | (refine congrArg _ ?_; rw [IntWalk.wrap64_in _ (by omega)]; omega) | (simp; rw [IntWalk.wrap64_in _ (by omega)]; omega), ?_, ?_, ?_⟩
    ·rw [htake, Zn7]; exact hown1
    ·exact hnx.grown hgrow1 hnx.size (fun j hj => by cases hj; exact Nat.le_refl _)
    ·intro a u ha hu
     by_cases e : a = k
     ·subst e
      rw [Zd] at hu; cases hu
      exact ⟨⟨hne, by omega⟩, hnin.2⟩
     ·exact hok a u (by omega) hu
   case measure => simp [intOf]; omega
  ·have hb' := bad (by assumption) (fun h => by have := h.1.2; omega)
   go_ret
   exact ⟨by rw [hb']; rfl, hnx⟩
  ·have : k = len := by omega
   subst this
   go_ret
   exact ⟨by rw [hR.2 hok]; rfl, hnx⟩
set_option maxRecDepth 100000 in
theorem names_none (a : Option Addr) (cap : Nat) (w : World) : Calls Try.prog 156 #[.slice a 0 cap] w fun e w' => e = .returned (.bool true) ∧ Below w.heap.size w w' := by
 have hmm := @run_makeMap Try.prog
 go_enter Try.func156, Try.ntmps156
 go_wp2
 refine wp_loop_rounds 1 ?_
 rw [rounds_succ]
 go_wp2
 go_ret
 exact ⟨rfl, (Below.refl _ _).alloc (Nat.le_refl _) _⟩
end Go.Abs.Names
namespace Go.Abs
open Go Go.Proofs Go.RowKit
theorem Znb {K : Kr} {σ : Zc} {w w' : World} (r : Rel K σ w) (h : Below w.heap.size w w') : Rel K σ w' := by
 have hle := h.size
 refine ⟨r.ext.trans (h.mono ?_), r.oth.trans ⟨hle, fun k o hk _ => by rw [h.block k (Array.getElem?_eq_some_iff.1 hk).1]; exact hk⟩, fun b o v hb => ?_, r.nd, r.bnd, fun b L cb h1 h2 => Nat.lt_of_lt_of_le (r.lit b L cb h1 h2) hle, fun b blk hb => ?_, r.inj⟩
 ·exact r.ext.size
 ·have h1 := r.imm b o v hb
  have hlt : b < w.heap.size := by
   unfold World.cell? at h1
   split at h1
   ·rename_i hh
    exact (Array.getElem?_eq_some_iff.1 hh).1
   ·cases h1
  rw [h.cell hlt]; exact h1
 ·have ho := r.own b blk hb
  cases blk with
  | cells sz xs =>
   refine ⟨ho.1, ?_⟩
   rcases ho.2 with h1 | ⟨cb, p, cs, ty, h1, h2, h3, h4, h5⟩
   ·exact .inl h1
   ·exact .inr ⟨cb, p, cs, ty, h1, h2, h3, (h.block cb (Array.getElem?_eq_some_iff.1 h4).1).trans h4, h5⟩
theorem Znc {ns : List (List UInt8)} : Zm5 ns = true ↔ ∀ (a : Nat) (s : List UInt8), ns[a]? = some s → (s ≠ [] ∧ s.length ≤ 100) ∧ ∀ (k : Nat) (u : List UInt8), k < a → ns[k]? = some u → u ≠ s := by
 rw [Zm5, Bool.and_eq_true, List.all_eq_true, decide_eq_true_eq]
 constructor
 ·rintro ⟨h1, h2⟩ a s hs
  refine ⟨by simpa using h1 s (List.mem_of_getElem? hs), fun k u hk hu e => ?_⟩
  subst e
  obtain ⟨ha, e1⟩ := List.getElem?_eq_some_iff.1 hs
  obtain ⟨hk', e2⟩ := List.getElem?_eq_some_iff.1 hu
  exact List.pairwise_iff_getElem.1 h2 k a hk' ha hk (e2.trans e1.symm)
 ·intro h
  refine ⟨fun s hs => ?_, List.pairwise_iff_getElem.2 fun k a hk ha hka e => ?_⟩
  ·obtain ⟨a, ha⟩ := List.getElem?_of_mem hs
   simpa using (h a s ha).1
  ·exact (h a ns[a] (List.getElem?_eq_getElem ha)).2 k ns[k] hka (List.getElem?_eq_getElem hk) e
theorem Znd {ns : List (List UInt8)} {len : Nat} (hl : ns.length = len) : Zm5 ns = true ↔ Names.okTo ns len := by
 rw [Znc]
 constructor
 ·intro h a s _ hs
  refine ⟨(h a s hs).1, fun hm => ?_⟩
  obtain ⟨k, hk⟩ := List.getElem?_of_mem hm
  rw [List.getElem?_take] at hk
  split at hk
  ·exact (h a s hs).2 k s (by assumption) hk rfl
  ·cases hk
 ·intro h a s hs
  have ha := (List.getElem?_eq_some_iff.1 hs).1
  refine ⟨(h a s (by omega) hs).1, fun k u hk hu e => (h a s (by omega) hs).2 ?_⟩
  subst e
  refine List.mem_of_getElem? (i := k) ?_
  rw [List.getElem?_take_of_lt hk]; exact hu
theorem Zne (ns : List (List UInt8)) (f : Bool) (hl : ns.length ≤ 140737488355328) (hs : ∀ s ∈ ns, s.length ≤ maxLen) (σ : Zc) : Z1s Try.prog 156 [.slc 1 (ns.map .str) f] σ fun r σ' => r = .bool (Zm5 ns) ∧ σ' = σ := by
 intro K w vs hr hv
 have fin : (Calls Try.prog 156 vs.toArray w fun e w' => e = .returned (.bool (Zm5 ns)) ∧ Below w.heap.size w w') → Calls Try.prog 156 vs.toArray w fun e w' => ∃ v K' r σ', e = .returned v ∧ K.le K' ∧ Rel K' σ' w' ∧ VR K' r v ∧ r = .bool (Zm5 ns) ∧ σ' = σ := fun h =>
  h.mono fun e w' ⟨h1, h2⟩ => ⟨_, K, .bool (Zm5 ns), σ, h1, Kr.le.refl K, Znb hr h2, Z1.bool .nil, rfl, rfl⟩
 refine fin ?_
 obtain ⟨v, vs', rfl, h1, h2⟩ := hv.ex
 obtain rfl := h2.nil_inv
 unfold VR at h1
 generalize hxs : ns.map Z0.str = xs at h1
 cases h1 with
 | @slc0 _ _ a cap _ _ hf r =>
  have : ns = [] := List.map_eq_nil_iff.1 hxs
  subst this
  exact Names.names_none a cap w
 | @slc _ _ _ a n cap us _ _ hn he hsp hm hvv hc hf r =>
  subst hxs
  obtain ⟨b, o, sp⟩ := a
  simp only at hsp hm
  subst hsp
  have hnl : ns.length = n := by simpa using hn
  by_cases h0 : n = 0
  ·subst h0
   have : ns = [] := List.length_eq_zero_iff.1 hnl
   subst this
   exact Names.names_none _ cap w
  have hcell : ∀ j, j < n → w.cell? ⟨b, o + j, none⟩ = some (Names.str (ns.getD j [])) := by
   intro j hj
   have hfl : ((ns.map Z0.str).flatMap Z0.cells)[j]? = some (.str (ns.getD j [])) := by
    have : (ns.map Z0.str).flatMap Z0.cells = ns.map Z0.str := by
     clear hm hvv he hn hr hv h2 fin hs hl hnl
     induction ns with
     | nil => rfl
     | cons s ns ih => simp only [List.map_cons, List.flatMap_cons, ih]; rfl
    rw [this, List.getElem?_map, List.getD_eq_getElem?_getD, List.getElem?_eq_getElem (by omega)]; rfl
   obtain ⟨u, hu, hvu⟩ := hvv.get hfl
   have := hm j u hu
   have hw := hr.imm _ _ _ this
   rw [hw]
   unfold VR at hvu
   cases hvu with
   | str _ => rfl
  have hb : b < w.heap.size := by
   have h1 := hcell 0 (by omega)
   unfold World.cell? at h1
   split at h1
   ·rename_i hh
    exact (Array.getElem?_eq_some_iff.1 hh).1
   ·cases h1
  exact Names.names_any b o n cap ns w hnl (by omega) hb hcell hs (Zm5 ns) (Znd hnl)
end Go.Abs
namespace Go.Abs
open Go Go.Proofs
attribute [local irreducible] AWp aops KP
theorem Znf (k : Int) (σ : Zc) : Z1s Try.prog Zen [.int .i64 k] σ fun r σ' => r = .bool (Zm4 k) ∧ σ' = σ := by
 refine Z94 rfl Zlm (Nat.le_of_ble_eq_true rfl) ?_
 by_cases h10 : k = 10
 ·subst h10; (repeat(first|refine Kq rfl rfl rfl ?_|(refine Z99 ?_; (repeat(first|refine Z9x rfl ?_|refine Z9y ?_)); refine Z9w ?_)|refine Ks ?_|refine Zb1 (fun _ _ => rfl) ?_|refine Z8s ?_|refine Zb2 (fun _ _ => rfl) ?_|refine Zb3 (fun _ _ => rfl) ?_|refine Kc1 rfl ?_)); refine Z8o ?_; exact Kar rfl ⟨rfl, rfl⟩
 by_cases h11 : k = 11
 ·subst h11; (repeat(first|refine Kq rfl rfl rfl ?_|(refine Z99 ?_; (repeat(first|refine Z9x rfl ?_|refine Z9y ?_)); refine Z9w ?_)|refine Ks ?_|refine Zb1 (fun _ _ => rfl) ?_|refine Z8s ?_|refine Zb3 (fun _ _ => rfl) ?_|refine Kc1 rfl ?_|refine Kc2 rfl ?_)); refine Z8o ?_; exact Kar rfl ⟨rfl, rfl⟩
 by_cases h12 : k = 12
 ·subst h12; (repeat(first|refine Kq rfl rfl rfl ?_|(refine Z99 ?_; (repeat(first|refine Z9x rfl ?_|refine Z9y ?_)); refine Z9w ?_)|refine Ks ?_|refine Zb1 (fun _ _ => rfl) ?_|refine Z8s ?_|refine Zb2 (fun _ _ => rfl) ?_|refine Zb3 (fun _ _ => rfl) ?_|refine Kc1 rfl ?_|refine Kc2 rfl ?_)); refine Z8o ?_; exact Kar rfl ⟨rfl, rfl⟩
 by_cases h13 : k = 13
 ·subst h13; (repeat(first|refine Kq rfl rfl rfl ?_|(refine Z99 ?_; (repeat(first|refine Z9x rfl ?_|refine Z9y ?_)); refine Z9w ?_)|refine Ks ?_|refine Zb1 (fun _ _ => rfl) ?_|refine Z8s ?_|refine Zb2 (fun _ _ => rfl) ?_|refine Zb3 (fun _ _ => rfl) ?_|refine Kc1 rfl ?_|refine Kc2 rfl ?_)); refine Z8o ?_; exact Kar rfl ⟨rfl, rfl⟩
 (repeat(first|refine Kq rfl rfl rfl ?_|(refine Z99 ?_; (repeat(first|refine Z9x rfl ?_|refine Z9y ?_)); refine Z9w ?_)|refine Ks ?_|refine Zb1 (fun _ _ => rfl) ?_|refine Z8s ?_))
 rw [decide_eq_false h10]
 (repeat(first|refine Kq rfl rfl rfl ?_|(refine Z99 ?_; (repeat(first|refine Z9x rfl ?_|refine Z9y ?_)); refine Z9w ?_)|refine Zb1 (fun _ _ => rfl) ?_|refine Kc2 rfl ?_))
 rw [decide_eq_false h11]
 (repeat(first|refine Kq rfl rfl rfl ?_|(refine Z99 ?_; (repeat(first|refine Z9x rfl ?_|refine Z9y ?_)); refine Z9w ?_)|refine Ks ?_|refine Zb1 (fun _ _ => rfl) ?_|refine Zb2 (fun _ _ => rfl) ?_|refine Kc2 rfl ?_))
 rw [decide_eq_false h12]
 (repeat(first|refine Kq rfl rfl rfl ?_|(refine Z99 ?_; (repeat(first|refine Z9x rfl ?_|refine Z9y ?_)); refine Z9w ?_)|refine Zb1 (fun _ _ => rfl) ?_|refine Kc2 rfl ?_))
 rw [decide_eq_false h13]
 (repeat(first|refine Kq rfl rfl rfl ?_|(refine Z99 ?_; (repeat(first|refine Z9x rfl ?_|refine Z9y ?_)); refine Z9w ?_)|refine Ks ?_|refine Zb1 (fun _ _ => rfl) ?_|refine Zb2 (fun _ _ => rfl) ?_|refine Zb3 (fun _ _ => rfl) ?_|refine Kc2 rfl ?_))
 refine Z8o ?_
 exact Kar rfl ⟨by simp [Zm4, h10, h11, h12, h13, Z8x], rfl⟩
theorem Zng (t : Ty) (hk : t.kids.length ≤ 140737488355328) (hn : t.names.length ≤ 140737488355328) (hsn : ∀ s ∈ t.names, s.length ≤ maxLen) (σ : Zc) : Z1s Try.prog Zfg [encT t] σ fun r σ' => r = .bool (Zm7 t.kind t.names t.kids.length t.len t.prec t.scale) ∧ σ' = σ := by
 obtain ⟨k, ns, ks, l, p, s⟩ := t
 simp only [encT, Ty.kind, Ty.names, Ty.kids, Ty.len, Ty.prec, Ty.scale] at *
 refine Z94 rfl Zlo (Nat.le_of_ble_eq_true rfl) ?_
 refine Za1 ?_
 refine Z9n rfl (Kfi rfl) fun b hb => ?_
 repeat refine Kq rfl rfl rfl ?_
 (refine Z99 ?_; (repeat(first|refine Z9x rfl ?_|refine Z9y ?_)); refine Z9w ?_)
 refine Zaj (d := 1) (cs := [.int .i64 k, .slc 1 (ns.map .str) false, .slc 6 (Zly ks) false, .int .i64 l, .int .i64 p, .int .i64 s]) rfl ?_
 have main : ∀ (kn nm : Nat) (sz : Int) (ex : Bool), Zm7 k ns ks.length l p s = (decide (ks.length = kn) && decide (ns.length = nm) && decide (l = sz) && Zm5 ns && (if ex then decide (1 ≤ p ∧ p ≤ 18 ∧ 0 ≤ s ∧ s ≤ p) else decide (p = 0 ∧ s = 0))) →
   AWp Try.prog Zjj.n (Zjj.code.snd 3) (ARet Zjj.res fun r σ' => r = .bool (Zm7 k ns ks.length l p s) ∧ σ' = σ)
    (fset 1 (some (.iptr [.int .i64 k, .slc 1 (ns.map .str) false, .slc 6 (Zly ks) false, .int .i64 l, .int .i64 p, .int .i64 s])) (fset 3 (some (.int .i64 (kn : Int))) (fset 4 (some (.int .i64 (nm : Int))) (fset 5 (some (.int .i64 sz)) (fset 6 (some (.bool ex)) Z28))))) σ := by
  intro kn nm sz ex hr
  rw [hr]
  (repeat(first|refine Kq rfl rfl rfl ?_|refine Ks ?_|refine Zb1 (fun _ _ => rfl) ?_))
  rw [Zm2]
  by_cases g1 : ks.length = kn
  ·(rw [decide_eq_false (p := ((ks.length : Nat) : Int) ≠ (kn : Int)) (by omega)])
   (repeat(first|refine Kq rfl rfl rfl ?_|refine Z96 rfl (Kq rfl rfl rfl ?_)))
   rw [List.length_map]
   by_cases g2 : ns.length = nm
   ·(rw [decide_eq_false (p := ((ns.length : Nat) : Int) ≠ (nm : Int)) (by omega)])
    (repeat(first|refine Kq rfl rfl rfl ?_|refine Z96 rfl (Kq rfl rfl rfl ?_)))
    by_cases g3 : l = sz
    ·(rw [decide_eq_false (p := l ≠ sz) (by omega)])
     (repeat refine Z96 rfl (Kq rfl rfl rfl ?_))
     refine Z96 rfl (Z9v rfl (Zne ns false hn hsn _) ?_)
     cases hN : Zm5 ns with
     | false =>
      (repeat(first|refine Kq rfl rfl rfl ?_|refine Z96 rfl (Kq rfl rfl rfl ?_)|(refine Z99 ?_; (repeat(first|refine Z9x rfl ?_|refine Z9y ?_)); refine Z9w ?_)|refine Ks ?_|refine Zb1 (fun _ _ => rfl) ?_|refine Kc1 rfl ?_))
      refine Z8o ?_
      exact Kar rfl ⟨by simp [Z8x], rfl⟩
     | true =>
      cases ex with
      | true =>
       (repeat(first|refine Kq rfl rfl rfl ?_|refine Z96 rfl (Kq rfl rfl rfl ?_)|(refine Z99 ?_; (repeat(first|refine Z9x rfl ?_|refine Z9y ?_)); refine Z9w ?_)|refine Ks ?_|refine Zb1 (fun _ _ => rfl) ?_|refine Zb2 (fun _ _ => rfl) ?_|refine Kc1 rfl ?_|refine Kc2 rfl ?_))
       by_cases q1 : 1 ≤ p
       ·(rw [decide_eq_true (p := 1 ≤ p) (by omega)])
        (repeat(first|refine Kq rfl rfl rfl ?_|refine Z96 rfl (Kq rfl rfl rfl ?_)))
        by_cases q2 : p ≤ 18
        ·(rw [decide_eq_true (p := p ≤ 18) (by omega)])
         (repeat(first|refine Kq rfl rfl rfl ?_|refine Z96 rfl (Kq rfl rfl rfl ?_)))
         by_cases q3 : 0 ≤ s
         ·(rw [decide_eq_true (p := 0 ≤ s) (by omega)])
          (repeat(first|refine Kq rfl rfl rfl ?_|refine Z96 rfl (Kq rfl rfl rfl ?_)|(refine Z99 ?_; (repeat(first|refine Z9x rfl ?_|refine Z9y ?_)); refine Z9w ?_)))
          refine Z8o ?_
          exact Kar rfl ⟨by simp [Z8x, g1, g2, g3, q1, q2, q3], rfl⟩
         ·(rw [decide_eq_false (p := 0 ≤ s) (by omega)])
          (repeat(first|refine Kq rfl rfl rfl ?_|refine Z97 rfl ?_|(refine Z99 ?_; (repeat(first|refine Z9x rfl ?_|refine Z9y ?_)); refine Z9w ?_)))
          refine Z8o ?_
          exact Kar rfl ⟨by simp [Z8x, g1, g2, g3, q1, q2, q3], rfl⟩
        ·(rw [decide_eq_false (p := p ≤ 18) (by omega)])
         (repeat(first|refine Kq rfl rfl rfl ?_|refine Z97 rfl ?_|(refine Z99 ?_; (repeat(first|refine Z9x rfl ?_|refine Z9y ?_)); refine Z9w ?_)))
         refine Z8o ?_
         exact Kar rfl ⟨by simp [Z8x, g1, g2, g3, q1, q2], rfl⟩
       ·(rw [decide_eq_false (p := 1 ≤ p) (by omega)])
        (repeat(first|refine Kq rfl rfl rfl ?_|refine Z97 rfl ?_|(refine Z99 ?_; (repeat(first|refine Z9x rfl ?_|refine Z9y ?_)); refine Z9w ?_)))
        refine Z8o ?_
        exact Kar rfl ⟨by simp [Z8x, g1, g2, g3, q1], rfl⟩
      | false =>
       (repeat(first|refine Kq rfl rfl rfl ?_|refine Z96 rfl (Kq rfl rfl rfl ?_)|(refine Z99 ?_; (repeat(first|refine Z9x rfl ?_|refine Z9y ?_)); refine Z9w ?_)|refine Ks ?_|refine Zb1 (fun _ _ => rfl) ?_|refine Zb2 (fun _ _ => rfl) ?_|refine Kc2 rfl ?_))
       by_cases q1 : p = 0
       ·(rw [decide_eq_true (p := p = 0) (by omega)])
        (repeat(first|refine Kq rfl rfl rfl ?_|refine Z96 rfl (Kq rfl rfl rfl ?_)|(refine Z99 ?_; (repeat(first|refine Z9x rfl ?_|refine Z9y ?_)); refine Z9w ?_)))
        refine Z8o ?_
        exact Kar rfl ⟨by simp [Z8x, g1, g2, g3, q1], rfl⟩
       ·(rw [decide_eq_false (p := p = 0) (by omega)])
        (repeat(first|refine Kq rfl rfl rfl ?_|refine Z97 rfl ?_|(refine Z99 ?_; (repeat(first|refine Z9x rfl ?_|refine Z9y ?_)); refine Z9w ?_)))
        refine Z8o ?_
        exact Kar rfl ⟨by simp [Z8x, g1, g2, g3, q1], rfl⟩
    ·(rw [decide_eq_true (p := l ≠ sz) (by omega)])
     (repeat(first|refine Kq rfl rfl rfl ?_|refine Z97 rfl ?_|(refine Z99 ?_; (repeat(first|refine Z9x rfl ?_|refine Z9y ?_)); refine Z9w ?_)|refine Ks ?_|refine Zb1 (fun _ _ => rfl) ?_|refine Kc1 rfl ?_))
     refine Z8o ?_
     exact Kar rfl ⟨by simp [Z8x, g3], rfl⟩
   ·(rw [decide_eq_true (p := ((ns.length : Nat) : Int) ≠ (nm : Int)) (by omega)])
    (repeat(first|refine Kq rfl rfl rfl ?_|refine Z97 rfl ?_|(refine Z99 ?_; (repeat(first|refine Z9x rfl ?_|refine Z9y ?_)); refine Z9w ?_)|refine Ks ?_|refine Zb1 (fun _ _ => rfl) ?_|refine Kc1 rfl ?_))
    refine Z8o ?_
    exact Kar rfl ⟨by simp [Z8x, g2], rfl⟩
  ·(rw [decide_eq_true (p := ((ks.length : Nat) : Int) ≠ (kn : Int)) (by omega)])
   (repeat(first|refine Kq rfl rfl rfl ?_|refine Z97 rfl ?_|(refine Z99 ?_; (repeat(first|refine Z9x rfl ?_|refine Z9y ?_)); refine Z9w ?_)|refine Ks ?_|refine Zb1 (fun _ _ => rfl) ?_|refine Kc1 rfl ?_))
   refine Z8o ?_
   exact Kar rfl ⟨by simp [Z8x, g1], rfl⟩
 have nil0 : (decide (ns.length = 0) : Bool) = ns.isEmpty := by cases ns <;> simp
 refine Za1 ?_
 repeat refine Kq rfl rfl rfl ?_
 (refine Z99 ?_; (repeat(first|refine Z9x rfl ?_|refine Z9y ?_)); refine Z9w ?_)
 have key : ∀ rest : Z2c, (∀ (kn nm : Nat) (sz : Int) (ex : Bool), Zm7 k ns ks.length l p s = (decide (ks.length = kn) && decide (ns.length = nm) && decide (l = sz) && Zm5 ns && (if ex then decide (1 ≤ p ∧ p ≤ 18 ∧ 0 ≤ s ∧ s ≤ p) else decide (p = 0 ∧ s = 0))) →
   AWp Try.prog Zjj.n rest (ARet Zjj.res fun r σ' => r = .bool (Zm7 k ns ks.length l p s) ∧ σ' = σ)
    (fset 1 (some (.iptr [.int .i64 k, .slc 1 (ns.map .str) false, .slc 6 (Zly ks) false, .int .i64 l, .int .i64 p, .int .i64 s])) (fset 3 (some (.int .i64 (kn : Int))) (fset 4 (some (.int .i64 (nm : Int))) (fset 5 (some (.int .i64 sz)) (fset 6 (some (.bool ex)) Z28))))) σ) →
   AWp Try.prog Zjj.n (.seq (Zjj.code.snd 2).fst rest) (ARet Zjj.res fun r σ' => r = .bool (Zm7 k ns ks.length l p s) ∧ σ' = σ)
    (fset 1 (some (.iptr [.int .i64 k, .slc 1 (ns.map .str) false, .slc 6 (Zly ks) false, .int .i64 l, .int .i64 p, .int .i64 s])) (fset 3 (some (.int .i64 0)) (fset 4 (some (.int .i64 0)) (fset 5 (some (.int .i64 0)) (fset 6 (some (.bool false)) Z28))))) σ := by
  intro rest main
  by_cases h11 : k = 11
  ·subst h11
   (repeat(first|refine Kq rfl rfl rfl ?_|(refine Z99 ?_; (repeat(first|refine Z9x rfl ?_|refine Z9y ?_)); refine Z9w ?_)|refine Ks ?_|refine Zb1 (fun _ _ => rfl) ?_|refine Z8s ?_|refine Zb3 (fun _ _ => rfl) ?_|refine Kc1 rfl ?_))
   exact main 2 0 0 false (by simp [Zm7, Zm6, ← nil0]; grind)
  by_cases h10 : k = 10
  ·subst h10
   (repeat(first|refine Kq rfl rfl rfl ?_|(refine Z99 ?_; (repeat(first|refine Z9x rfl ?_|refine Z9y ?_)); refine Z9w ?_)|refine Ks ?_|refine Zb1 (fun _ _ => rfl) ?_|refine Z8s ?_|refine Zb2 (fun _ _ => rfl) ?_|refine Zb3 (fun _ _ => rfl) ?_|refine Kc1 rfl ?_|refine Kc2 rfl ?_))
   exact main 1 0 0 false (by simp [Zm7, Zm6, ← nil0]; grind)
  by_cases h12 : k = 12
  ·subst h12
   (repeat(first|refine Kq rfl rfl rfl ?_|(refine Z99 ?_; (repeat(first|refine Z9x rfl ?_|refine Z9y ?_)); refine Z9w ?_)|refine Ks ?_|refine Zb1 (fun _ _ => rfl) ?_|refine Z8s ?_|refine Zb2 (fun _ _ => rfl) ?_|refine Zb3 (fun _ _ => rfl) ?_|refine Kc1 rfl ?_|refine Kc2 rfl ?_))
   rw [List.length_map]
   exact main ns.length ns.length 0 false (by simp [Zm7, Zm6]; grind)
  by_cases h13 : k = 13
  ·subst h13
   (repeat(first|refine Kq rfl rfl rfl ?_|(refine Z99 ?_; (repeat(first|refine Z9x rfl ?_|refine Z9y ?_)); refine Z9w ?_)|refine Ks ?_|refine Zb1 (fun _ _ => rfl) ?_|refine Z8s ?_|refine Zb2 (fun _ _ => rfl) ?_|refine Zb3 (fun _ _ => rfl) ?_|refine Kc1 rfl ?_|refine Kc2 rfl ?_))
   rw [Zm2]
   by_cases g1 : ks.length < 1
   ·(rw [decide_eq_true (p := ((ks.length : Nat) : Int) < 1) (by omega)])
    (repeat(first|refine Kq rfl rfl rfl ?_|refine Z97 rfl ?_|(refine Z99 ?_; (repeat(first|refine Z9x rfl ?_|refine Z9y ?_)); refine Z9w ?_)|refine Ks ?_|refine Zb1 (fun _ _ => rfl) ?_|refine Kc1 rfl ?_))
    refine Z8o ?_
    exact Kar rfl ⟨by simp [Z8x, Zm7, Zm6]; omega, rfl⟩
   ·(rw [decide_eq_false (p := ((ks.length : Nat) : Int) < 1) (by omega)])
    (repeat(first|refine Kq rfl rfl rfl ?_|refine Z96 rfl (Kq rfl rfl rfl ?_)|(refine Z99 ?_; (repeat(first|refine Z9x rfl ?_|refine Z9y ?_)); refine Z9w ?_)))
    by_cases g2 : 255 < ks.length
    ·(rw [decide_eq_true (p := (255 : Int) < ((ks.length : Nat) : Int)) (by omega)])
     (repeat(first|refine Kq rfl rfl rfl ?_|(refine Z99 ?_; (repeat(first|refine Z9x rfl ?_|refine Z9y ?_)); refine Z9w ?_)|refine Ks ?_|refine Zb1 (fun _ _ => rfl) ?_|refine Kc1 rfl ?_))
     refine Z8o ?_
     exact Kar rfl ⟨by simp [Z8x, Zm7, Zm6]; omega, rfl⟩
    ·(rw [decide_eq_false (p := (255 : Int) < ((ks.length : Nat) : Int)) (by omega)])
     (repeat(first|refine Zb2 (fun _ _ => rfl) ?_|refine Zb3 (fun _ _ => rfl) ?_|refine Kc2 rfl ?_))
     (refine Za0 (keep := [1, 3, 4, 5, 6]) ?_; ((repeat(first|refine Z9x rfl ?_|refine Z9y ?_)); refine Z9w ?_))
     exact main ks.length 0 0 false (by simp [Zm7, Zm6, ← nil0]; grind)
  by_cases h16 : k = 16
  ·subst h16
   (repeat(first|refine Kq rfl rfl rfl ?_|(refine Z99 ?_; (repeat(first|refine Z9x rfl ?_|refine Z9y ?_)); refine Z9w ?_)|refine Ks ?_|refine Zb1 (fun _ _ => rfl) ?_|refine Z8s ?_|refine Zb2 (fun _ _ => rfl) ?_|refine Zb3 (fun _ _ => rfl) ?_|refine Kc1 rfl ?_|refine Kc2 rfl ?_))
   by_cases g1 : l < 1
   ·(rw [decide_eq_true (p := l < 1) (by omega)])
    (repeat(first|refine Kq rfl rfl rfl ?_|refine Z97 rfl ?_|(refine Z99 ?_; (repeat(first|refine Z9x rfl ?_|refine Z9y ?_)); refine Z9w ?_)|refine Ks ?_|refine Zb1 (fun _ _ => rfl) ?_|refine Kc1 rfl ?_))
    refine Z8o ?_
    exact Kar rfl ⟨by simp [Z8x, Zm7, Zm6]; omega, rfl⟩
   ·(rw [decide_eq_false (p := l < 1) (by omega)])
    (repeat(first|refine Kq rfl rfl rfl ?_|refine Z96 rfl (Kq rfl rfl rfl ?_)|(refine Z99 ?_; (repeat(first|refine Z9x rfl ?_|refine Z9y ?_)); refine Z9w ?_)))
    by_cases g2 : 4096 < l
    ·(rw [decide_eq_true (p := 4096 < l) (by omega)])
     (repeat(first|refine Kq rfl rfl rfl ?_|(refine Z99 ?_; (repeat(first|refine Z9x rfl ?_|refine Z9y ?_)); refine Z9w ?_)|refine Ks ?_|refine Zb1 (fun _ _ => rfl) ?_|refine Kc1 rfl ?_))
     refine Z8o ?_
     exact Kar rfl ⟨by simp [Z8x, Zm7, Zm6]; omega, rfl⟩
    ·(rw [decide_eq_false (p := 4096 < l) (by omega)])
     (repeat(first|refine Zb2 (fun _ _ => rfl) ?_|refine Zb3 (fun _ _ => rfl) ?_|refine Kc2 rfl ?_))
     (refine Za0 (keep := [1, 3, 4, 5, 6]) ?_; ((repeat(first|refine Z9x rfl ?_|refine Z9y ?_)); refine Z9w ?_))
     exact main 0 0 l false (by simp [Zm7, Zm6, ← nil0]; grind)
  by_cases h17 : k = 17
  ·subst h17
   (repeat(first|refine Kq rfl rfl rfl ?_|(refine Z99 ?_; (repeat(first|refine Z9x rfl ?_|refine Z9y ?_)); refine Z9w ?_)|refine Ks ?_|refine Zb1 (fun _ _ => rfl) ?_|refine Z8s ?_|refine Zb2 (fun _ _ => rfl) ?_|refine Zb3 (fun _ _ => rfl) ?_|refine Kc1 rfl ?_|refine Kc2 rfl ?_))
   by_cases g1 : l < 1
   ·(rw [decide_eq_true (p := l < 1) (by omega)])
    (repeat(first|refine Kq rfl rfl rfl ?_|refine Z97 rfl ?_|(refine Z99 ?_; (repeat(first|refine Z9x rfl ?_|refine Z9y ?_)); refine Z9w ?_)|refine Ks ?_|refine Zb1 (fun _ _ => rfl) ?_|refine Kc1 rfl ?_))
    refine Z8o ?_
    exact Kar rfl ⟨by simp [Z8x, Zm7, Zm6]; omega, rfl⟩
   ·(rw [decide_eq_false (p := l < 1) (by omega)])
    (repeat(first|refine Kq rfl rfl rfl ?_|refine Z96 rfl (Kq rfl rfl rfl ?_)|(refine Z99 ?_; (repeat(first|refine Z9x rfl ?_|refine Z9y ?_)); refine Z9w ?_)))
    by_cases g2 : 4096 < l
    ·(rw [decide_eq_true (p := 4096 < l) (by omega)])
     (repeat(first|refine Kq rfl rfl rfl ?_|(refine Z99 ?_; (repeat(first|refine Z9x rfl ?_|refine Z9y ?_)); refine Z9w ?_)|refine Ks ?_|refine Zb1 (fun _ _ => rfl) ?_|refine Kc1 rfl ?_))
     refine Z8o ?_
     exact Kar rfl ⟨by simp [Z8x, Zm7, Zm6]; omega, rfl⟩
    ·(rw [decide_eq_false (p := 4096 < l) (by omega)])
     (repeat(first|refine Zb2 (fun _ _ => rfl) ?_|refine Zb3 (fun _ _ => rfl) ?_|refine Kc2 rfl ?_))
     (refine Za0 (keep := [1, 3, 4, 5, 6]) ?_; ((repeat(first|refine Z9x rfl ?_|refine Z9y ?_)); refine Z9w ?_))
     exact main 0 0 l false (by simp [Zm7, Zm6, ← nil0]; grind)
  by_cases h14 : k = 14
  ·subst h14
   (repeat(first|refine Kq rfl rfl rfl ?_|(refine Z99 ?_; (repeat(first|refine Z9x rfl ?_|refine Z9y ?_)); refine Z9w ?_)|refine Ks ?_|refine Zb1 (fun _ _ => rfl) ?_|refine Z8s ?_|refine Zb2 (fun _ _ => rfl) ?_|refine Zb3 (fun _ _ => rfl) ?_|refine Kc1 rfl ?_|refine Kc2 rfl ?_))
   (refine Za0 (keep := [1, 3, 4, 5, 6]) ?_; ((repeat(first|refine Z9x rfl ?_|refine Z9y ?_)); refine Z9w ?_))
   exact main 0 0 0 true (by simp [Zm7, Zm6, ← nil0]; grind)
  (repeat(first|refine Kq rfl rfl rfl ?_|(refine Z99 ?_; (repeat(first|refine Z9x rfl ?_|refine Z9y ?_)); refine Z9w ?_)|refine Ks ?_|refine Zb1 (fun _ _ => rfl) ?_|refine Z8s ?_))
  (rw [decide_eq_false (p := k = 11) (by omega)])
  (repeat(first|refine Kq rfl rfl rfl ?_|(refine Z99 ?_; (repeat(first|refine Z9x rfl ?_|refine Z9y ?_)); refine Z9w ?_)|refine Ks ?_|refine Zb1 (fun _ _ => rfl) ?_|refine Zb2 (fun _ _ => rfl) ?_|refine Kc2 rfl ?_))
  (rw [decide_eq_false (p := k = 10) (by omega)])
  (repeat(first|refine Kq rfl rfl rfl ?_|(refine Z99 ?_; (repeat(first|refine Z9x rfl ?_|refine Z9y ?_)); refine Z9w ?_)|refine Ks ?_|refine Zb1 (fun _ _ => rfl) ?_|refine Zb2 (fun _ _ => rfl) ?_|refine Kc2 rfl ?_))
  (rw [decide_eq_false (p := k = 12) (by omega)])
  (repeat(first|refine Kq rfl rfl rfl ?_|(refine Z99 ?_; (repeat(first|refine Z9x rfl ?_|refine Z9y ?_)); refine Z9w ?_)|refine Ks ?_|refine Zb1 (fun _ _ => rfl) ?_|refine Zb2 (fun _ _ => rfl) ?_|refine Kc2 rfl ?_))
  (rw [decide_eq_false (p := k = 13) (by omega)])
  (repeat(first|refine Kq rfl rfl rfl ?_|(refine Z99 ?_; (repeat(first|refine Z9x rfl ?_|refine Z9y ?_)); refine Z9w ?_)|refine Ks ?_|refine Zb1 (fun _ _ => rfl) ?_|refine Zb2 (fun _ _ => rfl) ?_|refine Kc2 rfl ?_))
  (rw [decide_eq_false (p := k = 16) (by omega)])
  (repeat(first|refine Kq rfl rfl rfl ?_|(refine Z99 ?_; (repeat(first|refine Z9x rfl ?_|refine Z9y ?_)); refine Z9w ?_)|refine Zb1 (fun _ _ => rfl) ?_|refine Kc2 rfl ?_))
  (rw [decide_eq_false (p := k = 17) (by omega)])
  (repeat(first|refine Kq rfl rfl rfl ?_|(refine Z99 ?_; (repeat(first|refine Z9x rfl ?_|refine Z9y ?_)); refine Z9w ?_)|refine Ks ?_|refine Zb1 (fun _ _ => rfl) ?_|refine Zb2 (fun _ _ => rfl) ?_|refine Kc2 rfl ?_))
  (rw [decide_eq_false (p := k = 14) (by omega)])
  (repeat(first|refine Zb2 (fun _ _ => rfl) ?_|refine Zb3 (fun _ _ => rfl) ?_|refine Kc2 rfl ?_))
  (refine Za0 (keep := [1, 3, 4, 5, 6]) ?_; ((repeat(first|refine Z9x rfl ?_|refine Z9y ?_)); refine Z9w ?_))
  exact main 0 0 0 false (by simp [Zm7, Zm6, ← nil0, h11, h10, h12, h13, h16, h17, h14]; grind)
 exact key _ main
end Go.Abs
namespace Go.Abs
open Go Go.Proofs
attribute [local irreducible] AWp aops KP
inductive Ty.Fit : Ty → Prop
 | mk {t : Ty} (h1 : t.kids.length ≤ 140737488355328) (h2 : t.names.length ≤ 140737488355328) (h4 : ∀ s ∈ t.names, s.length ≤ maxLen) (h : ∀ k ∈ t.kids, Ty.Fit k) : Ty.Fit t
theorem Znh : ∀ (t : Ty) (deep n : Nat), n ≤ 100 → (chk deep n t).1 ≤ 100 := by
 refine Ty.ind fun k ns ks l p s ih deep n hn => ?_
 have hL : ∀ (ks : List Ty), (∀ t ∈ ks, ∀ (deep n : Nat), n ≤ 100 → (chk deep n t).1 ≤ 100) → ∀ deep n, n ≤ 100 → (chkL deep n ks).1 ≤ 100 := by
  intro ks
  induction ks with
  | nil => intro _ deep n hn; simpa [chkL] using hn
  | cons t ts ih2 =>
   intro h deep n hn
   rw [chkL]
   split
   ·exact h t (by simp) deep n hn
   ·exact ih2 (fun t ht => h t (by simp [ht])) deep _ (h t (by simp) deep n hn)
 rw [chk]
 split
 ·exact hn
 ·split
  ·exact hn
  ·exact hL ks ih (deep + 1) (n + 1) (by omega)
theorem Zni : ∀ (t : Ty) (deep n : Nat), (chk deep n t).2 ≤ 5 := by
 refine Ty.ind fun k ns ks l p s ih deep n => ?_
 have hL : ∀ (ks : List Ty), (∀ t ∈ ks, ∀ (deep n : Nat), (chk deep n t).2 ≤ 5) → ∀ deep n, (chkL deep n ks).2 ≤ 5 := by
  intro ks
  induction ks with
  | nil => intro _ deep n; simp [chkL]
  | cons t ts ih2 =>
   intro h deep n
   rw [chkL]
   split
   ·exact h t (by simp) deep n
   ·exact ih2 (fun t ht => h t (by simp [ht])) deep _
 rw [chk]
 split
 ·simp
 ·split
  ·simp only [ownF]; split <;> (try split) <;> simp
  ·exact hL ks ih (deep + 1) (n + 1)
theorem Znj : ∀ (t : Ty), t.Fit → ∀ (deep n b : Nat), deep ≤ 17 → n ≤ 100 → ∀ σ, Z1s Try.prog Zej [encT t, .int .i64 (deep : Int), .ptr b 0 0] ((b, .cells 1 [.int .i64 (n : Int)]) :: σ) fun r σ' => r = .int .i64 ((chk deep n t).2 : Int) ∧ σ' = (b, .cells 1 [.int .i64 ((chk deep n t).1 : Int)]) :: σ := by
 refine Ty.ind fun k ns ks l p s ih hfit deep n b hd hn σ => ?_
 cases hfit with
 | mk hk1 hn1 hn4 hkids =>
 have hright := Zng (.mk k ns ks l p s) hk1 hn1 hn4
 simp only [encT, Ty.kind, Ty.names, Ty.kids, Ty.len, Ty.prec, Ty.scale] at *
 refine Z94 rfl Zli (Nat.le_of_ble_eq_true rfl) ?_
 refine Za1 ?_
 refine Z9n rfl (Kfi rfl) fun pb hpb => ?_
 repeat refine Kq rfl rfl rfl ?_
 (refine Z99 ?_; (repeat(first|refine Z9x rfl ?_|refine Z9y ?_)); refine Z9w ?_)
 refine Zaj (d := 3) (cs := [.int .i64 k, .slc 1 (ns.map .str) false, .slc 6 (Zly ks) false, .int .i64 l, .int .i64 p, .int .i64 s]) rfl ?_
 (repeat(first|refine Kq rfl rfl rfl ?_|refine Ks ?_|refine Zb1 (fun _ _ => rfl) ?_|refine Z8s ?_))
 by_cases g1 : 16 < deep
 ·(rw [decide_eq_true (p := (16 : Int) < (deep : Int)) (by omega)])
  (repeat(first|refine Kq rfl rfl rfl ?_|refine Z97 rfl ?_|(refine Z99 ?_; (repeat(first|refine Z9x rfl ?_|refine Z9y ?_)); refine Z9w ?_)|refine Ks ?_|refine Zb1 (fun _ _ => rfl) ?_|refine Kc1 rfl ?_))
  refine Z8o ?_
  exact Kar rfl ⟨by rw [chk, if_pos (.inl g1)]; rfl, by rw [chk, if_pos (.inl g1)]⟩
 (rw [decide_eq_false (p := (16 : Int) < (deep : Int)) (by omega)])
 (repeat refine Z96 rfl (Kq rfl rfl rfl ?_))
 refine Z96 rfl (Z9c rfl Z9a rfl rfl ?_)
 (repeat(first|refine Kq rfl rfl rfl ?_|refine Z96 rfl (Kq rfl rfl rfl ?_)|(refine Z99 ?_; (repeat(first|refine Z9x rfl ?_|refine Z9y ?_)); refine Z9w ?_)))
 by_cases g2 : 100 ≤ n
 ·(rw [decide_eq_true (p := (100 : Int) ≤ (n : Int)) (by omega)])
  (repeat(first|refine Kq rfl rfl rfl ?_|(refine Z99 ?_; (repeat(first|refine Z9x rfl ?_|refine Z9y ?_)); refine Z9w ?_)|refine Ks ?_|refine Zb1 (fun _ _ => rfl) ?_|refine Kc1 rfl ?_))
  refine Z8o ?_
  exact Kar rfl ⟨by rw [chk, if_pos (.inr g2)]; rfl, by rw [chk, if_pos (.inr g2)]⟩
 (rw [decide_eq_false (p := (100 : Int) ≤ (n : Int)) (by omega)])
 (repeat(first|refine Kq rfl rfl rfl ?_|refine Ks ?_|refine Zb1 (fun _ _ => rfl) ?_|refine Kc2 rfl ?_))
 have hc0 : ¬ (16 < deep ∨ 100 ≤ n) := by omega
 by_cases g3 : k = 5
 ·(rw [decide_eq_true (p := k = 5) (by omega)])
  (repeat(first|refine Kq rfl rfl rfl ?_|refine Z97 rfl ?_|(refine Z99 ?_; (repeat(first|refine Z9x rfl ?_|refine Z9y ?_)); refine Z9w ?_)|refine Ks ?_|refine Zb1 (fun _ _ => rfl) ?_|refine Kc1 rfl ?_))
  have hc1 : ownF k ns ks.length l p s = 5 := by simp [ownF, g3]
  refine Z8o ?_
  exact Kar rfl ⟨by rw [chk, if_neg hc0, hc1, if_pos (by decide)]; rfl, by rw [chk, if_neg hc0, hc1, if_pos (by decide)]⟩
 (rw [decide_eq_false (p := k = 5) (by omega)])
 (repeat(first|refine Kq rfl rfl rfl ?_|refine Z96 rfl (Kq rfl rfl rfl ?_)|(refine Z99 ?_; (repeat(first|refine Z9x rfl ?_|refine Z9y ?_)); refine Z9w ?_)))
 by_cases g4 : k = 6
 ·(rw [decide_eq_true (p := k = 6) (by omega)])
  (repeat(first|refine Kq rfl rfl rfl ?_|(refine Z99 ?_; (repeat(first|refine Z9x rfl ?_|refine Z9y ?_)); refine Z9w ?_)|refine Ks ?_|refine Zb1 (fun _ _ => rfl) ?_|refine Kc1 rfl ?_))
  have hc1 : ownF k ns ks.length l p s = 5 := by simp [ownF, g4]
  refine Z8o ?_
  exact Kar rfl ⟨by rw [chk, if_neg hc0, hc1, if_pos (by decide)]; rfl, by rw [chk, if_neg hc0, hc1, if_pos (by decide)]⟩
 (rw [decide_eq_false (p := k = 6) (by omega)])
 (repeat(first|refine Kq rfl rfl rfl ?_|refine Ks ?_|refine Zb1 (fun _ _ => rfl) ?_|refine Kc2 rfl ?_))
 by_cases g5 : k < 0
 ·(rw [decide_eq_true (p := k < 0) (by omega)])
  (repeat(first|refine Kq rfl rfl rfl ?_|refine Z97 rfl ?_|(refine Z99 ?_; (repeat(first|refine Z9x rfl ?_|refine Z9y ?_)); refine Z9w ?_)|refine Ks ?_|refine Zb1 (fun _ _ => rfl) ?_|refine Kc1 rfl ?_))
  have hc1 : ownF k ns ks.length l p s = 1 := by simp [ownF, g3, g4, g5]
  refine Z8o ?_
  exact Kar rfl ⟨by rw [chk, if_neg hc0, hc1, if_pos (by decide)]; rfl, by rw [chk, if_neg hc0, hc1, if_pos (by decide)]⟩
 (rw [decide_eq_false (p := k < 0) (by omega)])
 (repeat(first|refine Kq rfl rfl rfl ?_|refine Z96 rfl (Kq rfl rfl rfl ?_)))
 by_cases g6 : 17 < k
 ·(rw [decide_eq_true (p := 17 < k) (by omega)])
  (repeat(first|refine Kq rfl rfl rfl ?_|refine Z97 rfl ?_|(refine Z99 ?_; (repeat(first|refine Z9x rfl ?_|refine Z9y ?_)); refine Z9w ?_)|refine Ks ?_|refine Zb1 (fun _ _ => rfl) ?_|refine Kc1 rfl ?_))
  have hc1 : ownF k ns ks.length l p s = 1 := by simp [ownF, g3, g4, g6]
  refine Z8o ?_
  exact Kar rfl ⟨by rw [chk, if_neg hc0, hc1, if_pos (by decide)]; rfl, by rw [chk, if_neg hc0, hc1, if_pos (by decide)]⟩
 (rw [decide_eq_false (p := 17 < k) (by omega)])
 (repeat refine Z96 rfl (Kq rfl rfl rfl ?_))
 refine Z96 rfl (Z9v rfl (hright _) ?_)
 cases hR : Zm7 k ns ks.length l p s with
 | false =>
  (repeat(first|refine Kq rfl rfl rfl ?_|refine Z96 rfl (Kq rfl rfl rfl ?_)|(refine Z99 ?_; (repeat(first|refine Z9x rfl ?_|refine Z9y ?_)); refine Z9w ?_)|refine Ks ?_|refine Zb1 (fun _ _ => rfl) ?_|refine Kc1 rfl ?_))
  have hc1 : ownF k ns ks.length l p s = 1 := by simp [ownF, g3, g4, hR]
  refine Z8o ?_
  exact Kar rfl ⟨by rw [chk, if_neg hc0, hc1, if_pos (by decide)]; rfl, by rw [chk, if_neg hc0, hc1, if_pos (by decide)]⟩
 | true =>
  have hc1 : ownF k ns ks.length l p s = 0 := by simp [ownF, g3, g4, hR]; omega
  have hchk : chk deep n (.mk k ns ks l p s) = chkL (deep + 1) (n + 1) ks := by rw [chk, if_neg hc0, hc1]; simp
  rw [hchk]
  (repeat(first|refine Kq rfl rfl rfl ?_|refine Z96 rfl (Kq rfl rfl rfl ?_)|(refine Z99 ?_; (repeat(first|refine Z9x rfl ?_|refine Z9y ?_)); refine Z9w ?_)|refine Ks ?_|refine Zb1 (fun _ _ => rfl) ?_|refine Zb2 (fun _ _ => rfl) ?_|refine Kc2 rfl ?_))
  refine Z9c rfl Z9a rfl rfl ?_
  (repeat refine Kq rfl rfl rfl ?_)
  refine Z9g rfl Z9a rfl (by decide) (Kfi rfl) (fun _ => ⟨rfl, rfl⟩) Z9h ?_
  rw [Kwr n (by omega)]
  (repeat(first|refine Kq rfl rfl rfl ?_|(refine Z99 ?_; (repeat(first|refine Z9x rfl ?_|refine Z9y ?_)); refine Z9w ?_)|refine Ks ?_|refine Zb1 (fun _ _ => rfl) ?_|refine Z8s ?_))
  refine Za6 (fun m F σ' => ∃ (i n' : Nat), F = fset 1 (some (.int .i64 (deep : Int))) (fset 2 (some (.ptr b 0 0)) (fset 48 (some (.slc 6 (Zly ks) false)) (fset 49 (some (.int .i64 (ks.length : Int))) (fset 50 (some (.int .i64 (i : Int))) Z28)))) ∧
   σ' = (b, .cells 1 [.int .i64 (n' : Int)]) :: σ ∧ i ≤ ks.length ∧ n' ≤ 100 ∧ chkL (deep + 1) (n + 1) ks = chkL (deep + 1) n' (ks.drop i) ∧ m = ks.length - i) (n := ks.length)
   ⟨0, n + 1, by rw [Zm2]; rfl, rfl, by omega, by omega, rfl, rfl⟩ ?_
  rintro m F σ' ⟨i, n', rfl, rfl, hi, hn', hch, rfl⟩
  (repeat(first|refine Kq rfl rfl rfl ?_|(refine Z99 ?_; (repeat(first|refine Z9x rfl ?_|refine Z9y ?_)); refine Z9w ?_)|refine Ks ?_|refine Zb1 (fun _ _ => rfl) ?_))
  refine Za2 (p := (i : Int) < (ks.length : Int)) rfl (fun h3 => ?_) (fun h3 => ?_)
  ·have hil : i < ks.length := by omega
   have hx : (Zly ks)[(i : Int).toNat]? = some (encT ks[i]) := Zm3 (by rw [Int.toNat_natCast, List.getElem?_eq_getElem hil])
   have hdrop : ks.drop i = ks[i] :: ks.drop (i + 1) := List.drop_eq_getElem_cons hil
   (repeat(first|refine Ks ?_|refine Zb1 (fun _ _ => rfl) ?_|refine Z8s ?_|refine Zb2 (fun _ _ => rfl) ?_))
   refine Z9d rfl (by omega) hx ?_
   rw [Zm0]
   (repeat refine Kq rfl rfl rfl ?_)
   refine Z9o (by simp [Z0.cells, Z0.one]) fun vb hvb => ?_
   refine Z9g rfl Z9a rfl (by decide) (Kfi rfl) (fun h => by cases h) Z9h ?_
   (refine Z99 ?_; (repeat(first|refine Z9x rfl ?_|refine Z9y ?_)); refine Z9w ?_)
   refine Zaj (d := 8) (cs := Zlz ks[i]) rfl ?_
   (repeat(first|refine Kq rfl rfl rfl ?_|refine Ks ?_|refine Zb1 (fun _ _ => rfl) ?_))
   rw [Kwr deep (by omega)]
   skip
   have hcw := ih ks[i] (List.getElem_mem hil) (hkids _ (List.getElem_mem hil)) (deep + 1) n' b (by omega) hn' σ
   rw [Zm0] at hcw
   refine Z9v rfl hcw ?_
   (repeat(first|refine Kq rfl rfl rfl ?_|(refine Z99 ?_; (repeat(first|refine Z9x rfl ?_|refine Z9y ?_)); refine Z9w ?_)|refine Ks ?_|refine Zb1 (fun _ _ => rfl) ?_))
   have he := Zni ks[i] (deep + 1) n'
   have hle := Znh ks[i] (deep + 1) n' hn'
   rw [hdrop, chkL] at hch
   by_cases g7 : (chk (deep + 1) n' ks[i]).2 = 0
   ·rw [if_neg (by omega)] at hch
    (rw [show decide ((((chk (deep + 1) n' ks[i]).2 : Nat) : Int) ≠ 0) = false from decide_eq_false (by omega)])
    (repeat(first|refine Zb2 (fun _ _ => rfl) ?_|refine Kc2 rfl ?_))
    refine Zb4 ?_
    repeat refine Kq rfl rfl rfl ?_
    rw [Kwr i (by omega)]
    (refine Z99 ?_; (repeat(first|refine Z9x rfl ?_|refine Z9y ?_)); refine Z9w ?_)
    exact ⟨_, ks.length - (i + 1), HSub.refl _, ⟨i + 1, _, rfl, rfl, by omega, hle, hch, rfl⟩, by omega⟩
   ·rw [if_pos g7] at hch
    (rw [show decide ((((chk (deep + 1) n' ks[i]).2 : Nat) : Int) ≠ 0) = true from decide_eq_true (by omega)])
    (repeat(first|refine Kq rfl rfl rfl ?_|(refine Z99 ?_; (repeat(first|refine Z9x rfl ?_|refine Z9y ?_)); refine Z9w ?_)|refine Ks ?_|refine Zb1 (fun _ _ => rfl) ?_|refine Kc1 rfl ?_))
    refine Z8o ?_
    exact Kar rfl ⟨by rw [hch]; rfl, by rw [hch]⟩
  ·(repeat(first|refine Kq rfl rfl rfl ?_|(refine Z99 ?_; (repeat(first|refine Z9x rfl ?_|refine Z9y ?_)); refine Z9w ?_)|refine Ks ?_|refine Zb1 (fun _ _ => rfl) ?_|refine Zb3 (fun _ _ => rfl) ?_))
   have hd0 : ks.drop i = [] := List.drop_of_length_le (by omega)
   rw [hd0, chkL] at hch
   refine Z8o ?_
   exact Kar rfl ⟨by rw [hch]; rfl, by rw [hch]⟩
theorem Znk (t : Ty) (h : t.Fit) (σ : Zc) : Z1s Try.prog Zdc [encT t] σ fun r σ' => r = .int .i64 (Zm8 t : Int) ∧ σ' = σ := by
 have hw := fun b => Znj t h 1 0 b (by omega) (by omega) σ
 rw [Zm0] at *
 refine Z94 rfl Zle (Nat.le_of_ble_eq_true rfl) ?_
 refine Za1 ?_
 refine Z9n rfl (Kfi rfl) fun pb hpb => ?_
 repeat refine Kq rfl rfl rfl ?_
 (refine Z99 ?_; (repeat(first|refine Z9x rfl ?_|refine Z9y ?_)); refine Z9w ?_)
 refine Zaj (d := 1) (cs := Zlz t) rfl ?_
 (repeat(first|refine Ks ?_|refine Zb1 (fun _ _ => rfl) ?_))
 refine Z9o (by simp [Z0.cells, Z0.one]) fun vb hvb => ?_
 refine Z9g rfl Z9a rfl (by decide) (Kfi rfl) (fun h => ⟨rfl, rfl⟩) Z9h ?_
 (repeat(first|refine Kq rfl rfl rfl ?_|(refine Z99 ?_; (repeat(first|refine Z9x rfl ?_|refine Z9y ?_)); refine Z9w ?_)|refine Ks ?_|refine Zb1 (fun _ _ => rfl) ?_))
 refine Z9v rfl (hw vb) ?_
 (repeat(first|refine Kq rfl rfl rfl ?_|(refine Z99 ?_; (repeat(first|refine Z9x rfl ?_|refine Z9y ?_)); refine Z9w ?_)))
 refine Z8o ?_
 exact ares rfl (HSub.tail _ _) ⟨rfl, rfl⟩
end Go.Abs
namespace Go.Abs
open Go Go.Proofs
attribute [local irreducible] AWp aops KP
theorem Znl (t : Ty) (hk : t.kids.length ≤ 140737488355328) (hn : t.names.length ≤ 140737488355328) (σ : Zc) : Z1s Try.prog Zep [encT t] σ fun r σ' => r = .int .i64 (ownF t.kind t.names t.kids.length t.len t.prec t.scale : Int) ∧ σ' = σ := by
 obtain ⟨k, ns, ks, l, p, s⟩ := t
 simp only [encT, Ty.kind, Ty.names, Ty.kids, Ty.len, Ty.prec, Ty.scale] at *
 refine Z94 rfl Zln (Nat.le_of_ble_eq_true rfl) ?_
 refine Za1 ?_
 refine Z9n rfl (Kfi rfl) fun b hb => ?_
 repeat refine Kq rfl rfl rfl ?_
 (refine Z99 ?_; (repeat(first|refine Z9x rfl ?_|refine Z9y ?_)); refine Z9w ?_)
 refine Zaj (d := 1) (cs := [.int .i64 k, .slc 1 (ns.map .str) false, .slc 6 (Zly ks) false, .int .i64 l, .int .i64 p, .int .i64 s]) rfl ?_
 have ret1 : ∀ (F : Z27), F 2 = some (.int .i64 1) → ownF k ns ks.length l p s = 1 → ARet Zit.res (fun r σ' => r = .int .i64 (ownF k ns ks.length l p s : Int) ∧ σ' = σ) .ret F σ := fun F hF h =>
  ares (vs := [.int .i64 1]) (by simp [Z8w, Z8v, Zit, hF]) (HSub.refl _) ⟨by rw [h]; rfl, rfl⟩
 have tail3 : Zm7 k ns ks.length l p s = (if k = 14 then decide (1 ≤ p ∧ p ≤ 18 ∧ 0 ≤ s ∧ s ≤ p) else decide (p = 0 ∧ s = 0)) → ¬ (k = 5 ∨ k = 6) → ¬ (k < 0 ∨ 17 < k) →
   AWp Try.prog Zit.n (Zit.code.snd 10) (ARet Zit.res fun r σ' => r = .int .i64 (ownF k ns ks.length l p s : Int) ∧ σ' = σ)
    (fset 1 (some (.iptr [.int .i64 k, .slc 1 (ns.map .str) false, .slc 6 (Zly ks) false, .int .i64 l, .int .i64 p, .int .i64 s])) Z28) σ := by
  intro hr h56 h0
  have bad : Zm7 k ns ks.length l p s = false → ownF k ns ks.length l p s = 1 := fun h => by rw [ownF, if_neg h56, if_pos (.inr (.inr h))]
  have good : Zm7 k ns ks.length l p s = true → ownF k ns ks.length l p s = 0 := fun h => by rw [ownF, if_neg h56, if_neg (by rw [h]; simp <;> omega)]
  (repeat(first|refine Kq rfl rfl rfl ?_|(refine Z99 ?_; (repeat(first|refine Z9x rfl ?_|refine Z9y ?_)); refine Z9w ?_)|refine Ks ?_|refine Zb1 (fun _ _ => rfl) ?_))
  by_cases h14 : k = 14
  ·rw [if_pos h14] at hr
   (rw [decide_eq_true (p := k = 14) (by omega)])
   (repeat(first|refine Kq rfl rfl rfl ?_|refine Ks ?_|refine Zb1 (fun _ _ => rfl) ?_|refine Kc1 rfl ?_))
   by_cases q1 : p < 1
   ·(rw [decide_eq_true (p := p < 1) (by omega)])
    (repeat(first|refine Kq rfl rfl rfl ?_|refine Z97 rfl ?_|(refine Z99 ?_; (repeat(first|refine Z9x rfl ?_|refine Z9y ?_)); refine Z9w ?_)|refine Ks ?_|refine Zb1 (fun _ _ => rfl) ?_|refine Kc1 rfl ?_))
    refine Z8o ?_
    exact ret1 _ rfl (bad (by rw [hr]; simp <;> omega))
   (rw [decide_eq_false (p := p < 1) (by omega)])
   (repeat(first|refine Kq rfl rfl rfl ?_|refine Z96 rfl (Kq rfl rfl rfl ?_)))
   by_cases q2 : 18 < p
   ·(rw [decide_eq_true (p := 18 < p) (by omega)])
    (repeat(first|refine Kq rfl rfl rfl ?_|refine Z97 rfl ?_|(refine Z99 ?_; (repeat(first|refine Z9x rfl ?_|refine Z9y ?_)); refine Z9w ?_)|refine Ks ?_|refine Zb1 (fun _ _ => rfl) ?_|refine Kc1 rfl ?_))
    refine Z8o ?_
    exact ret1 _ rfl (bad (by rw [hr]; simp <;> omega))
   (rw [decide_eq_false (p := 18 < p) (by omega)])
   (repeat(first|refine Kq rfl rfl rfl ?_|refine Z96 rfl (Kq rfl rfl rfl ?_)))
   by_cases q3 : s < 0
   ·(rw [decide_eq_true (p := s < 0) (by omega)])
    (repeat(first|refine Kq rfl rfl rfl ?_|refine Z97 rfl ?_|(refine Z99 ?_; (repeat(first|refine Z9x rfl ?_|refine Z9y ?_)); refine Z9w ?_)|refine Ks ?_|refine Zb1 (fun _ _ => rfl) ?_|refine Kc1 rfl ?_))
    refine Z8o ?_
    exact ret1 _ rfl (bad (by rw [hr]; simp <;> omega))
   (rw [decide_eq_false (p := s < 0) (by omega)])
   (repeat(first|refine Kq rfl rfl rfl ?_|refine Z96 rfl (Kq rfl rfl rfl ?_)|(refine Z99 ?_; (repeat(first|refine Z9x rfl ?_|refine Z9y ?_)); refine Z9w ?_)))
   by_cases q4 : p < s
   ·(rw [decide_eq_true (p := p < s) (by omega)])
    (repeat(first|refine Kq rfl rfl rfl ?_|(refine Z99 ?_; (repeat(first|refine Z9x rfl ?_|refine Z9y ?_)); refine Z9w ?_)|refine Ks ?_|refine Zb1 (fun _ _ => rfl) ?_|refine Kc1 rfl ?_))
    refine Z8o ?_
    exact ret1 _ rfl (bad (by rw [hr]; simp <;> omega))
   (rw [decide_eq_false (p := p < s) (by omega)])
   (repeat(first|refine Kq rfl rfl rfl ?_|(refine Z99 ?_; (repeat(first|refine Z9x rfl ?_|refine Z9y ?_)); refine Z9w ?_)|refine Ks ?_|refine Zb1 (fun _ _ => rfl) ?_|refine Zb2 (fun _ _ => rfl) ?_|refine Kc2 rfl ?_))
   refine Z8o ?_
   exact Kar rfl ⟨by rw [good (by rw [hr]; simp <;> omega)]; rfl, rfl⟩
  ·rw [if_neg h14] at hr
   (rw [decide_eq_false (p := k = 14) (by omega)])
   (repeat(first|refine Kq rfl rfl rfl ?_|refine Ks ?_|refine Zb1 (fun _ _ => rfl) ?_|refine Kc2 rfl ?_))
   by_cases q1 : p = 0
   ·(rw [decide_eq_false (p := p ≠ 0) (by omega)])
    (repeat(first|refine Kq rfl rfl rfl ?_|refine Z96 rfl (Kq rfl rfl rfl ?_)|(refine Z99 ?_; (repeat(first|refine Z9x rfl ?_|refine Z9y ?_)); refine Z9w ?_)))
    by_cases q2 : s = 0
    ·(rw [decide_eq_false (p := s ≠ 0) (by omega)])
     (repeat(first|refine Kq rfl rfl rfl ?_|(refine Z99 ?_; (repeat(first|refine Z9x rfl ?_|refine Z9y ?_)); refine Z9w ?_)|refine Ks ?_|refine Zb1 (fun _ _ => rfl) ?_|refine Zb2 (fun _ _ => rfl) ?_|refine Kc2 rfl ?_))
     refine Z8o ?_
     exact Kar rfl ⟨by rw [good (by rw [hr]; simp <;> omega)]; rfl, rfl⟩
    ·(rw [decide_eq_true (p := s ≠ 0) (by omega)])
     (repeat(first|refine Kq rfl rfl rfl ?_|(refine Z99 ?_; (repeat(first|refine Z9x rfl ?_|refine Z9y ?_)); refine Z9w ?_)|refine Ks ?_|refine Zb1 (fun _ _ => rfl) ?_|refine Kc1 rfl ?_))
     refine Z8o ?_
     exact ret1 _ rfl (bad (by rw [hr]; simp <;> omega))
   ·(rw [decide_eq_true (p := p ≠ 0) (by omega)])
    (repeat(first|refine Kq rfl rfl rfl ?_|refine Z97 rfl ?_|(refine Z99 ?_; (repeat(first|refine Z9x rfl ?_|refine Z9y ?_)); refine Z9w ?_)|refine Ks ?_|refine Zb1 (fun _ _ => rfl) ?_|refine Kc1 rfl ?_))
    refine Z8o ?_
    exact ret1 _ rfl (bad (by rw [hr]; simp <;> omega))
 have tail2 : Zm7 k ns ks.length l p s = ((if k = 16 ∨ k = 17 then decide (1 ≤ l ∧ l ≤ 4096) else decide (l = 0)) && (if k = 14 then decide (1 ≤ p ∧ p ≤ 18 ∧ 0 ≤ s ∧ s ≤ p) else decide (p = 0 ∧ s = 0))) → ¬ (k = 5 ∨ k = 6) → ¬ (k < 0 ∨ 17 < k) →
   AWp Try.prog Zit.n (Zit.code.snd 8) (ARet Zit.res fun r σ' => r = .int .i64 (ownF k ns ks.length l p s : Int) ∧ σ' = σ)
    (fset 1 (some (.iptr [.int .i64 k, .slc 1 (ns.map .str) false, .slc 6 (Zly ks) false, .int .i64 l, .int .i64 p, .int .i64 s])) Z28) σ := by
  intro hr h56 h0
  have bad : Zm7 k ns ks.length l p s = false → ownF k ns ks.length l p s = 1 := fun h => by rw [ownF, if_neg h56, if_pos (.inr (.inr h))]
  have text : ∀ tx : Bool, (tx = true ↔ (k = 16 ∨ k = 17)) → AWp Try.prog Zit.n (Zit.code.snd 9) (ARet Zit.res fun r σ' => r = .int .i64 (ownF k ns ks.length l p s : Int) ∧ σ' = σ)
    (fset 1 (some (.iptr [.int .i64 k, .slc 1 (ns.map .str) false, .slc 6 (Zly ks) false, .int .i64 l, .int .i64 p, .int .i64 s])) (fset 7 (some (.bool tx)) Z28)) σ := by
   intro tx htx
   cases tx with
   | true =>
    have hk' := htx.1 rfl
    rw [if_pos hk'] at hr
    have key : ∀ rest : Z2c, (1 ≤ l → l ≤ 4096 → AWp Try.prog Zit.n rest (ARet Zit.res fun r σ' => r = .int .i64 (ownF k ns ks.length l p s : Int) ∧ σ' = σ)
      (fset 1 (some (.iptr [.int .i64 k, .slc 1 (ns.map .str) false, .slc 6 (Zly ks) false, .int .i64 l, .int .i64 p, .int .i64 s])) Z28) σ) →
      AWp Try.prog Zit.n (.seq (Zit.code.snd 9).fst rest) (ARet Zit.res fun r σ' => r = .int .i64 (ownF k ns ks.length l p s : Int) ∧ σ' = σ)
      (fset 1 (some (.iptr [.int .i64 k, .slc 1 (ns.map .str) false, .slc 6 (Zly ks) false, .int .i64 l, .int .i64 p, .int .i64 s])) (fset 7 (some (.bool true)) Z28)) σ := by
     intro rest hrest
     (repeat(first|refine Kq rfl rfl rfl ?_|refine Z96 rfl (Kq rfl rfl rfl ?_)|refine Ks ?_|refine Zb1 (fun _ _ => rfl) ?_))
     by_cases q1 : l < 1
     ·(rw [decide_eq_true (p := l < 1) (by omega)])
      (repeat(first|refine Kq rfl rfl rfl ?_|refine Z96 rfl (Kq rfl rfl rfl ?_)|refine Z97 rfl ?_|refine Z98 rfl ?_|(refine Z99 ?_; (repeat(first|refine Z9x rfl ?_|refine Z9y ?_)); refine Z9w ?_)|refine Ks ?_|refine Zb1 (fun _ _ => rfl) ?_|refine Kc1 rfl ?_))
      refine Z8o ?_
      exact ret1 _ rfl (bad (by rw [hr]; simp <;> omega))
     (rw [decide_eq_false (p := l < 1) (by omega)])
     (repeat(first|refine Kq rfl rfl rfl ?_|refine Z96 rfl (Kq rfl rfl rfl ?_)))
     by_cases q2 : 4096 < l
     ·(rw [decide_eq_true (p := 4096 < l) (by omega)])
      (repeat(first|refine Kq rfl rfl rfl ?_|refine Z97 rfl ?_|refine Z98 rfl ?_|(refine Z99 ?_; (repeat(first|refine Z9x rfl ?_|refine Z9y ?_)); refine Z9w ?_)|refine Ks ?_|refine Zb1 (fun _ _ => rfl) ?_|refine Kc1 rfl ?_))
      refine Z8o ?_
      exact ret1 _ rfl (bad (by rw [hr]; simp <;> omega))
     (rw [decide_eq_false (p := 4096 < l) (by omega)])
     (repeat(first|refine Kq rfl rfl rfl ?_|refine Z96 rfl (Kq rfl rfl rfl ?_)|refine Z97 rfl ?_|(refine Z99 ?_; (repeat(first|refine Z9x rfl ?_|refine Z9y ?_)); refine Z9w ?_)|refine Zb2 (fun _ _ => rfl) ?_|refine Kc2 rfl ?_))
     (refine Za0 (keep := [1]) ?_; ((repeat(first|refine Z9x rfl ?_|refine Z9y ?_)); refine Z9w ?_))
     exact hrest (by omega) (by omega)
    exact key _ fun q1 q2 => tail3 (by rw [hr]; simp [q1, q2]) h56 h0
   | false =>
    have hk' : ¬ (k = 16 ∨ k = 17) := fun h => by have := htx.2 h; cases this
    rw [if_neg hk'] at hr
    have key : ∀ rest : Z2c, (l = 0 → AWp Try.prog Zit.n rest (ARet Zit.res fun r σ' => r = .int .i64 (ownF k ns ks.length l p s : Int) ∧ σ' = σ)
      (fset 1 (some (.iptr [.int .i64 k, .slc 1 (ns.map .str) false, .slc 6 (Zly ks) false, .int .i64 l, .int .i64 p, .int .i64 s])) Z28) σ) →
      AWp Try.prog Zit.n (.seq (Zit.code.snd 9).fst rest) (ARet Zit.res fun r σ' => r = .int .i64 (ownF k ns ks.length l p s : Int) ∧ σ' = σ)
      (fset 1 (some (.iptr [.int .i64 k, .slc 1 (ns.map .str) false, .slc 6 (Zly ks) false, .int .i64 l, .int .i64 p, .int .i64 s])) (fset 7 (some (.bool false)) Z28)) σ := by
     intro rest hrest
     (repeat(first|refine Kq rfl rfl rfl ?_|refine Z96 rfl (Kq rfl rfl rfl ?_)|refine Z97 rfl ?_|refine Z98 rfl ?_|(refine Z99 ?_; (repeat(first|refine Z9x rfl ?_|refine Z9y ?_)); refine Z9w ?_)|refine Ks ?_|refine Zb1 (fun _ _ => rfl) ?_))
     by_cases q1 : l = 0
     ·(rw [decide_eq_false (p := l ≠ 0) (by omega)])
      (repeat(first|refine Zb2 (fun _ _ => rfl) ?_|refine Kc2 rfl ?_))
      (refine Za0 (keep := [1]) ?_; ((repeat(first|refine Z9x rfl ?_|refine Z9y ?_)); refine Z9w ?_))
      exact hrest q1
     ·(rw [decide_eq_true (p := l ≠ 0) (by omega)])
      (repeat(first|refine Kq rfl rfl rfl ?_|(refine Z99 ?_; (repeat(first|refine Z9x rfl ?_|refine Z9y ?_)); refine Z9w ?_)|refine Ks ?_|refine Zb1 (fun _ _ => rfl) ?_|refine Kc1 rfl ?_))
      refine Z8o ?_
      exact ret1 _ rfl (bad (by rw [hr]; simp <;> omega))
    exact key _ fun q1 => tail3 (by rw [hr]; simp [q1]) h56 h0
  have key : ∀ rest : Z2c, (∀ tx : Bool, (tx = true ↔ (k = 16 ∨ k = 17)) → AWp Try.prog Zit.n rest (ARet Zit.res fun r σ' => r = .int .i64 (ownF k ns ks.length l p s : Int) ∧ σ' = σ)
    (fset 1 (some (.iptr [.int .i64 k, .slc 1 (ns.map .str) false, .slc 6 (Zly ks) false, .int .i64 l, .int .i64 p, .int .i64 s])) (fset 7 (some (.bool tx)) Z28)) σ) →
    AWp Try.prog Zit.n (.seq (Zit.code.snd 8).fst rest) (ARet Zit.res fun r σ' => r = .int .i64 (ownF k ns ks.length l p s : Int) ∧ σ' = σ)
    (fset 1 (some (.iptr [.int .i64 k, .slc 1 (ns.map .str) false, .slc 6 (Zly ks) false, .int .i64 l, .int .i64 p, .int .i64 s])) Z28) σ := by
   intro rest hrest
   (repeat(first|refine Kq rfl rfl rfl ?_|refine Ks ?_|refine Zb1 (fun _ _ => rfl) ?_))
   by_cases q1 : k = 16
   ·(rw [decide_eq_true (p := k = 16) (by omega)])
    (repeat(first|refine Kq rfl rfl rfl ?_|refine Z97 rfl ?_|(refine Z99 ?_; (repeat(first|refine Z9x rfl ?_|refine Z9y ?_)); refine Z9w ?_)))
    exact hrest true (by simp [q1])
   (rw [decide_eq_false (p := k = 16) (by omega)])
   (repeat(first|refine Kq rfl rfl rfl ?_|refine Z96 rfl (Kq rfl rfl rfl ?_)|(refine Z99 ?_; (repeat(first|refine Z9x rfl ?_|refine Z9y ?_)); refine Z9w ?_)))
   exact hrest (decide (k = 17)) (by simp [q1])
  exact key _ text
 have tail1 : Zm7 k ns ks.length l p s = (Zm5 ns && ((if k = 16 ∨ k = 17 then decide (1 ≤ l ∧ l ≤ 4096) else decide (l = 0)) && (if k = 14 then decide (1 ≤ p ∧ p ≤ 18 ∧ 0 ≤ s ∧ s ≤ p) else decide (p = 0 ∧ s = 0)))) → ¬ (k = 5 ∨ k = 6) → ¬ (k < 0 ∨ 17 < k) →
   AWp Try.prog Zit.n (Zit.code.snd 7) (ARet Zit.res fun r σ' => r = .int .i64 (ownF k ns ks.length l p s : Int) ∧ σ' = σ)
    (fset 1 (some (.iptr [.int .i64 k, .slc 1 (ns.map .str) false, .slc 6 (Zly ks) false, .int .i64 l, .int .i64 p, .int .i64 s])) Z28) σ := by
  intro hr h56 h0
  have bad : Zm5 ns = false → ownF k ns ks.length l p s = 1 := fun h => by rw [ownF, if_neg h56, if_pos (.inr (.inr (by rw [hr, h]; rfl)))]
  have key : ∀ rest : Z2c, (Zm5 ns = true → AWp Try.prog Zit.n rest (ARet Zit.res fun r σ' => r = .int .i64 (ownF k ns ks.length l p s : Int) ∧ σ' = σ)
    (fset 1 (some (.iptr [.int .i64 k, .slc 1 (ns.map .str) false, .slc 6 (Zly ks) false, .int .i64 l, .int .i64 p, .int .i64 s])) Z28) σ) →
    AWp Try.prog Zit.n (.seq (Zit.code.snd 7).fst rest) (ARet Zit.res fun r σ' => r = .int .i64 (ownF k ns ks.length l p s : Int) ∧ σ' = σ)
    (fset 1 (some (.iptr [.int .i64 k, .slc 1 (ns.map .str) false, .slc 6 (Zly ks) false, .int .i64 l, .int .i64 p, .int .i64 s])) Z28) σ := by
   intro rest hrest
   (repeat(first|refine Kq rfl rfl rfl ?_|(refine Z99 ?_; (repeat(first|refine Z9x rfl ?_|refine Z9y ?_)); refine Z9w ?_)|refine Ks ?_|refine Zb1 (fun _ _ => rfl) ?_|refine Z8s ?_))
   refine Za6 (fun m F σ' => ∃ (i : Nat), F = fset 1 (some (.iptr [.int .i64 k, .slc 1 (ns.map .str) false, .slc 6 (Zly ks) false, .int .i64 l, .int .i64 p, .int .i64 s])) (fset 5 (some (.int .i64 (i : Int))) Z28) ∧
    σ = σ' ∧ i ≤ ns.length ∧ (∀ (a : Nat) (s : List UInt8), a < i → ns[a]? = some s → (s ≠ [] ∧ s.length ≤ 100) ∧ ∀ (k : Nat) (u : List UInt8), k < a → ns[k]? = some u → u ≠ s) ∧ m = ns.length - i) (n := ns.length)
    ⟨0, rfl, rfl, by omega, fun a s h => absurd h (by omega), rfl⟩ ?_
   rintro m F σ' ⟨i, rfl, rfl, hi, hall, rfl⟩
   (repeat(first|refine Kq rfl rfl rfl ?_|(refine Z99 ?_; (repeat(first|refine Z9x rfl ?_|refine Z9y ?_)); refine Z9w ?_)|refine Ks ?_|refine Zb1 (fun _ _ => rfl) ?_))
   rw [List.length_map]
   refine Za2 (p := (i : Int) < (ns.length : Int)) rfl (fun h3 => ?_) (fun h3 => ?_)
   ·have hil : i < ns.length := by omega
    obtain ⟨nm, hnm⟩ : ∃ nm, ns[i]? = some nm := ⟨_, List.getElem?_eq_getElem hil⟩
    have hx : (ns.map Z0.str)[(i : Int).toNat]? = some (.str nm) := by rw [Int.toNat_natCast, List.getElem?_map, hnm]; rfl
    (repeat(first|refine Kq rfl rfl rfl ?_|refine Ks ?_|refine Zb1 (fun _ _ => rfl) ?_|refine Z8s ?_|refine Zb2 (fun _ _ => rfl) ?_))
    refine Z9d rfl (by omega) hx ?_
    (repeat refine Kq rfl rfl rfl ?_)
    by_cases e1 : nm = []
    ·rw [show decide (nm = []) = true from decide_eq_true e1]
     (repeat(first|refine Kq rfl rfl rfl ?_|refine Z97 rfl ?_|(refine Z99 ?_; (repeat(first|refine Z9x rfl ?_|refine Z9y ?_)); refine Z9w ?_)|refine Ks ?_|refine Zb1 (fun _ _ => rfl) ?_|refine Kc1 rfl ?_))
     refine Z8o ?_
     exact ret1 _ rfl (bad (Bool.eq_false_iff.2 fun h => (Znc.1 h i nm hnm).1.1 e1))
    rw [show decide (nm = []) = false from decide_eq_false e1]
    (repeat refine Z96 rfl (Kq rfl rfl rfl ?_))
    refine Z96 rfl (Z9d rfl (by omega) hx ?_)
    (repeat(first|refine Kq rfl rfl rfl ?_|refine Z96 rfl (Kq rfl rfl rfl ?_)|(refine Z99 ?_; (repeat(first|refine Z9x rfl ?_|refine Z9y ?_)); refine Z9w ?_)))
    refine Za2 (p := (100 : Int) < (nm.length : Int)) rfl (fun e2 => ?_) (fun e2 => ?_)
    ·(repeat(first|refine Kq rfl rfl rfl ?_|(refine Z99 ?_; (repeat(first|refine Z9x rfl ?_|refine Z9y ?_)); refine Z9w ?_)|refine Ks ?_|refine Zb1 (fun _ _ => rfl) ?_))
     refine Z8o ?_
     exact ret1 _ rfl (bad (Bool.eq_false_iff.2 fun h => by have := (Znc.1 h i nm hnm).1.2; omega))
    (repeat(first|refine Kq rfl rfl rfl ?_|(refine Z99 ?_; (repeat(first|refine Z9x rfl ?_|refine Z9y ?_)); refine Z9w ?_)|refine Ks ?_|refine Zb1 (fun _ _ => rfl) ?_|refine Z8s ?_|refine Zb2 (fun _ _ => rfl) ?_))
    (refine Za0 (keep := [1, 5, 6]) ?_; ((repeat(first|refine Z9x rfl ?_|refine Z9y ?_)); refine Z9w ?_))
    refine Za6 (fun m F σ' => ∃ (j : Nat), F = fset 1 (some (.iptr [.int .i64 k, .slc 1 (ns.map .str) false, .slc 6 (Zly ks) false, .int .i64 l, .int .i64 p, .int .i64 s])) (fset 5 (some (.int .i64 (i : Int))) (fset 6 (some (.int .i64 (j : Int))) Z28)) ∧
     σ = σ' ∧ j ≤ i ∧ (∀ (k : Nat) (u : List UInt8), k < j → ns[k]? = some u → u ≠ nm) ∧ m = i - j) (n := i)
     ⟨0, rfl, rfl, by omega, fun a s h => absurd h (by omega), rfl⟩ ?_
    rintro m F σ' ⟨j, rfl, rfl, hj, hne, rfl⟩
    (repeat(first|refine Kq rfl rfl rfl ?_|(refine Z99 ?_; (repeat(first|refine Z9x rfl ?_|refine Z9y ?_)); refine Z9w ?_)|refine Ks ?_|refine Zb1 (fun _ _ => rfl) ?_))
    refine Za2 (p := (j : Int) < (i : Int)) rfl (fun h4 => ?_) (fun h4 => ?_)
    ·obtain ⟨um, hum⟩ : ∃ um, ns[j]? = some um := ⟨_, List.getElem?_eq_getElem (by omega)⟩
     have hy : (ns.map Z0.str)[(j : Int).toNat]? = some (.str um) := by rw [Int.toNat_natCast, List.getElem?_map, hum]; rfl
     (repeat(first|refine Kq rfl rfl rfl ?_|refine Ks ?_|refine Zb1 (fun _ _ => rfl) ?_|refine Z8s ?_|refine Zb2 (fun _ _ => rfl) ?_))
     refine Z9d rfl (by omega) hy ?_
     (repeat refine Kq rfl rfl rfl ?_)
     refine Z9d rfl (by omega) hx ?_
     (repeat(first|refine Kq rfl rfl rfl ?_|(refine Z99 ?_; (repeat(first|refine Z9x rfl ?_|refine Z9y ?_)); refine Z9w ?_)))
     refine Za2 (p := um = nm) rfl (fun e3 => ?_) (fun e3 => ?_)
     ·(repeat(first|refine Kq rfl rfl rfl ?_|(refine Z99 ?_; (repeat(first|refine Z9x rfl ?_|refine Z9y ?_)); refine Z9w ?_)|refine Ks ?_|refine Zb1 (fun _ _ => rfl) ?_))
      refine Z8o ?_
      exact ret1 _ rfl (bad (Bool.eq_false_iff.2 fun h => (Znc.1 h i nm hnm).2 j um (by omega) hum e3))
     ·(repeat refine Zb2 (fun _ _ => rfl) ?_)
      refine Zb4 ?_
      repeat refine Kq rfl rfl rfl ?_
      rw [Kwr j (by omega)]
      (refine Z99 ?_; (repeat(first|refine Z9x rfl ?_|refine Z9y ?_)); refine Z9w ?_)
      refine ⟨_, i - (j + 1), HSub.refl _, ⟨j + 1, rfl, rfl, by omega, fun a u ha hu => ?_, rfl⟩, by omega⟩
      by_cases e : a = j
      ·subst e; rw [hum] at hu; cases hu; exact e3
      ·exact hne a u (by omega) hu
    ·(repeat refine Zb3 (fun _ _ => rfl) ?_)
     refine Zb4 ?_
     repeat refine Kq rfl rfl rfl ?_
     rw [Kwr i (by omega)]
     (refine Z99 ?_; (repeat(first|refine Z9x rfl ?_|refine Z9y ?_)); refine Z9w ?_)
     refine ⟨_, ns.length - (i + 1), HSub.refl _, ⟨i + 1, rfl, rfl, by omega, fun a u ha hu => ?_, rfl⟩, by omega⟩
     by_cases e : a = i
     ·subst e; rw [hnm] at hu; cases hu
      exact ⟨⟨e1, by omega⟩, fun k u hk hu => hne k u (by omega) hu⟩
     ·exact hall a u (by omega) hu
   ·(repeat refine Zb3 (fun _ _ => rfl) ?_)
    (refine Za0 (keep := [1]) ?_; ((repeat(first|refine Z9x rfl ?_|refine Z9y ?_)); refine Z9w ?_))
    refine hrest (Znc.2 fun a u hu => hall a u ?_ hu)
    have := (List.getElem?_eq_some_iff.1 hu).1
    omega
  exact key _ fun hN => tail2 (by rw [hr, hN]; rfl) h56 h0
 (repeat(first|refine Kq rfl rfl rfl ?_|refine Ks ?_|refine Zb1 (fun _ _ => rfl) ?_))
 by_cases g1 : k = 5
 ·(rw [decide_eq_true (p := k = 5) (by omega)])
  (repeat(first|refine Kq rfl rfl rfl ?_|refine Z97 rfl ?_|(refine Z99 ?_; (repeat(first|refine Z9x rfl ?_|refine Z9y ?_)); refine Z9w ?_)|refine Ks ?_|refine Zb1 (fun _ _ => rfl) ?_|refine Kc1 rfl ?_))
  refine Z8o ?_
  exact Kar rfl ⟨by simp [ownF, g1, Z8x], rfl⟩
 (rw [decide_eq_false (p := k = 5) (by omega)])
 (repeat(first|refine Kq rfl rfl rfl ?_|refine Z96 rfl (Kq rfl rfl rfl ?_)|(refine Z99 ?_; (repeat(first|refine Z9x rfl ?_|refine Z9y ?_)); refine Z9w ?_)))
 by_cases g2 : k = 6
 ·(rw [decide_eq_true (p := k = 6) (by omega)])
  (repeat(first|refine Kq rfl rfl rfl ?_|(refine Z99 ?_; (repeat(first|refine Z9x rfl ?_|refine Z9y ?_)); refine Z9w ?_)|refine Ks ?_|refine Zb1 (fun _ _ => rfl) ?_|refine Kc1 rfl ?_))
  refine Z8o ?_
  exact Kar rfl ⟨by simp [ownF, g2, Z8x], rfl⟩
 (rw [decide_eq_false (p := k = 6) (by omega)])
 (repeat(first|refine Kq rfl rfl rfl ?_|refine Ks ?_|refine Zb1 (fun _ _ => rfl) ?_|refine Zb2 (fun _ _ => rfl) ?_|refine Kc2 rfl ?_))
 have h56 : ¬ (k = 5 ∨ k = 6) := by omega
 by_cases g3 : k < 0
 ·(rw [decide_eq_true (p := k < 0) (by omega)])
  (repeat(first|refine Kq rfl rfl rfl ?_|refine Z97 rfl ?_|(refine Z99 ?_; (repeat(first|refine Z9x rfl ?_|refine Z9y ?_)); refine Z9w ?_)|refine Ks ?_|refine Zb1 (fun _ _ => rfl) ?_|refine Kc1 rfl ?_))
  refine Z8o ?_
  exact ret1 _ rfl (by rw [ownF, if_neg h56, if_pos (.inl g3)])
 (rw [decide_eq_false (p := k < 0) (by omega)])
 (repeat(first|refine Kq rfl rfl rfl ?_|refine Z96 rfl (Kq rfl rfl rfl ?_)|(refine Z99 ?_; (repeat(first|refine Z9x rfl ?_|refine Z9y ?_)); refine Z9w ?_)))
 by_cases g4 : 17 < k
 ·(rw [decide_eq_true (p := 17 < k) (by omega)])
  (repeat(first|refine Kq rfl rfl rfl ?_|(refine Z99 ?_; (repeat(first|refine Z9x rfl ?_|refine Z9y ?_)); refine Z9w ?_)|refine Ks ?_|refine Zb1 (fun _ _ => rfl) ?_|refine Kc1 rfl ?_))
  refine Z8o ?_
  exact ret1 _ rfl (by rw [ownF, if_neg h56, if_pos (.inr (.inl g4))])
 (rw [decide_eq_false (p := 17 < k) (by omega)])
 have r16 : ∀ ok : Bool, ok = Zm6 k ns.length ks.length →
   AWp Try.prog Zit.n (Zit.code.snd 6) (ARet Zit.res fun r σ' => r = .int .i64 (ownF k ns ks.length l p s : Int) ∧ σ' = σ)
    (fset 1 (some (.iptr [.int .i64 k, .slc 1 (ns.map .str) false, .slc 6 (Zly ks) false, .int .i64 l, .int .i64 p, .int .i64 s])) (fset 4 (some (.bool ok)) Z28)) σ := by
  intro ok hok
  have h0 : ¬ (k < 0 ∨ 17 < k) := by omega
  have key : ∀ rest : Z2c, (ok = true → (k = 12 ∨ ns = []) → AWp Try.prog Zit.n rest (ARet Zit.res fun r σ' => r = .int .i64 (ownF k ns ks.length l p s : Int) ∧ σ' = σ)
    (fset 1 (some (.iptr [.int .i64 k, .slc 1 (ns.map .str) false, .slc 6 (Zly ks) false, .int .i64 l, .int .i64 p, .int .i64 s])) Z28) σ) →
    AWp Try.prog Zit.n (.seq (Zit.code.snd 6).fst rest) (ARet Zit.res fun r σ' => r = .int .i64 (ownF k ns ks.length l p s : Int) ∧ σ' = σ)
    (fset 1 (some (.iptr [.int .i64 k, .slc 1 (ns.map .str) false, .slc 6 (Zly ks) false, .int .i64 l, .int .i64 p, .int .i64 s])) (fset 4 (some (.bool ok)) Z28)) σ := by
   intro rest hrest
   cases ok with
   | false =>
    (repeat(first|refine Kq rfl rfl rfl ?_|refine Z97 rfl ?_|refine Z98 rfl ?_|(refine Z99 ?_; (repeat(first|refine Z9x rfl ?_|refine Z9y ?_)); refine Z9w ?_)|refine Ks ?_|refine Zb1 (fun _ _ => rfl) ?_|refine Kc1 rfl ?_))
    refine Z8o ?_
    exact ret1 _ rfl (by rw [ownF, if_neg h56, if_pos (.inr (.inr (by rw [Zm7, ← hok]; rfl)))])
   | true =>
    (repeat(first|refine Kq rfl rfl rfl ?_|refine Z96 rfl (Kq rfl rfl rfl ?_)|refine Ks ?_|refine Zb1 (fun _ _ => rfl) ?_))
    by_cases q1 : k = 12
    ·(rw [decide_eq_false (p := k ≠ 12) (by omega)])
     (repeat(first|refine Kq rfl rfl rfl ?_|refine Z96 rfl (Kq rfl rfl rfl ?_)|refine Z97 rfl ?_|(refine Z99 ?_; (repeat(first|refine Z9x rfl ?_|refine Z9y ?_)); refine Z9w ?_)|refine Zb2 (fun _ _ => rfl) ?_|refine Kc2 rfl ?_))
     (refine Za0 (keep := [1]) ?_; ((repeat(first|refine Z9x rfl ?_|refine Z9y ?_)); refine Z9w ?_))
     exact hrest rfl (.inl q1)
    ·(rw [decide_eq_true (p := k ≠ 12) (by omega)])
     (repeat(first|refine Kq rfl rfl rfl ?_|refine Z96 rfl (Kq rfl rfl rfl ?_)|(refine Z99 ?_; (repeat(first|refine Z9x rfl ?_|refine Z9y ?_)); refine Z9w ?_)))
     rw [List.length_map]
     by_cases q2 : ns = []
     ·rw [show decide ((0 : Int) < ((ns.length : Nat) : Int)) = false from decide_eq_false (by rw [q2]; simp)]
      (repeat(first|refine Zb2 (fun _ _ => rfl) ?_|refine Kc2 rfl ?_))
      (refine Za0 (keep := [1]) ?_; ((repeat(first|refine Z9x rfl ?_|refine Z9y ?_)); refine Z9w ?_))
      exact hrest rfl (.inr q2)
     ·have hpos : 0 < ns.length := List.length_pos_iff.2 q2
      (rw [decide_eq_true (p := (0 : Int) < ((ns.length : Nat) : Int)) (by omega)])
      (repeat(first|refine Kq rfl rfl rfl ?_|(refine Z99 ?_; (repeat(first|refine Z9x rfl ?_|refine Z9y ?_)); refine Z9w ?_)|refine Ks ?_|refine Zb1 (fun _ _ => rfl) ?_|refine Kc1 rfl ?_))
      refine Z8o ?_
      exact ret1 _ rfl (by rw [ownF, if_neg h56, if_pos (.inr (.inr (by simp [Zm7, q1, q2])))])
  exact key _ fun e1 e2 => tail1 (by
   rw [Zm7, ← hok, e1]
   have : (decide (k = 12) || ns.isEmpty) = true := by rcases e2 with e | e <;> simp [e]
   rw [this]; simp [Bool.and_assoc]) h56 h0
 have key : ∀ rest : Z2c, (∀ ok : Bool, ok = Zm6 k ns.length ks.length → AWp Try.prog Zit.n rest (ARet Zit.res fun r σ' => r = .int .i64 (ownF k ns ks.length l p s : Int) ∧ σ' = σ)
    (fset 1 (some (.iptr [.int .i64 k, .slc 1 (ns.map .str) false, .slc 6 (Zly ks) false, .int .i64 l, .int .i64 p, .int .i64 s])) (fset 4 (some (.bool ok)) Z28)) σ) →
   AWp Try.prog Zit.n (.seq (Zit.code.snd 5).fst rest) (ARet Zit.res fun r σ' => r = .int .i64 (ownF k ns ks.length l p s : Int) ∧ σ' = σ)
    (fset 1 (some (.iptr [.int .i64 k, .slc 1 (ns.map .str) false, .slc 6 (Zly ks) false, .int .i64 l, .int .i64 p, .int .i64 s])) (fset 3 (some (.int .i64 (ks.length : Int))) (fset 4 (some (.bool (decide ((ks.length : Int) = 0)))) Z28))) σ := by
  intro rest hrest
  by_cases q1 : k = 10
  ·subst q1
   (repeat(first|refine Kq rfl rfl rfl ?_|(refine Z99 ?_; (repeat(first|refine Z9x rfl ?_|refine Z9y ?_)); refine Z9w ?_)|refine Ks ?_|refine Zb1 (fun _ _ => rfl) ?_|refine Z8s ?_|refine Kc1 rfl ?_))
   (refine Za0 (keep := [1, 4]) ?_; ((repeat(first|refine Z9x rfl ?_|refine Z9y ?_)); refine Z9w ?_))
   exact hrest _ (by simp only [Zm6]; rw [Bool.eq_iff_iff]; simp <;> omega)
  by_cases q2 : k = 11
  ·subst q2
   (repeat(first|refine Kq rfl rfl rfl ?_|(refine Z99 ?_; (repeat(first|refine Z9x rfl ?_|refine Z9y ?_)); refine Z9w ?_)|refine Ks ?_|refine Zb1 (fun _ _ => rfl) ?_|refine Z8s ?_|refine Kc1 rfl ?_|refine Kc2 rfl ?_))
   (refine Za0 (keep := [1, 4]) ?_; ((repeat(first|refine Z9x rfl ?_|refine Z9y ?_)); refine Z9w ?_))
   exact hrest _ (by simp only [Zm6]; rw [Bool.eq_iff_iff]; simp <;> omega)
  by_cases q3 : k = 12
  ·subst q3
   (repeat(first|refine Kq rfl rfl rfl ?_|(refine Z99 ?_; (repeat(first|refine Z9x rfl ?_|refine Z9y ?_)); refine Z9w ?_)|refine Ks ?_|refine Zb1 (fun _ _ => rfl) ?_|refine Z8s ?_|refine Kc1 rfl ?_|refine Kc2 rfl ?_))
   rw [List.length_map]
   (refine Za0 (keep := [1, 4]) ?_; ((repeat(first|refine Z9x rfl ?_|refine Z9y ?_)); refine Z9w ?_))
   exact hrest _ (by simp only [Zm6]; rw [Bool.eq_iff_iff]; simp <;> omega)
  by_cases q4 : k = 13
  ·subst q4
   (repeat(first|refine Kq rfl rfl rfl ?_|(refine Z99 ?_; (repeat(first|refine Z9x rfl ?_|refine Z9y ?_)); refine Z9w ?_)|refine Ks ?_|refine Zb1 (fun _ _ => rfl) ?_|refine Z8s ?_|refine Kc1 rfl ?_|refine Kc2 rfl ?_))
   by_cases q5 : 1 ≤ ks.length
   ·(rw [decide_eq_true (p := (1 : Int) ≤ ((ks.length : Nat) : Int)) (by omega)])
    (repeat(first|refine Kq rfl rfl rfl ?_|refine Z96 rfl (Kq rfl rfl rfl ?_)|(refine Z99 ?_; (repeat(first|refine Z9x rfl ?_|refine Z9y ?_)); refine Z9w ?_)))
    (refine Za0 (keep := [1, 4]) ?_; ((repeat(first|refine Z9x rfl ?_|refine Z9y ?_)); refine Z9w ?_))
    exact hrest _ (by simp only [Zm6]; rw [Bool.eq_iff_iff]; simp [q5] <;> omega)
   ·(rw [decide_eq_false (p := (1 : Int) ≤ ((ks.length : Nat) : Int)) (by omega)])
    (repeat(first|refine Kq rfl rfl rfl ?_|refine Z97 rfl ?_|(refine Z99 ?_; (repeat(first|refine Z9x rfl ?_|refine Z9y ?_)); refine Z9w ?_)))
    (refine Za0 (keep := [1, 4]) ?_; ((repeat(first|refine Z9x rfl ?_|refine Z9y ?_)); refine Z9w ?_))
    exact hrest _ (by simp only [Zm6]; rw [Bool.eq_iff_iff]; simp [q5])
  (repeat(first|refine Kq rfl rfl rfl ?_|(refine Z99 ?_; (repeat(first|refine Z9x rfl ?_|refine Z9y ?_)); refine Z9w ?_)|refine Ks ?_|refine Zb1 (fun _ _ => rfl) ?_|refine Z8s ?_))
  (rw [decide_eq_false (p := k = 10) (by omega)])
  (repeat(first|refine Kq rfl rfl rfl ?_|(refine Z99 ?_; (repeat(first|refine Z9x rfl ?_|refine Z9y ?_)); refine Z9w ?_)|refine Ks ?_|refine Zb1 (fun _ _ => rfl) ?_|refine Kc2 rfl ?_))
  (rw [decide_eq_false (p := k = 11) (by omega)])
  (repeat(first|refine Kq rfl rfl rfl ?_|(refine Z99 ?_; (repeat(first|refine Z9x rfl ?_|refine Z9y ?_)); refine Z9w ?_)|refine Ks ?_|refine Zb1 (fun _ _ => rfl) ?_|refine Kc2 rfl ?_))
  (rw [decide_eq_false (p := k = 12) (by omega)])
  (repeat(first|refine Kq rfl rfl rfl ?_|(refine Z99 ?_; (repeat(first|refine Z9x rfl ?_|refine Z9y ?_)); refine Z9w ?_)|refine Ks ?_|refine Zb1 (fun _ _ => rfl) ?_|refine Kc2 rfl ?_))
  (rw [decide_eq_false (p := k = 13) (by omega)])
  (repeat(first|refine Zb2 (fun _ _ => rfl) ?_|refine Kc2 rfl ?_))
  (refine Za0 (keep := [1, 4]) ?_; ((repeat(first|refine Z9x rfl ?_|refine Z9y ?_)); refine Z9w ?_))
  exact hrest _ (by simp only [Zm6]; rw [Bool.eq_iff_iff]; simp [q1, q2, q3, q4])
 refine Kc2 rfl ?_
 refine Zb2 (fun _ _ => rfl) ?_
 refine Za1 ?_
 repeat refine Kq rfl rfl rfl ?_
 rw [Zm2]
 (refine Z99 ?_; (repeat(first|refine Z9x rfl ?_|refine Z9y ?_)); refine Z9w ?_)
 refine Za1 ?_
 repeat refine Kq rfl rfl rfl ?_
 (refine Z99 ?_; (repeat(first|refine Z9x rfl ?_|refine Z9y ?_)); refine Z9w ?_)
 exact key _ r16
end Go.Abs
namespace Go.Abs
open Go Go.Proofs
attribute [local irreducible] AWp aops KP
theorem Znm : ∀ (t : Ty), t.Fit → ∀ (deep n : Nat), deep ≤ 17 → n ≤ 100 → ∀ σ, Z1s Try.prog Zdp [encT t, .int .i64 (deep : Int), .int .i64 (n : Int)] σ fun r σ' => r = .tup [.int .i64 ((chk deep n t).1 : Int), .int .i64 ((chk deep n t).2 : Int)] ∧ σ' = σ := by
 refine Ty.ind fun k ns ks l p s ih hfit deep n hd hn σ => ?_
 cases hfit with
 | mk hk1 hn1 hn4 hkids =>
 have hown := Znl (.mk k ns ks l p s) hk1 hn1
 simp only [encT, Ty.kind, Ty.names, Ty.kids, Ty.len, Ty.prec, Ty.scale] at *
 refine Z94 rfl Zlh (Nat.le_of_ble_eq_true rfl) ?_
 refine Za1 ?_
 refine Z9n rfl (Kfi rfl) fun pb hpb => ?_
 repeat refine Kq rfl rfl rfl ?_
 (refine Z99 ?_; (repeat(first|refine Z9x rfl ?_|refine Z9y ?_)); refine Z9w ?_)
 refine Zaj (d := 3) (cs := [.int .i64 k, .slc 1 (ns.map .str) false, .slc 6 (Zly ks) false, .int .i64 l, .int .i64 p, .int .i64 s]) rfl ?_
 (repeat(first|refine Kq rfl rfl rfl ?_|refine Ks ?_|refine Zb1 (fun _ _ => rfl) ?_))
 by_cases g1 : 16 < deep
 ·(rw [decide_eq_true (p := (16 : Int) < (deep : Int)) (by omega)])
  (repeat(first|refine Kq rfl rfl rfl ?_|refine Z97 rfl ?_|(refine Z99 ?_; (repeat(first|refine Z9x rfl ?_|refine Z9y ?_)); refine Z9w ?_)|refine Ks ?_|refine Zb1 (fun _ _ => rfl) ?_|refine Kc1 rfl ?_))
  refine Z8o ?_
  exact Kar rfl ⟨by rw [chk, if_pos (.inl g1)]; rfl, rfl⟩
 (rw [decide_eq_false (p := (16 : Int) < (deep : Int)) (by omega)])
 (repeat(first|refine Kq rfl rfl rfl ?_|refine Z96 rfl (Kq rfl rfl rfl ?_)|(refine Z99 ?_; (repeat(first|refine Z9x rfl ?_|refine Z9y ?_)); refine Z9w ?_)))
 by_cases g2 : 100 ≤ n
 ·(rw [decide_eq_true (p := (100 : Int) ≤ (n : Int)) (by omega)])
  (repeat(first|refine Kq rfl rfl rfl ?_|(refine Z99 ?_; (repeat(first|refine Z9x rfl ?_|refine Z9y ?_)); refine Z9w ?_)|refine Ks ?_|refine Zb1 (fun _ _ => rfl) ?_|refine Kc1 rfl ?_))
  refine Z8o ?_
  exact Kar rfl ⟨by rw [chk, if_pos (.inr g2)]; rfl, rfl⟩
 (rw [decide_eq_false (p := (100 : Int) ≤ (n : Int)) (by omega)])
 (repeat(first|refine Kq rfl rfl rfl ?_|refine Ks ?_|refine Zb1 (fun _ _ => rfl) ?_|refine Zb2 (fun _ _ => rfl) ?_|refine Kc2 rfl ?_))
 have hc0 : ¬ (16 < deep ∨ 100 ≤ n) := by omega
 refine Z9v rfl (hown _) ?_
 (repeat(first|refine Kq rfl rfl rfl ?_|(refine Z99 ?_; (repeat(first|refine Z9x rfl ?_|refine Z9y ?_)); refine Z9w ?_)|refine Ks ?_|refine Zb1 (fun _ _ => rfl) ?_))
 generalize ho : ownF k ns ks.length l p s = o
 by_cases g3 : o = 0
 ·(rw [decide_eq_false (p := ((o : Nat) : Int) ≠ 0) (by omega)])
  have hchk : chk deep n (.mk k ns ks l p s) = chkL (deep + 1) (n + 1) ks := by rw [chk, if_neg hc0, ho, g3]; simp
  rw [hchk]
  (repeat(first|refine Kq rfl rfl rfl ?_|(refine Z99 ?_; (repeat(first|refine Z9x rfl ?_|refine Z9y ?_)); refine Z9w ?_)|refine Ks ?_|refine Zb1 (fun _ _ => rfl) ?_|refine Z8s ?_|refine Zb2 (fun _ _ => rfl) ?_|refine Kc2 rfl ?_))
  (refine Za0 (keep := [1, 2, 3, 9]) ?_; ((repeat(first|refine Z9x rfl ?_|refine Z9y ?_)); refine Z9w ?_))
  rw [Kwr n (by omega)]
  refine Za6 (fun m F σ' => ∃ (i n' : Nat), F = fset 1 (some (.int .i64 (deep : Int))) (fset 2 (some (.int .i64 (n' : Int))) (fset 3 (some (.iptr [.int .i64 k, .slc 1 (ns.map .str) false, .slc 6 (Zly ks) false, .int .i64 l, .int .i64 p, .int .i64 s])) (fset 9 (some (.int .i64 (i : Int))) Z28))) ∧
   σ = σ' ∧ i ≤ ks.length ∧ n' ≤ 100 ∧ chkL (deep + 1) (n + 1) ks = chkL (deep + 1) n' (ks.drop i) ∧ m = ks.length - i) (n := ks.length)
   ⟨0, n + 1, rfl, rfl, by omega, by omega, rfl, rfl⟩ ?_
  rintro m F σ' ⟨i, n', rfl, rfl, hi, hn', hch, rfl⟩
  (repeat(first|refine Kq rfl rfl rfl ?_|(refine Z99 ?_; (repeat(first|refine Z9x rfl ?_|refine Z9y ?_)); refine Z9w ?_)|refine Ks ?_|refine Zb1 (fun _ _ => rfl) ?_))
  rw [Zm2]
  refine Za2 (p := (i : Int) < (ks.length : Int)) rfl (fun h3 => ?_) (fun h3 => ?_)
  ·have hil : i < ks.length := by omega
   have hx : (Zly ks)[(i : Int).toNat]? = some (encT ks[i]) := Zm3 (by rw [Int.toNat_natCast, List.getElem?_eq_getElem hil])
   have hdrop : ks.drop i = ks[i] :: ks.drop (i + 1) := List.drop_eq_getElem_cons hil
   (repeat(first|refine Kq rfl rfl rfl ?_|refine Ks ?_|refine Zb1 (fun _ _ => rfl) ?_|refine Z8s ?_|refine Zb2 (fun _ _ => rfl) ?_))
   refine Z9d rfl (by omega) hx ?_
   rw [Zm0]
   (repeat refine Kq rfl rfl rfl ?_)
   rw [Kwr deep (by omega)]
   have hcw := ih ks[i] (List.getElem_mem hil) (hkids _ (List.getElem_mem hil)) (deep + 1) n' (by omega) hn' σ
   rw [Zm0] at hcw
   refine Z9v rfl hcw ?_
   (repeat(first|refine Kq rfl rfl rfl ?_|(refine Z99 ?_; (repeat(first|refine Z9x rfl ?_|refine Z9y ?_)); refine Z9w ?_)|refine Ks ?_|refine Zb1 (fun _ _ => rfl) ?_))
   have he := Zni ks[i] (deep + 1) n'
   have hle := Znh ks[i] (deep + 1) n' hn'
   rw [hdrop, chkL] at hch
   by_cases g7 : (chk (deep + 1) n' ks[i]).2 = 0
   ·rw [if_neg (by omega)] at hch
    (rw [show decide ((((chk (deep + 1) n' ks[i]).2 : Nat) : Int) ≠ 0) = false from decide_eq_false (by omega)])
    (repeat(first|refine Kq rfl rfl rfl ?_|(refine Z99 ?_; (repeat(first|refine Z9x rfl ?_|refine Z9y ?_)); refine Z9w ?_)|refine Zb1 (fun _ _ => rfl) ?_|refine Zb2 (fun _ _ => rfl) ?_|refine Kc2 rfl ?_))
    refine Zb4 ?_
    repeat refine Kq rfl rfl rfl ?_
    rw [Kwr i (by omega)]
    (refine Z99 ?_; (repeat(first|refine Z9x rfl ?_|refine Z9y ?_)); refine Z9w ?_)
    exact ⟨_, ks.length - (i + 1), HSub.refl _, ⟨i + 1, _, rfl, rfl, by omega, hle, hch, rfl⟩, by omega⟩
   ·rw [if_pos g7] at hch
    (rw [show decide ((((chk (deep + 1) n' ks[i]).2 : Nat) : Int) ≠ 0) = true from decide_eq_true (by omega)])
    (repeat(first|refine Kq rfl rfl rfl ?_|(refine Z99 ?_; (repeat(first|refine Z9x rfl ?_|refine Z9y ?_)); refine Z9w ?_)|refine Ks ?_|refine Zb1 (fun _ _ => rfl) ?_|refine Kc1 rfl ?_))
    refine Z8o ?_
    exact Kar rfl ⟨by rw [hch]; rfl, rfl⟩
  ·(repeat(first|refine Kq rfl rfl rfl ?_|(refine Z99 ?_; (repeat(first|refine Z9x rfl ?_|refine Z9y ?_)); refine Z9w ?_)|refine Ks ?_|refine Zb1 (fun _ _ => rfl) ?_|refine Zb3 (fun _ _ => rfl) ?_))
   have hd0 : ks.drop i = [] := List.drop_of_length_le (by omega)
   rw [hd0, chkL] at hch
   refine Z8o ?_
   exact Kar rfl ⟨by rw [hch]; rfl, rfl⟩
 ·(rw [decide_eq_true (p := ((o : Nat) : Int) ≠ 0) (by omega)])
  (repeat(first|refine Kq rfl rfl rfl ?_|(refine Z99 ?_; (repeat(first|refine Z9x rfl ?_|refine Z9y ?_)); refine Z9w ?_)|refine Ks ?_|refine Zb1 (fun _ _ => rfl) ?_|refine Kc1 rfl ?_))
  refine Z8o ?_
  exact Kar rfl ⟨by rw [chk, if_neg hc0, ho, if_pos g3]; rfl, rfl⟩
theorem Znn (t : Ty) (h : t.Fit) (σ : Zc) : Z1s Try.prog Zch [encT t] σ fun r σ' => r = .int .i64 (Zm8 t : Int) ∧ σ' = σ := by
 have hw := Znm t h 1 0 (by omega) (by omega) σ
 rw [Zm0] at *
 refine Z94 rfl Zld (Nat.le_of_ble_eq_true rfl) ?_
 refine Za1 ?_
 refine Z9n rfl (Kfi rfl) fun pb hpb => ?_
 repeat refine Kq rfl rfl rfl ?_
 (refine Z99 ?_; (repeat(first|refine Z9x rfl ?_|refine Z9y ?_)); refine Z9w ?_)
 refine Zaj (d := 1) (cs := Zlz t) rfl ?_
 (repeat(first|refine Kq rfl rfl rfl ?_|refine Ks ?_|refine Zb1 (fun _ _ => rfl) ?_))
 refine Z9v rfl hw ?_
 (repeat(first|refine Kq rfl rfl rfl ?_|(refine Z99 ?_; (repeat(first|refine Z9x rfl ?_|refine Z9y ?_)); refine Z9w ?_)|refine Ks ?_|refine Zb1 (fun _ _ => rfl) ?_))
 refine Z8o ?_
 exact Kar rfl ⟨rfl, rfl⟩
end Go.Abs
namespace Go.Abs
open Go Go.Proofs
attribute [local irreducible] AWp aops KP
theorem Zno (xs : List Z0) (f : Bool) (σ : Zc) : Z1s Try.prog Zek [.slc 1 xs f] σ fun r σ' => r = .slc 1 xs true ∧ σ' = σ := by
 refine Z94 rfl Zlj (Nat.le_of_ble_eq_true rfl) ?_
 (repeat(first|refine Kq rfl rfl rfl ?_|(refine Z99 ?_; (repeat(first|refine Z9x rfl ?_|refine Z9y ?_)); refine Z9w ?_)|refine Ks ?_|refine Zb1 (fun _ _ => rfl) ?_))
 refine Z9t rfl (by omega) (by omega) ?_
 rw [Int.toNat_natCast, List.take_length]
 (repeat(first|refine Kq rfl rfl rfl ?_|(refine Z99 ?_; (repeat(first|refine Z9x rfl ?_|refine Z9y ?_)); refine Z9w ?_)))
 refine Z8o ?_
 exact Kar rfl ⟨rfl, rfl⟩
theorem Znp (xs : List Z0) (f : Bool) (σ : Zc) : Z1s Try.prog Zem [.slc 1 xs f] σ fun r σ' => r = .slc 1 xs true ∧ σ' = σ := by
 refine Z94 rfl Zll (Nat.le_of_ble_eq_true rfl) ?_
 (repeat(first|refine Kq rfl rfl rfl ?_|(refine Z99 ?_; (repeat(first|refine Z9x rfl ?_|refine Z9y ?_)); refine Z9w ?_)|refine Ks ?_|refine Zb1 (fun _ _ => rfl) ?_))
 refine Z9t rfl (by omega) (by omega) ?_
 rw [Int.toNat_natCast, List.take_length]
 (repeat(first|refine Kq rfl rfl rfl ?_|(refine Z99 ?_; (repeat(first|refine Z9x rfl ?_|refine Z9y ?_)); refine Z9w ?_)))
 refine Z8o ?_
 exact Kar rfl ⟨rfl, rfl⟩
theorem Znq {v : Z0} {xs : List Z0} {β : Zc} (ho : Zb5 1 v xs β) (σ : Zc) : Z1s Try.prog Zem [v] (β ++ σ) fun r σ' => r = .slc 1 xs true ∧ σ' = σ := by
 rcases ho with ⟨⟨z, rfl⟩, rfl, rfl⟩ | ⟨b, rfl, rfl⟩
 ·exact Z1s.args (VRle.nil_slc z 1 true) (Znp [] true σ)
 refine Z94 rfl Zll (Nat.le_of_ble_eq_true rfl) ?_
 (repeat(first|refine Kq rfl rfl rfl ?_|(refine Z99 ?_; (repeat(first|refine Z9x rfl ?_|refine Z9y ?_)); refine Z9w ?_)|refine Ks ?_|refine Zb1 (fun _ _ => rfl) ?_))
 refine Z9s rfl Z9a (by omega) (by omega) (by omega) Z9l ?_
 rw [List.drop_zero, Int.toNat_natCast, List.take_length]
 (repeat(first|refine Kq rfl rfl rfl ?_|(refine Z99 ?_; (repeat(first|refine Z9x rfl ?_|refine Z9y ?_)); refine Z9w ?_)))
 refine Z8o ?_
 exact Kar rfl ⟨rfl, rfl⟩
theorem Znr (xs : List Z0) (f : Bool) (σ : Zc) : Z1s Try.prog Zdd [.slc 8 xs f] σ fun r σ' => r = .slc 8 xs true ∧ σ' = σ := by
 refine Z94 rfl Zlf (Nat.le_of_ble_eq_true rfl) ?_
 (repeat(first|refine Kq rfl rfl rfl ?_|(refine Z99 ?_; (repeat(first|refine Z9x rfl ?_|refine Z9y ?_)); refine Z9w ?_)|refine Ks ?_|refine Zb1 (fun _ _ => rfl) ?_))
 refine Z9t rfl (by omega) (by omega) ?_
 rw [Int.toNat_natCast, List.take_length]
 (repeat(first|refine Kq rfl rfl rfl ?_|(refine Z99 ?_; (repeat(first|refine Z9x rfl ?_|refine Z9y ?_)); refine Z9w ?_)))
 refine Z8o ?_
 exact Kar rfl ⟨rfl, rfl⟩
theorem Zns {v : Z0} {xs : List Z0} {β : Zc} (ho : Zb5 8 v xs β) (σ : Zc) : Z1s Try.prog Zdd [v] (β ++ σ) fun r σ' => r = .slc 8 xs true ∧ σ' = σ := by
 rcases ho with ⟨⟨z, rfl⟩, rfl, rfl⟩ | ⟨b, rfl, rfl⟩
 ·exact Z1s.args (VRle.nil_slc z 8 true) (Znr [] true σ)
 refine Z94 rfl Zlf (Nat.le_of_ble_eq_true rfl) ?_
 (repeat(first|refine Kq rfl rfl rfl ?_|(refine Z99 ?_; (repeat(first|refine Z9x rfl ?_|refine Z9y ?_)); refine Z9w ?_)|refine Ks ?_|refine Zb1 (fun _ _ => rfl) ?_))
 refine Z9s rfl Z9a (by omega) (by omega) (by omega) Z9l ?_
 rw [List.drop_zero, Int.toNat_natCast, List.take_length]
 (repeat(first|refine Kq rfl rfl rfl ?_|(refine Z99 ?_; (repeat(first|refine Z9x rfl ?_|refine Z9y ?_)); refine Z9w ?_)))
 refine Z8o ?_
 exact Kar rfl ⟨rfl, rfl⟩
theorem Znt (xs : List Z0) (f : Bool) (he : ∀ x ∈ xs, x.elem 1) (hb : xs.length * 16 ≤ 140737488355328) (σ : Zc) : Z1s Try.prog Zel [.slc 1 xs f] σ fun r σ' => r = .slc 1 xs false ∧ σ' = σ := by
 refine Z94 rfl Zlk (Nat.le_of_ble_eq_true rfl) ?_
 have key : ∀ t : Bool, (t = true → xs = []) → AWp Try.prog Zhd.n (.cond (.t 4) (.seq (.region Zhb [2]) .ret) .skip) (Z8p Try.prog Zhd.n (Zhd.code.snd 2) (ARet Zhd.res fun r σ' => r = .slc 1 xs false ∧ σ' = σ))
   (fset 0 (some (.slc 1 xs f)) (fset 4 (some (.bool t)) Z28)) σ := by
  intro t ht
  cases t with
  | true =>
   (repeat(first|refine Kq rfl rfl rfl ?_|(refine Z99 ?_; (repeat(first|refine Z9x rfl ?_|refine Z9y ?_)); refine Z9w ?_)|refine Ks ?_|refine Zb1 (fun _ _ => rfl) ?_|refine Kc1 rfl ?_))
   refine Z8o ?_
   refine Zag rfl ?_ (HSub.refl _) ⟨rfl, rfl⟩
   rw [ht rfl]
   exact VRle.trans (VRle.nil_slc 0 1 true) VRle.full
  | false =>
   (repeat(first|refine Kq rfl rfl rfl ?_|refine Ks ?_|refine Zb1 (fun _ _ => rfl) ?_|refine Zb2 (fun _ _ => rfl) ?_|refine Kc2 rfl ?_))
   refine Z9r rfl (ys := xs) (by simp [Z1m]) (by simpa using hb) fun b hb => ?_
   (repeat(first|refine Kq rfl rfl rfl ?_|(refine Z99 ?_; (repeat(first|refine Z9x rfl ?_|refine Z9y ?_)); refine Z9w ?_)))
   refine Z8o ?_
   exact Zb8 rfl (Zam.one (Zam.freeze rfl)) ⟨rfl, rfl⟩
 (repeat(first|refine Kq rfl rfl rfl ?_|(refine Z99 ?_; (repeat(first|refine Z9x rfl ?_|refine Z9y ?_)); refine Z9w ?_)|refine Ks ?_|refine Zb1 (fun _ _ => rfl) ?_))
 refine Z95 rfl ?_
 refine ⟨fun _ => ?_, fun hx t => ?_⟩
 ·(refine Z99 ?_; (repeat(first|refine Z9x rfl ?_|refine Z9y ?_)); refine Z9w ?_)
  exact key false (fun h => by cases h)
 ·(refine Z99 ?_; (repeat(first|refine Z9x rfl ?_|refine Z9y ?_)); refine Z9w ?_)
  exact key t (fun _ => hx)
end Go.Abs
namespace Go.Abs
open Go Go.Proofs
attribute [local irreducible] AWp aops KP
inductive Ty.Small : Ty → Prop
 | mk {t : Ty} (h1 : t.kids.length ≤ 300) (h2 : t.names.length ≤ 300) (h4 : ∀ s ∈ t.names, s.length ≤ 100) (h : ∀ k ∈ t.kids, Ty.Small k) : Ty.Small t
theorem Ty.Small.fit : ∀ t : Ty, t.Small → t.Fit := by
 refine Ty.ind fun k ns ks l p s ih h => ?_
 cases h with
 | mk h1 h2 h4 h3 => exact .mk (by omega) (by omega) (fun s hs => Nat.le_trans (h4 s hs) (by unfold maxLen; omega)) fun t ht => ih t ht (h3 t ht)
theorem Znu : ∀ ks : List Ty, ks.length ≤ cntL ks
 | [] => by simp [cntL]
 | .mk k ns ks l p s :: ts => by have := Znu ts; simp only [List.length_cons, cntL, cnt]; omega
theorem Znv : ∀ (t : Ty) (deep n : Nat), (chk deep n t).2 = 0 → (chk deep n t).1 = n + cnt t ∧ t.Small ∧ n + cnt t ≤ 100 := by
 refine Ty.ind fun k ns ks l p s ih deep n h => ?_
 have hL : ∀ (ks : List Ty), (∀ t ∈ ks, ∀ (deep n : Nat), (chk deep n t).2 = 0 → (chk deep n t).1 = n + cnt t ∧ t.Small ∧ n + cnt t ≤ 100) → ∀ deep n, n ≤ 100 → (chkL deep n ks).2 = 0 → (chkL deep n ks).1 = n + cntL ks ∧ (∀ t ∈ ks, t.Small) ∧ n + cntL ks ≤ 100 := by
  intro ks
  induction ks with
  | nil => intro _ deep n hn h; simp [chkL, cntL]; exact hn
  | cons t ts ih2 =>
   intro ht deep n hn h
   rw [chkL] at h ⊢
   split at h
   ·rename_i hne; exact absurd h hne
   ·rename_i hne
    rw [if_neg hne]
    have h1 := ht t (by simp) deep n (by simpa using hne)
    have h2 := ih2 (fun t ht' => ht t (by simp [ht'])) deep (chk deep n t).1 (by omega) h
    refine ⟨by rw [h2.1, h1.1, cntL]; omega, fun u hu => ?_, by rw [cntL]; have := h2.2.2; omega⟩
    rcases List.mem_cons.1 hu with rfl | hu
    ·exact h1.2.1
    ·exact h2.2.1 u hu
 rw [chk] at h ⊢
 split at h
 ·simp at h
 ·rename_i hc
  rw [if_neg hc]
  split at h
  ·rename_i ho; exact absurd h ho
  ·rename_i ho
   rw [if_neg ho]
   have h1 := hL ks ih (deep + 1) (n + 1) (by omega) h
   have hlen := Znu ks
   refine ⟨by rw [h1.1, cnt]; omega, .mk ?_ ?_ ?_ ?_, by rw [cnt]; have := h1.2.2; omega⟩
   ·show ks.length ≤ 300
    have := h1.2.2; omega
   ·show ns.length ≤ 300
    simp only [ne_eq, Decidable.not_not, ownF] at ho
    split at ho
    ·cases ho
    ·split at ho
     ·cases ho
     ·rename_i hr
      simp only [not_or, Bool.not_eq_false] at hr
      have hr' := hr.2.2
      simp only [Zm7, Bool.and_eq_true, Bool.or_eq_true, decide_eq_true_eq, List.isEmpty_iff] at hr'
      obtain ⟨⟨⟨⟨q1, q2⟩, _⟩, _⟩, _⟩ := hr'
      rcases q2 with q2 | q2
      ·subst q2
       simp [Zm6] at q1
       have := h1.2.2; omega
      ·rw [q2]; simp
   ·show ∀ s ∈ ns, s.length ≤ 100
    simp only [ne_eq, Decidable.not_not, ownF] at ho
    split at ho
    ·cases ho
    ·split at ho
     ·cases ho
     ·rename_i hr
      simp only [not_or, Bool.not_eq_false] at hr
      have hr' := hr.2.2
      simp only [Zm7, Bool.and_eq_true, Zm5, List.all_eq_true, decide_eq_true_eq] at hr'
      exact fun s hs => (hr'.1.1.2.1 s hs).2
   ·exact h1.2.1
theorem Znw : ∀ (ks : List Ty) (a i : Nat) (t : Ty), ks[i]? = some t → Zm9 a (ks.take (i + 1)) = Zm9 a (ks.take i) ++ [a + cntL (ks.take i)]
 | [], a, i, t, h => by simp at h
 | u :: ks, a, 0, t, h => by simp [Zm9, cntL]
 | u :: ks, a, i + 1, t, h => by
  simp only [List.take_succ_cons, Zm9, cntL, List.cons_append]
  rw [Znw ks (a + cnt u) i t (by simpa using h), Nat.add_assoc]
theorem Znx : ∀ (ks : List Ty) (a i : Nat) (parent : Int) (deep : Nat) (t : Ty), ks[i]? = some t → Zmb a parent deep (ks.take (i + 1)) = Zmb a parent deep (ks.take i) ++ Zma (a + cntL (ks.take i)) parent deep t
 | [], a, i, _, _, t, h => by simp at h
 | u :: ks, a, 0, _, _, t, h => by simp at h; subst h; simp [Zmb, cntL]
 | u :: ks, a, i + 1, parent, deep, t, h => by
  simp only [List.take_succ_cons, Zmb, cntL, List.append_assoc]
  rw [Znx ks (a + cnt u) i parent deep t (by simpa using h), Nat.add_assoc]
theorem Zny : ∀ (ks : List Ty) (a : Nat) (parent : Int) (deep : Nat), (Zmb a parent deep ks).length = cntL ks
 | [], _, _, _ => rfl
 | t :: ts, a, parent, deep => by rw [Zmb, List.length_append, Zmc, Zny ts, cntL]
theorem Znz : ∀ (ks : List Ty) (i : Nat) (t : Ty), ks[i]? = some t → cntL (ks.take (i + 1)) = cntL (ks.take i) + cnt t ∧ cntL (ks.take i) + cnt t ≤ cntL ks
 | [], i, t, h => by simp at h
 | u :: ks, 0, t, h => by simp at h; subst h; simp [cntL]
 | u :: ks, i + 1, t, h => by
  have := Znz ks i t (by simpa using h)
  simp only [List.take_succ_cons, cntL]
  omega
theorem Zo0 (ns : List (List UInt8)) : ∀ x ∈ ns.map Z0.str, x.elem 1 := fun x hx => by
 obtain ⟨s, _, rfl⟩ := List.mem_map.1 hx
 exact ⟨rfl, fun c hc => by rw [List.mem_singleton.1 hc]; rfl⟩
end Go.Abs

