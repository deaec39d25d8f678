/- Part C of a proof: merged by program. -/
import Derived.Test.YtgmefkhincnajaaProg
import Derived.WalkKit
import Derived.Maps.OwnSet
import Derived.Maps.AppendAt
import Derived.Test.YtgmefkhincnajaaPkB
import Derived.KernelRfl
namespace Go.Abs
open Go
theorem Kwr (i : Nat) (h : i < 9223372036854775807) : IntKind.wrap .i64 ((i : Int) + 1) = ((i + 1 : Nat) : Int) := by rw [w64 _ (by omega) (by omega)]; omega
theorem Kc1 {P : Program} {N : Nat} {x : Zw} {a b : Z2b} {R : Z87} {F : Z26} {σ : Zc} (hx : ev F x = some (.bool true)) (h : AWp P N a R F σ) : AWp P N (.cond x a b) R F σ := Z8f (t := true) hx (fun _ => h) (fun e => by cases e)
theorem Kfi {sz : Nat} {v : Z0} (h : Z0.fit sz v = true) : v.elem sz := Z0.fit_iff.1 h
theorem Kar {res : List ARes} {R : Z0 → Zc → Prop} {F : Z26} {σ : Zc} {vs : List Z0} (h : Z8l F σ res = some vs) (hR : R (Z8m vs) σ) : ARet res R .ret F σ := ares h (HSub.refl _) hR
theorem Kc2 {P : Program} {N : Nat} {x : Zw} {a b : Z2b} {R : Z87} {F : Z26} {σ : Zc} (hx : ev F x = some (.bool false)) (h : AWp P N b R F σ) : AWp P N (.cond x a b) R F σ := Z8f (t := false) hx (fun e => by cases e) (fun _ => h)
end Go.Abs
namespace Go.Abs
def Zc8 : Nat := 2
def Zc9 : Nat := 3
def Zca : Nat := 4
def Zcb : Nat := 5
def Zcc : Nat := 6
def Zcd : Nat := 7
def Zce : Nat := 8
def Zcf : Nat := 9
def Zcg : Nat := 10
def Zch : Nat := 11
def Zci : Nat := 12
def Zcj : Nat := 13
def Zck : Nat := 14
def Zcl : Nat := 15
def Zcm : Nat := 16
def Zcn : Nat := 17
def Zco : Nat := 18
def Zcp : Nat := 19
def Zcq : Nat := 20
def Zcr : Nat := 21
def Zcs : Nat := 22
def Zct : Nat := 23
def Zcu : Nat := 24
def Zcv : Nat := 25
def Zcw : Nat := 26
def Zcx : Nat := 27
def Zcy : Nat := 28
def Zcz : Nat := 29
def Zd0 : Nat := 30
def Zd1 : Nat := 31
def Zd2 : Nat := 32
def Zd3 : Nat := 33
def Zd4 : Nat := 34
def Zd5 : Nat := 35
def Zd6 : Nat := 36
def Zd7 : Nat := 37
def Zd8 : Nat := 38
def Zd9 : Nat := 39
def Zda : Nat := 40
def Zdb : Nat := 41
def Zdc : Nat := 42
def Zdd : Nat := 43
def Zde : Nat := 44
def Zdf : Nat := 45
def Zdg : Nat := 46
def Zdh : Nat := 47
def Zdi : Nat := 48
def Zdj : Nat := 49
def Zdk : Nat := 50
def Zdl : Nat := 51
def Zdm : Nat := 52
def Zdn : Nat := 53
def Zdo : Nat := 54
def Zdp : Nat := 55
def Zdq : Nat := 56
def Zdr : Nat := 57
def Zds : Nat := 58
def Zdt : Nat := 59
def Zdu : Nat := 60
def Zdv : Nat := 61
def Zdw : Nat := 62
def Zdx : Nat := 63
def Zdy : Nat := 64
def Zdz : Nat := 65
def Ze0 : Nat := 66
def Ze1 : Nat := 67
def Ze2 : Nat := 68
def Ze3 : Nat := 69
def Ze4 : Nat := 70
def Ze5 : Nat := 71
def Ze6 : Nat := 72
def Ze7 : Nat := 73
def Ze8 : Nat := 74
def Ze9 : Nat := 75
def Zea : Nat := 76
def Zeb : Nat := 77
def Zec : Nat := 78
def Zed : Nat := 79
def Zee : Nat := 80
def Zef : Nat := 81
def Zeg : Nat := 82
def Zeh : Nat := 83
def Zei : Nat := 84
def Zej : Nat := 85
def Zek : Nat := 86
def Zel : Nat := 87
def Zem : Nat := 88
def Zen : Nat := 89
def Zeo : Nat := 90
def Zep : Nat := 91
def Zeq : Nat := 92
def Zer : Nat := 93
def Zes : Nat := 94
def Zet : Nat := 95
def Zeu : Nat := 96
def Zev : Nat := 97
def Zew : Nat := 98
def Zex : Nat := 99
def Zey : Nat := 100
def Zez : Nat := 101
def Zf0 : Nat := 102
def Zf1 : Nat := 103
def Zf2 : Nat := 104
def Zf3 : Nat := 105
def Zf4 : Nat := 106
def Zf5 : Nat := 107
def Zf6 : Nat := 108
def Zf7 : Nat := 109
def Zf8 : Nat := 110
def Zf9 : Nat := 111
def Zfa : Nat := 112
def Zfb : Nat := 113
def Zfc : Nat := 114
def Zfd : Nat := 115
def Zfe : Nat := 116
def Zff : Nat := 117
def Zfg : Nat := 118
def Zfh : Nat := 119
def Zfi : Nat := 120
def Zfj : Nat := 121
def Zfk : Nat := 122
def Zfl : Nat := 123
def Zfm : Nat := 124
def Zfn : Nat := 125
def Zfo : Nat := 126
def Zfp : Nat := 127
def Zfq : Nat := 128
def Zfr : Nat := 129
def Zfs : Nat := 130
def Zft : Nat := 131
def Zfu : Nat := 132
def Zfv : Nat := 133
def Zfw : Nat := 134
def Zfx : Nat := 135
def Zfy : Nat := 136
def Zfz : Nat := 137
def Zg0 : Nat := 138
def Zg1 : Nat := 139
def Zg2 : Nat := 140
def Zg3 : Nat := 141
def Zg4 : Nat := 142
def Zg5 : Nat := 143
def Zg6 : Nat := 144
def Zg7 : Nat := 146
def Zg8 : Nat := 147
def Zg9 : Nat := 148
def Zga : Nat := 149
def Zgb : Nat := 150
def Zgc : Nat := 151
def Zgd : Nat := 152
def Zge : Nat := 153
def Zgf : Nat := 154
def Zgg : Nat := 155
def Zgh : Nat := 156
def Zgi : Nat := 157
end Go.Abs
namespace Go.Abs
open Go
def Zh9 : List Z2a := [
  ⟨some 1,(.box 6),[.t 0],none⟩,⟨some 2,.mov,[.c (.int .i64 0)],none⟩]
def Zha : List Z2a := [
  ⟨some 3,(.alloc (.int .i64 0)),[],none⟩,⟨none,(.store 1),[.t 3,.c (.int .i64 0)],none⟩]
def Zhb : List Z2a := [
  ⟨some 4,(.load true 6),[.t 1],none⟩,⟨some 5,(.call Zf9),[.t 4,.c (.int .i64 1),.t 3],none⟩,⟨some 2,.mov,[.t 5],none⟩]
def Zhc : Z2y := ⟨6,(.seq (.region Zh9 [1]) (.seq (.region Zha [1,3]) (.seq (.region Zhb [2]) .ret))),[.t 2]⟩
def Zhd : List Z2a := [
  ⟨some 2,.mov,[.c (.slc 0 [] true)],none⟩]
def Zhe : List Z2a := [
  ⟨some 3,.mov,[.t 0],none⟩,⟨some 4,.mov,[.t 0],none⟩,⟨some 5,.lens,[.t 4],none⟩,⟨some 6,.mov,[.t 0],none⟩,⟨some 7,.lens,[.t 6],none⟩,⟨some 8,(.clip 8),[.t 3,.t 5,.t 7],none⟩,⟨some 2,.mov,[.t 8],none⟩]
def Zhf : Z2y := ⟨9,(.seq (.region Zhd [0]) (.seq (.region Zhe [2]) .ret)),[.t 2]⟩
def Zib : List Z2a := [
  ⟨some 3,(.box 6),[.t 0],none⟩,⟨some 6,.mov,[.c (.int .i64 0)],none⟩]
def Zic : List Z2a := [
  ⟨some 11,.mov,[.t 1],none⟩,⟨some 12,(.bin .gtr),[.t 11,.c (.int .i64 16)],none⟩,⟨some 13,.mov,[.t 12],none⟩,⟨some 14,.mov,[.t 2],some (13,false)⟩,⟨some 15,.nilc,[.t 14],some (13,false)⟩,⟨some 16,(.load false 1),[.t 15],some (13,false)⟩,⟨some 17,(.bin .geq),[.t 16,.c (.int .i64 100)],some (13,false)⟩,⟨some 18,.pick,[.t 13,.c (.bool true),.t 17],none⟩,⟨some 10,.mov,[.t 18],none⟩]
def Zid : List Z2a := [
  ⟨some 6,.mov,[.c (.int .i64 4)],none⟩]
def Zie : List Z2a := [
  ⟨some 20,(.fad 0),[.t 3],none⟩,⟨some 21,(.load false 1),[.t 20],none⟩,⟨some 22,(.bin .eql),[.t 21,.c (.int .i64 5)],none⟩,⟨some 23,.mov,[.t 22],none⟩,⟨some 24,(.fad 0),[.t 3],some (23,false)⟩,⟨some 25,(.load false 1),[.t 24],some (23,false)⟩,⟨some 26,(.bin .eql),[.t 25,.c (.int .i64 6)],some (23,false)⟩,⟨some 27,.pick,[.t 23,.c (.bool true),.t 26],none⟩,⟨some 19,.mov,[.t 27],none⟩]
def Zif : List Z2a := [
  ⟨some 6,.mov,[.c (.int .i64 5)],none⟩]
def Zig : List Z2a := [
  ⟨some 29,(.fad 0),[.t 3],none⟩,⟨some 30,(.load false 1),[.t 29],none⟩,⟨some 31,(.bin .lss),[.t 30,.c (.int .i64 0)],none⟩,⟨some 32,.mov,[.t 31],none⟩,⟨some 33,(.fad 0),[.t 3],some (32,false)⟩,⟨some 34,(.load false 1),[.t 33],some (32,false)⟩,⟨some 35,(.bin .gtr),[.t 34,.c (.int .i64 17)],some (32,false)⟩,⟨some 36,.pick,[.t 32,.c (.bool true),.t 35],none⟩,⟨some 37,.mov,[.t 36],none⟩,⟨some 38,(.load true 6),[.t 3],some (37,false)⟩,⟨some 39,(.call Zg6),[.t 38],some (37,false)⟩,⟨some 40,.unot,[.t 39],some (37,false)⟩,⟨some 41,.pick,[.t 37,.c (.bool true),.t 40],none⟩,⟨some 28,.mov,[.t 41],none⟩]
def Zih : List Z2a := [
  ⟨some 6,.mov,[.c (.int .i64 1)],none⟩]
def Zii : List Z2a := [
  ⟨some 42,.mov,[.t 2],none⟩,⟨some 43,.nilc,[.t 42],none⟩,⟨some 44,(.load false 1),[.t 43],none⟩,⟨some 45,(.bin .add),[.t 44,.c (.int .i64 1)],none⟩,⟨some 46,.nilc,[.t 42],none⟩,⟨none,(.store 1),[.t 46,.t 45],none⟩]
def Zij : List Z2a := [
  ⟨some 47,(.fad 2),[.t 3],none⟩,⟨some 48,(.load false 1),[.t 47],none⟩,⟨some 49,.lens,[.t 48],none⟩,⟨some 50,.mov,[.c (.int .i64 0)],none⟩]
def Zik : List Z2a := [
  ⟨some 51,(.bin .lss),[.t 50,.t 49],none⟩]
def Zil : List Z2a := [
  ⟨some 52,(.iad 6),[.t 48,.t 50],none⟩,⟨some 53,(.load true 6),[.t 52],none⟩,⟨some 8,(.alloc (.agg [(.int .i64 0),(.slc 0 [] true),(.slc 0 [] true),(.int .i64 0),(.int .i64 0),(.int .i64 0)])),[],none⟩,⟨none,(.store 6),[.t 8,.t 53],none⟩]
def Zim : List Z2a := [
  ⟨some 54,(.load true 6),[.t 8],none⟩,⟨some 55,.mov,[.t 1],none⟩,⟨some 56,(.bin .add),[.t 55,.c (.int .i64 1)],none⟩,⟨some 57,.mov,[.t 2],none⟩,⟨some 58,(.call Zf9),[.t 54,.t 56,.t 57],none⟩,⟨some 9,.mov,[.t 58],none⟩]
def Zin : List Z2a := [
  ⟨some 59,.mov,[.t 9],none⟩,⟨some 60,(.bin .neq),[.t 59,.c (.int .i64 0)],none⟩]
def Zio : List Z2a := [
  ⟨some 61,.mov,[.t 9],none⟩,⟨some 6,.mov,[.t 61],none⟩]
def Zip : List Z2a := [
  ⟨some 62,(.bin .add),[.t 50,.c (.int .i64 1)],none⟩,⟨some 50,.mov,[.t 62],none⟩]
def Ziq : Z2b := (.seq (.region Zik [1,2,48,49,50,51]) (.seq (.cond (.t 51) .skip (.exit 1)) (.seq (.block 2 (.seq (.region Zil [1,2,8,48,49,50]) (.seq (.region Zim [1,2,9,48,49,50]) (.seq (.region Zin [1,2,9,48,49,50,60]) (.cond (.t 60) (.seq (.region Zio [6]) .ret) .skip))))) (.region Zip [1,2,48,49,50]))))
def Zir : List Z2a := [
  ⟨some 6,.mov,[.c (.int .i64 0)],none⟩]
def Zis : Z2y := ⟨63,(.seq (.region Zib [1,2,3,14,15,16,17,24,25,26,33,34,35,38,39,40]) (.seq (.block 0 (.seq (.region Zic [1,2,3,10,24,25,26,33,34,35,38,39,40]) (.cond (.t 10) (.seq (.region Zid [6]) .ret) (.seq (.region Zie [1,2,3,19,33,34,35,38,39,40]) (.cond (.t 19) (.seq (.region Zif [6]) .ret) (.seq (.region Zig [1,2,3,28]) (.cond (.t 28) (.seq (.region Zih [6]) .ret) .skip))))))) (.seq (.region Zii [1,2,3]) (.seq (.seq (.region Zij [1,2,48,49,50]) (.block 1 (.loop Ziq))) (.seq (.region Zir [6]) .ret))))),[.t 6]⟩
def Zit : List Z2a := [
  ⟨some 2,.mov,[.c (.slc 0 [] true)],none⟩]
def Ziu : List Z2a := [
  ⟨some 3,.mov,[.t 0],none⟩,⟨some 4,.mov,[.t 0],none⟩,⟨some 5,.lens,[.t 4],none⟩,⟨some 6,.mov,[.t 0],none⟩,⟨some 7,.lens,[.t 6],none⟩,⟨some 8,(.clip 1),[.t 3,.t 5,.t 7],none⟩,⟨some 2,.mov,[.t 8],none⟩]
def Ziv : Z2y := ⟨9,(.seq (.region Zit [0]) (.seq (.region Ziu [2]) .ret)),[.t 2]⟩
def Ziw : List Z2a := [
  ⟨some 2,.mov,[.c (.slc 0 [] true)],none⟩]
def Zix : List Z2a := [
  ⟨some 3,.mov,[.t 0],none⟩,⟨some 4,(.isnil false),[.t 3,.c (.slc 0 [] true)],none⟩]
def Ziy : List Z2a := [
  ⟨some 2,.mov,[.c (.slc 0 [] true)],none⟩]
def Ziz : List Z2a := [
  ⟨some 5,(.bsl 1),[],none⟩,⟨some 6,.mov,[.t 0],none⟩,⟨some 7,(.app 1 16),[.t 5,.t 6],none⟩,⟨some 2,.mov,[.t 7],none⟩]
def Zj0 : Z2y := ⟨8,(.seq (.region Ziw [0]) (.seq (.seq (.region Zix [0,4]) (.cond (.t 4) (.seq (.region Ziy [2]) .ret) .skip)) (.seq (.region Ziz [2]) .ret))),[.t 2]⟩
def Zj1 : List Z2a := [
  ⟨some 2,.mov,[.c (.slc 0 [] true)],none⟩]
def Zj2 : List Z2a := [
  ⟨some 3,.mov,[.t 0],none⟩,⟨some 4,.mov,[.t 0],none⟩,⟨some 5,.lens,[.t 4],none⟩,⟨some 6,.mov,[.t 0],none⟩,⟨some 7,.lens,[.t 6],none⟩,⟨some 8,(.clip 1),[.t 3,.t 5,.t 7],none⟩,⟨some 2,.mov,[.t 8],none⟩]
def Zj3 : Z2y := ⟨9,(.seq (.region Zj1 [0]) (.seq (.region Zj2 [2]) .ret)),[.t 2]⟩
def Zj4 : List Z2a := [
  ⟨some 2,.mov,[.c (.bool false)],none⟩]
def Zj5 : List Z2a := [
  ⟨some 3,.mov,[.t 0],none⟩]
def Zj6 : List Z2a := [
  ⟨some 5,(.bin .eql),[.t 3,.c (.int .i64 10)],none⟩,⟨some 4,.mov,[.t 5],none⟩]
def Zj7 : List Z2a := [
  ⟨some 6,(.bin .eql),[.t 3,.c (.int .i64 11)],none⟩,⟨some 4,.mov,[.t 6],none⟩]
def Zj8 : List Z2a := [
  ⟨some 8,(.bin .eql),[.t 3,.c (.int .i64 12)],none⟩,⟨some 7,.mov,[.t 8],none⟩]
def Zj9 : List Z2a := [
  ⟨some 9,(.bin .eql),[.t 3,.c (.int .i64 13)],none⟩,⟨some 7,.mov,[.t 9],none⟩]
def Zja : List Z2a := [
  ⟨some 2,.mov,[.c (.bool false)],none⟩]
def Zjb : List Z2a := [
  ⟨some 2,.mov,[.c (.bool true)],none⟩]
def Zjc : Z2y := ⟨10,(.seq (.region Zj4 [0]) (.seq (.seq (.region Zj5 [3]) (.block 0 (.seq (.block 2 (.block 1 (.seq (.seq (.seq (.seq (.region Zj6 [3,4]) (.cond (.t 4) .skip (.region Zj7 [3,4]))) (.cond (.t 4) (.exit 1) .skip)) (.seq (.seq (.region Zj8 [3,7]) (.cond (.t 7) .skip (.region Zj9 [7]))) (.cond (.t 7) (.exit 2) .skip))) (.exit 0)))) (.seq (.seq (.region Zja [2]) .ret) (.exit 0))))) (.seq (.region Zjb [2]) .ret))),[.t 2]⟩
def Zkh : List Z2a := [
  ⟨some 1,(.box 6),[.t 0],none⟩,⟨some 2,.mov,[.c (.bool false)],none⟩]
def Zki : List Z2a := [
  ⟨some 3,.mov,[.c (.int .i64 0)],none⟩,⟨some 4,.mov,[.c (.int .i64 0)],none⟩,⟨some 5,.mov,[.c (.int .i64 0)],none⟩,⟨some 6,.mov,[.c (.bool false)],none⟩]
def Zkj : List Z2a := [
  ⟨some 7,(.fad 0),[.t 1],none⟩,⟨some 8,(.load false 1),[.t 7],none⟩]
def Zkk : List Z2a := [
  ⟨some 10,(.bin .eql),[.t 8,.c (.int .i64 11)],none⟩,⟨some 9,.mov,[.t 10],none⟩]
def Zkl : List Z2a := [
  ⟨some 12,(.bin .eql),[.t 8,.c (.int .i64 10)],none⟩,⟨some 11,.mov,[.t 12],none⟩]
def Zkm : List Z2a := [
  ⟨some 14,(.bin .eql),[.t 8,.c (.int .i64 12)],none⟩,⟨some 13,.mov,[.t 14],none⟩]
def Zkn : List Z2a := [
  ⟨some 16,(.bin .eql),[.t 8,.c (.int .i64 13)],none⟩,⟨some 15,.mov,[.t 16],none⟩]
def Zko : List Z2a := [
  ⟨some 18,(.bin .eql),[.t 8,.c (.int .i64 16)],none⟩,⟨some 17,.mov,[.t 18],none⟩]
def Zkp : List Z2a := [
  ⟨some 19,(.bin .eql),[.t 8,.c (.int .i64 17)],none⟩,⟨some 17,.mov,[.t 19],none⟩]
def Zkq : List Z2a := [
  ⟨some 21,(.bin .eql),[.t 8,.c (.int .i64 14)],none⟩,⟨some 20,.mov,[.t 21],none⟩]
def Zkr : List Z2a := [
  ⟨some 22,.mov,[.t 3],none⟩,⟨some 23,(.bin .add),[.t 22,.c (.int .i64 1)],none⟩,⟨some 3,.mov,[.t 23],none⟩]
def Zks : List Z2a := [
  ⟨some 24,.mov,[.t 3],none⟩,⟨some 25,(.bin .add),[.t 24,.c (.int .i64 1)],none⟩,⟨some 3,.mov,[.t 25],none⟩]
def Zkt : List Z2a := [
  ⟨some 26,(.fad 1),[.t 1],none⟩,⟨some 27,(.load false 1),[.t 26],none⟩,⟨some 28,.lens,[.t 27],none⟩,⟨some 29,(.fad 1),[.t 1],none⟩,⟨some 30,(.load false 1),[.t 29],none⟩,⟨some 31,.lens,[.t 30],none⟩,⟨some 3,.mov,[.t 28],none⟩,⟨some 4,.mov,[.t 31],none⟩]
def Zku : List Z2a := [
  ⟨some 32,(.fad 2),[.t 1],none⟩,⟨some 33,(.load false 1),[.t 32],none⟩,⟨some 34,.lens,[.t 33],none⟩,⟨some 3,.mov,[.t 34],none⟩]
def Zkv : List Z2a := [
  ⟨some 35,.mov,[.t 3],none⟩,⟨some 36,(.bin .lss),[.t 35,.c (.int .i64 1)],none⟩,⟨some 37,.mov,[.t 36],none⟩,⟨some 38,.mov,[.t 3],some (37,false)⟩,⟨some 39,(.bin .gtr),[.t 38,.c (.int .i64 255)],some (37,false)⟩,⟨some 40,.pick,[.t 37,.c (.bool true),.t 39],none⟩]
def Zkw : List Z2a := [
  ⟨some 2,.mov,[.c (.bool false)],none⟩]
def Zkx : List Z2a := [
  ⟨some 41,(.fad 3),[.t 1],none⟩,⟨some 42,(.load false 1),[.t 41],none⟩,⟨some 5,.mov,[.t 42],none⟩]
def Zky : List Z2a := [
  ⟨some 43,.mov,[.t 5],none⟩,⟨some 44,(.bin .lss),[.t 43,.c (.int .i64 1)],none⟩,⟨some 45,.mov,[.t 44],none⟩,⟨some 46,.mov,[.t 5],some (45,false)⟩,⟨some 47,(.bin .gtr),[.t 46,.c (.int .i64 4096)],some (45,false)⟩,⟨some 48,.pick,[.t 45,.c (.bool true),.t 47],none⟩]
def Zkz : List Z2a := [
  ⟨some 2,.mov,[.c (.bool false)],none⟩]
def Zl0 : List Z2a := [
  ⟨some 6,.mov,[.c (.bool true)],none⟩]
def Zl1 : List Z2a := [
  ⟨some 49,(.fad 2),[.t 1],none⟩,⟨some 50,(.load false 1),[.t 49],none⟩,⟨some 51,.lens,[.t 50],none⟩,⟨some 52,.mov,[.t 3],none⟩,⟨some 53,(.bin .neq),[.t 51,.t 52],none⟩,⟨some 54,.mov,[.t 53],none⟩,⟨some 55,(.fad 1),[.t 1],some (54,false)⟩,⟨some 56,(.load false 1),[.t 55],some (54,false)⟩,⟨some 57,.lens,[.t 56],some (54,false)⟩,⟨some 58,.mov,[.t 4],some (54,false)⟩,⟨some 59,(.bin .neq),[.t 57,.t 58],some (54,false)⟩,⟨some 60,.pick,[.t 54,.c (.bool true),.t 59],none⟩,⟨some 61,.mov,[.t 60],none⟩,⟨some 62,(.fad 3),[.t 1],some (61,false)⟩,⟨some 63,(.load false 1),[.t 62],some (61,false)⟩,⟨some 64,.mov,[.t 5],some (61,false)⟩,⟨some 65,(.bin .neq),[.t 63,.t 64],some (61,false)⟩,⟨some 66,.pick,[.t 61,.c (.bool true),.t 65],none⟩,⟨some 67,.mov,[.t 66],none⟩,⟨some 68,(.fad 1),[.t 1],some (67,false)⟩,⟨some 69,(.load false 1),[.t 68],some (67,false)⟩,⟨some 70,(.call Zgh),[.t 69],some (67,false)⟩,⟨some 71,.unot,[.t 70],some (67,false)⟩,⟨some 72,.pick,[.t 67,.c (.bool true),.t 71],none⟩]
def Zl2 : List Z2a := [
  ⟨some 2,.mov,[.c (.bool false)],none⟩]
def Zl3 : List Z2a := [
  ⟨some 73,.mov,[.t 6],none⟩]
def Zl4 : List Z2a := [
  ⟨some 74,(.fad 4),[.t 1],none⟩,⟨some 75,(.load false 1),[.t 74],none⟩,⟨some 76,(.bin .geq),[.t 75,.c (.int .i64 1)],none⟩,⟨some 77,.mov,[.t 76],none⟩,⟨some 78,(.fad 4),[.t 1],some (77,true)⟩,⟨some 79,(.load false 1),[.t 78],some (77,true)⟩,⟨some 80,(.bin .leq),[.t 79,.c (.int .i64 18)],some (77,true)⟩,⟨some 81,.pick,[.t 77,.t 80,.c (.bool false)],none⟩,⟨some 82,.mov,[.t 81],none⟩,⟨some 83,(.fad 5),[.t 1],some (82,true)⟩,⟨some 84,(.load false 1),[.t 83],some (82,true)⟩,⟨some 85,(.bin .geq),[.t 84,.c (.int .i64 0)],some (82,true)⟩,⟨some 86,.pick,[.t 82,.t 85,.c (.bool false)],none⟩,⟨some 87,.mov,[.t 86],none⟩,⟨some 88,(.fad 5),[.t 1],some (87,true)⟩,⟨some 89,(.load false 1),[.t 88],some (87,true)⟩,⟨some 90,(.fad 4),[.t 1],some (87,true)⟩,⟨some 91,(.load false 1),[.t 90],some (87,true)⟩,⟨some 92,(.bin .leq),[.t 89,.t 91],some (87,true)⟩,⟨some 93,.pick,[.t 87,.t 92,.c (.bool false)],none⟩,⟨some 2,.mov,[.t 93],none⟩]
def Zl5 : List Z2a := [
  ⟨some 94,(.fad 4),[.t 1],none⟩,⟨some 95,(.load false 1),[.t 94],none⟩,⟨some 96,(.bin .eql),[.t 95,.c (.int .i64 0)],none⟩,⟨some 97,.mov,[.t 96],none⟩,⟨some 98,(.fad 5),[.t 1],some (97,true)⟩,⟨some 99,(.load false 1),[.t 98],some (97,true)⟩,⟨some 100,(.bin .eql),[.t 99,.c (.int .i64 0)],some (97,true)⟩,⟨some 101,.pick,[.t 97,.t 100,.c (.bool false)],none⟩,⟨some 2,.mov,[.t 101],none⟩]
def Zl6 : Z2y := ⟨102,(.seq (.region Zkh [1,38,39,46,47,55,56,57,58,59,62,63,64,65,68,69,70,71,78,79,80,83,84,85,88,89,90,91,92,98,99,100]) (.seq (.region Zki [1,3,4,5,6,38,39,46,47,55,56,57,58,59,62,63,64,65,68,69,70,71,78,79,80,83,84,85,88,89,90,91,92,98,99,100]) (.seq (.seq (.region Zkj [1,3,4,5,6,8,38,39,46,47,55,56,57,58,59,62,63,64,65,68,69,70,71,78,79,80,83,84,85,88,89,90,91,92,98,99,100]) (.block 0 (.seq (.block 6 (.seq (.block 5 (.seq (.block 4 (.seq (.block 3 (.seq (.block 2 (.seq (.block 1 (.seq (.seq (.seq (.region Zkk [1,3,4,5,6,8,9,38,39,46,47,55,56,57,58,59,62,63,64,65,68,69,70,71,78,79,80,83,84,85,88,89,90,91,92,98,99,100]) (.cond (.t 9) (.exit 1) .skip)) (.seq (.seq (.region Zkl [1,3,4,5,6,8,11,38,39,46,47,55,56,57,58,59,62,63,64,65,68,69,70,71,78,79,80,83,84,85,88,89,90,91,92,98,99,100]) (.cond (.t 11) (.exit 2) .skip)) (.seq (.seq (.region Zkm [1,3,4,5,6,8,13,38,39,46,47,55,56,57,58,59,62,63,64,65,68,69,70,71,78,79,80,83,84,85,88,89,90,91,92,98,99,100]) (.cond (.t 13) (.exit 3) .skip)) (.seq (.seq (.region Zkn [1,3,4,5,6,8,15,38,39,46,47,55,56,57,58,59,62,63,64,65,68,69,70,71,78,79,80,83,84,85,88,89,90,91,92,98,99,100]) (.cond (.t 15) (.exit 4) .skip)) (.seq (.seq (.seq (.region Zko [1,3,4,5,6,8,17,46,47,55,56,57,58,59,62,63,64,65,68,69,70,71,78,79,80,83,84,85,88,89,90,91,92,98,99,100]) (.cond (.t 17) .skip (.region Zkp [1,3,4,5,6,8,17,46,47,55,56,57,58,59,62,63,64,65,68,69,70,71,78,79,80,83,84,85,88,89,90,91,92,98,99,100]))) (.cond (.t 17) (.exit 5) .skip)) (.seq (.region Zkq [1,3,4,5,6,20,55,56,57,58,59,62,63,64,65,68,69,70,71,78,79,80,83,84,85,88,89,90,91,92,98,99,100]) (.cond (.t 20) (.exit 6) .skip))))))) (.exit 0))) (.region Zkr [1,3,4,5,6,55,56,57,58,59,62,63,64,65,68,69,70,71,78,79,80,83,84,85,88,89,90,91,92,98,99,100]))) (.seq (.region Zks [1,3,4,5,6,55,56,57,58,59,62,63,64,65,68,69,70,71,78,79,80,83,84,85,88,89,90,91,92,98,99,100]) (.exit 0)))) (.seq (.region Zkt [1,3,4,5,6,55,56,57,58,59,62,63,64,65,68,69,70,71,78,79,80,83,84,85,88,89,90,91,92,98,99,100]) (.exit 0)))) (.seq (.seq (.region Zku [1,3,4,5,6,38,39,55,56,57,58,59,62,63,64,65,68,69,70,71,78,79,80,83,84,85,88,89,90,91,92,98,99,100]) (.seq (.region Zkv [1,3,4,5,6,40,55,56,57,58,59,62,63,64,65,68,69,70,71,78,79,80,83,84,85,88,89,90,91,92,98,99,100]) (.cond (.t 40) (.seq (.region Zkw [2]) .ret) .skip))) (.exit 0)))) (.seq (.seq (.region Zkx [1,3,4,5,6,46,47,55,56,57,58,59,62,63,64,65,68,69,70,71,78,79,80,83,84,85,88,89,90,91,92,98,99,100]) (.seq (.region Zky [1,3,4,5,6,48,55,56,57,58,59,62,63,64,65,68,69,70,71,78,79,80,83,84,85,88,89,90,91,92,98,99,100]) (.cond (.t 48) (.seq (.region Zkz [2]) .ret) .skip))) (.exit 0)))) (.seq (.region Zl0 [1,3,4,5,6,55,56,57,58,59,62,63,64,65,68,69,70,71,78,79,80,83,84,85,88,89,90,91,92,98,99,100]) (.exit 0))))) (.seq (.seq (.region Zl1 [1,6,72,78,79,80,83,84,85,88,89,90,91,92,98,99,100]) (.cond (.t 72) (.seq (.region Zl2 [2]) .ret) .skip)) (.seq (.seq (.region Zl3 [1,73,78,79,80,83,84,85,88,89,90,91,92,98,99,100]) (.cond (.t 73) (.seq (.region Zl4 [2]) .ret) .skip)) (.seq (.region Zl5 [2]) .ret)))))),[.t 2]⟩
end Go.Abs
namespace Go.Abs
open Go Go.Proofs
theorem Zlb : Z2z Try.prog [] Ze2 = some Zhc.erase := by kernel_rfl
theorem Zlc : Z2z Try.prog [] Ze3 = some Zhf.erase := by kernel_rfl
theorem Zlf : Z2z Try.prog [] Zf9 = some Zis.erase := by kernel_rfl
theorem Zlg : Z2z Try.prog [] Zfa = some Ziv.erase := by kernel_rfl
theorem Zlh : Z2z Try.prog [] Zfb = some Zj0.erase := by kernel_rfl
theorem Zli : Z2z Try.prog [] Zfc = some Zj3.erase := by kernel_rfl
theorem Zlj : Z2z Try.prog [] Zfd = some Zjc.erase := by kernel_rfl
theorem Zll : Z2z Try.prog [] Zg6 = some Zl6.erase := by kernel_rfl
end Go.Abs
set_option linter.unusedVariables false
set_option linter.unusedSimpArgs false
namespace Go.Abs
open Go
inductive Ty where
  | mk (kind : Int) (names : List (List UInt8)) (kids : List Ty) (len prec scale : Int)
namespace Ty
def kind : Ty → Int | .mk k _ _ _ _ _ => k
def names : Ty → List (List UInt8) | .mk _ n _ _ _ _ => n
def kids : Ty → List Ty | .mk _ _ ks _ _ _ => ks
def len : Ty → Int | .mk _ _ _ l _ _ => l
def prec : Ty → Int | .mk _ _ _ _ p _ => p
def scale : Ty → Int | .mk _ _ _ _ _ s => s
theorem ind {p : Ty → Prop} (h : ∀ k ns ks l pr s, (∀ t ∈ ks, p t) → p (.mk k ns ks l pr s)) : ∀ t, p t := by
  intro t
  refine Ty.rec (motive_1 := p) (motive_2 := fun l => ∀ t ∈ l, p t) ?_ ?_ ?_ t
  · intro k ns ks l pr s ih; exact h k ns ks l pr s ih
  · intro t ht; cases ht
  · intro a l ha hl t ht
    rcases List.mem_cons.1 ht with rfl | ht
    · exact ha
    · exact hl t ht
end Ty
def Zlm (ns : List (List UInt8)) : Z0 := .slc 1 (ns.map .str) false
mutual
def encT : Ty → Z0
  | .mk k ns ks l p s => .agg [.int .i64 k, .slc 1 (ns.map .str) false, .slc 6 (Zln ks) false, .int .i64 l, .int .i64 p, .int .i64 s]
def Zln : List Ty → List Z0
  | [] => []
  | t :: ts => encT t :: Zln ts
end
def Zlo (t : Ty) : List Z0 := [.int .i64 t.kind, .slc 1 (t.names.map .str) false, .slc 6 (Zln t.kids) false, .int .i64 t.len, .int .i64 t.prec, .int .i64 t.scale]
theorem Zlp (t : Ty) : encT t = .agg (Zlo t) := by cases t; simp only [encT, Zlo, Ty.kind, Ty.names, Ty.kids, Ty.len, Ty.prec, Ty.scale]
theorem Zlq (ts : List Ty) : Zln ts = ts.map encT := by
  induction ts with
  | nil => rfl
  | cons t ts ih => simp [Zln, ih]
theorem Zlr (ts : List Ty) : (Zln ts).length = ts.length := by simp [Zlq]
theorem Zls {ts : List Ty} {i : Nat} {t : Ty} (h : ts[i]? = some t) : (Zln ts)[i]? = some (encT t) := by simp [Zlq, h]
def Zlt (k : Int) : Bool := !(decide (k = 10) || decide (k = 11) || decide (k = 12) || decide (k = 13))
def Zlu (ns : List (List UInt8)) : Bool := ns.all (fun s => decide (s ≠ [] ∧ s.length ≤ 100)) && decide ns.Nodup
def Zlv (k : Int) (names kids : Nat) : Bool :=
  if k = 10 then kids == 1 else if k = 11 then kids == 2 else if k = 12 then kids == names else if k = 13 then decide (1 ≤ kids ∧ kids ≤ 255) else kids == 0
def Zlw (k : Int) (ns : List (List UInt8)) (kids : Nat) (l p s : Int) : Bool :=
  Zlv k ns.length kids && (decide (k = 12) || ns.isEmpty) && Zlu ns &&
  (if k = 16 ∨ k = 17 then decide (1 ≤ l ∧ l ≤ 4096) else decide (l = 0)) &&
  (if k = 14 then decide (1 ≤ p ∧ p ≤ 18 ∧ 0 ≤ s ∧ s ≤ p) else decide (p = 0 ∧ s = 0))
def ownF (k : Int) (ns : List (List UInt8)) (kids : Nat) (l p s : Int) : Nat :=
  if k = 5 ∨ k = 6 then 5 else if k < 0 ∨ 17 < k ∨ Zlw k ns kids l p s = false then 1 else 0
mutual
def chk (deep n : Nat) : Ty → Nat × Nat
  | .mk k ns ks l p s => if 16 < deep ∨ 100 ≤ n then (n, 4) else if ownF k ns ks.length l p s ≠ 0 then (n, ownF k ns ks.length l p s) else chkL (deep + 1) (n + 1) ks
def chkL (deep n : Nat) : List Ty → Nat × Nat
  | [] => (n, 0)
  | t :: ts => if (chk deep n t).2 ≠ 0 then chk deep n t else chkL deep (chk deep n t).1 ts
end
def Zlx (t : Ty) : Nat := (chk 1 0 t).2
mutual
def cnt : Ty → Nat
  | .mk _ _ ks _ _ _ => 1 + cntL ks
def cntL : List Ty → Nat
  | [] => 0
  | t :: ts => cnt t + cntL ts
end
def Zly (at_ : Nat) : List Ty → List Nat
  | [] => []
  | t :: ts => at_ :: Zly (at_ + cnt t) ts
structure Nd where
  t : Ty
  kids : List Nat
  parent : Int
  deep : Nat
mutual
def Zlz (at_ : Nat) (parent : Int) (deep : Nat) : Ty → List Nd
  | .mk k ns ks l p s => ⟨.mk k ns ks l p s, Zly (at_ + 1) ks, parent, deep⟩ :: Zm0 (at_ + 1) (at_ : Int) (deep + 1) ks
def Zm0 (at_ : Nat) (parent : Int) (deep : Nat) : List Ty → List Nd
  | [] => []
  | t :: ts => Zlz at_ parent deep t ++ Zm0 (at_ + cnt t) parent deep ts
end
theorem Zm1 : (∀ t : Ty, ∀ at_ parent deep, (Zlz at_ parent deep t).length = cnt t) := by
  refine Ty.ind fun k ns ks l p s ih at_ parent deep => ?_
  have hL : ∀ (ks : List Ty), (∀ t ∈ ks, ∀ at_ parent deep, (Zlz at_ parent deep t).length = cnt t) → ∀ at_ parent deep, (Zm0 at_ parent deep ks).length = cntL ks := by
    intro ks
    induction ks with
    | nil => intro _ at_ parent deep; simp [Zm0, cntL]
    | cons t ts ih2 =>
      intro h at_ parent deep
      simp only [Zm0, cntL, List.length_append]
      rw [h t (by simp), ih2 (fun t ht => h t (by simp [ht]))]
  simp only [Zlz, cnt, List.length_cons]
  rw [hL ks ih]; omega
def ints (l : List Nat) : List Z0 := l.map fun (n : Nat) => Z0.int .i64 (n : Int)
def Zm2 (n : Nd) : List Z0 := [.int .i64 n.t.kind, .slc 1 (ints n.kids) true, .slc 1 (n.t.names.map .str) true, .int .i64 n.t.len, .int .i64 n.t.prec, .int .i64 n.t.scale, .int .i64 n.parent, .int .i64 (n.deep : Int)]
def Zm3 (n : Nd) : List Z0 := Zlo n.t ++ [.slc 1 (ints n.kids) false, .int .i64 n.parent, .int .i64 (n.deep : Int)]
def encN (n : Nd) : Z0 := .agg (Zm2 n)
def encR (n : Nd) : Z0 := .agg (Zm3 n)
def Zm4 (t : Ty) : List Nd := if Zlx t = 0 then Zlz 0 (-1) 1 t else []
end Go.Abs
set_option linter.unusedVariables false
set_option linter.unusedSimpArgs false
namespace Go.Abs
open Go
inductive Vl where
  | mk (null : Bool) (i n : Int) (b : List UInt8) (kids : List Vl)
instance : Inhabited Ty := ⟨.mk 0 [] [] 0 0 0⟩
instance : Inhabited Vl := ⟨.mk false 0 0 [] []⟩
namespace Vl
def null : Vl → Bool | .mk x _ _ _ _ => x
def i : Vl → Int | .mk _ x _ _ _ => x
def n : Vl → Int | .mk _ _ x _ _ => x
def b : Vl → List UInt8 | .mk _ _ _ x _ => x
def kids : Vl → List Vl | .mk _ _ _ _ x => x
theorem ind {p : Vl → Prop} (h : ∀ nu i n b ks, (∀ v ∈ ks, p v) → p (.mk nu i n b ks)) : ∀ v, p v := by
  intro v
  refine Vl.rec (motive_1 := p) (motive_2 := fun l => ∀ v ∈ l, p v) ?_ ?_ ?_ v
  · intro nu i n b ks ih; exact h nu i n b ks ih
  · intro v hv; cases hv
  · intro a l ha hl v hv
    rcases List.mem_cons.1 hv with rfl | hv
    · exact ha
    · exact hl v hv
end Vl
mutual
def encV : Vl → Z0
  | .mk nu i n b ks => .agg [.bool nu, .int .i64 i, .int .i64 n, .slc 1 (bytes b) false, .slc 5 (Zm5 ks) false]
def Zm5 : List Vl → List Z0
  | [] => []
  | v :: vs => encV v :: Zm5 vs
end
def Zm6 (v : Vl) : List Z0 := [.bool v.null, .int .i64 v.i, .int .i64 v.n, .slc 1 (bytes v.b) false, .slc 5 (Zm5 v.kids) false]
theorem Zm7 (v : Vl) : encV v = .agg (Zm6 v) := by cases v; simp only [encV, Zm6, Vl.null, Vl.i, Vl.n, Vl.b, Vl.kids]
theorem Zm8 (vs : List Vl) : Zm5 vs = vs.map encV := by
  induction vs with
  | nil => rfl
  | cons v vs ih => simp [Zm5, ih]
theorem Zm9 (vs : List Vl) : (Zm5 vs).length = vs.length := by simp [Zm8]
theorem Zma {vs : List Vl} {i : Nat} {v : Vl} (h : vs[i]? = some v) : (Zm5 vs)[i]? = some (encV v) := by simp [Zm8, h]
def Zmb (k : Int) : Bool := decide (k = 7) || decide (k = 16) || decide (k = 17) || decide (k = 8)
def digN (u : Nat) : Nat := if _h : u < 10 then 1 else digN (u / 10) + 1
termination_by u
decreasing_by exact Nat.div_lt_self (Nat.lt_of_lt_of_le (by decide) (Nat.le_of_not_lt _h)) (by decide)
def Zmc (b : List UInt8) : Nat := (b.filter fun c => decide (c.toNat / 64 ≠ 2)).length
def Zmd (i n : Int) : Bool := decide (-1099511627776 ≤ i ∧ i ≤ 1099511627776 ∧ 0 ≤ n ∧ n < 1000000000)
def Zme (k : Int) (kids : Nat) (prec i n : Int) : Bool :=
  if n ≠ 0 ∧ k ≠ 9 then false
  else if k = 0 then decide (i = 0 ∨ i = 1)
  else if k = 1 then decide (-128 ≤ i ∧ i ≤ 127)
  else if k = 2 then decide (-32768 ≤ i ∧ i ≤ 32767)
  else if k = 3 ∨ k = 15 then decide (-2147483648 ≤ i ∧ i ≤ 2147483647)
  else if k = 4 then true
  else if k = 14 then decide ((digN i.natAbs : Int) ≤ prec)
  else if k = 9 then Zmd i n
  else if k = 13 then decide (0 ≤ i ∧ i < kids)
  else decide (i = 0)
def Zmf (k i : Int) (j : Nat) : Nat := if k = 10 then 0 else if k = 11 then j % 2 else if k = 13 then i.toNat else j
def kidT (t : Ty) (i : Int) (j : Nat) : Ty := t.kids.getD (Zmf t.kind i j) default
def ownV (t : Ty) (i n : Int) (b : List UInt8) (kids : Nat) : Nat :=
  if Zme t.kind t.kids.length t.prec i n = false ∨ (b ≠ [] ∧ Zmb t.kind = false) ∨ (kids ≠ 0 ∧ Zlt t.kind = true) then 1
  else if 4096 < b.length ∨ ((t.kind = 16 ∨ t.kind = 17) ∧ t.len < (Zmc b : Int)) then 4
  else if t.kind = 10 then (if 16384 < kids then 4 else 0)
  else if t.kind = 11 then (if kids % 2 ≠ 0 then 1 else if 32768 < kids then 4 else 0)
  else if t.kind = 12 then (if kids ≠ t.kids.length then 1 else 0)
  else if t.kind = 13 then (if kids ≠ 1 then 1 else 0)
  else 0
mutual
def vchk (t : Ty) : Vl → Nat
  | .mk nu i n b ks =>
    if nu = true then (if i ≠ 0 ∨ n ≠ 0 ∨ b ≠ [] ∨ ks.length ≠ 0 then 1 else 0)
    else if ownV t i n b ks.length ≠ 0 then ownV t i n b ks.length
    else Zmg t i 0 ks
def Zmg (t : Ty) (i : Int) (j : Nat) : List Vl → Nat
  | [] => 0
  | k :: ks => if t.kind = 11 ∧ j % 2 = 0 ∧ k.null = true then 1 else if vchk (kidT t i j) k ≠ 0 then vchk (kidT t i j) k else Zmg t i (j + 1) ks
end
theorem Zmi : ∀ (k u : Nat), 1 ≤ k → u < 10 ^ k → digN u ≤ k
  | 0, u, h, _ => absurd h (by omega)
  | k + 1, u, _, h => by
    rw [digN]
    split
    · omega
    · rename_i hu
      have : digN (u / 10) ≤ k := Zmi k (u / 10) (by
        cases k with
        | zero => simp at h; omega
        | succ k => omega) (by rw [Nat.pow_succ] at h; omega)
      omega
theorem Zmj {u : Nat} (h : u ≤ 18446744073709551615) : digN u ≤ 20 := Zmi 20 u (by decide) (Nat.lt_of_le_of_lt h (by decide))
theorem Zmk (b : List UInt8) : Zmc b ≤ b.length := List.length_filter_le _ _
theorem Zml {b : List UInt8} {i : Nat} {c : UInt8} (h : b[i]? = some c) : Zmc (b.take (i + 1)) = Zmc (b.take i) + (if c.toNat / 64 ≠ 2 then 1 else 0) := by
  rw [List.take_add_one, h]
  simp only [Zmc, Option.toList_some, List.filter_append, List.length_append]
  congr 1
  by_cases hc : c.toNat / 64 = 2 <;> simp [hc]
end Go.Abs
namespace Go.Abs
open Go Go.Proofs
set_option linter.unusedVariables false
set_option linter.unusedSimpArgs false
set_option maxHeartbeats 4000000
attribute [local irreducible] AWp aops KP
end Go.Abs
namespace Go.Abs
open Go Go.Proofs
set_option linter.unusedVariables false
set_option linter.unusedSimpArgs false
set_option maxHeartbeats 4000000
attribute [local irreducible] AWp aops KP
end Go.Abs
namespace Go.Abs.Names
open Go Go.Proofs Go.RowKit Go.Maps
set_option linter.unusedVariables false
set_option linter.unusedSimpArgs false
def Dn (ns : List (List UInt8)) : DataW Unit := ns.foldl (fun D s => D.put (.string s) (.lit (.bool true))) (.map [])
theorem Zmm (s : List UInt8) : WideAt.IsKeyLit (.string s) := by first | exact trivial | exact WideAt.IsKeyLit.string | simp [WideAt.IsKeyLit]
theorem Zmo (ns : List (List UInt8)) (s : List UInt8) : Dn (ns ++ [s]) = (Dn ns).put (.string s) (.lit (.bool true)) := by simp [Dn]
theorem Zmp : ∀ (ns : List (List UInt8)) (s : List UInt8), (Dn ns).atKey (.string s) (.lit (.bool false)) = .lit (.bool (decide (s ∈ ns))) := by
  intro ns s
  have : ∀ (ns : List (List UInt8)) (D : DataW Unit) (c : Bool), IsMap D → D.atKey (.string s) (.lit (.bool false)) = .lit (.bool c) →
      (ns.foldl (fun D s => D.put (.string s) (.lit (.bool true))) D).atKey (.string s) (.lit (.bool false)) = .lit (.bool (c || decide (s ∈ ns))) := by
    intro ns
    induction ns with
    | nil => intro D c hD h; simpa using h
    | cons u ns ih =>
      intro D c hD h
      have hD' : IsMap (D.put (.string u) (.lit (.bool true))) := by first | exact hD.put _ _ | exact isMap_put hD _ _
      by_cases e : s = u
      · subst e
        have := ih _ true hD' (atKey_put_same hD (Zmm s) _ _)
        simpa using this
      · have := ih _ c hD' ((atKey_put_other (by simpa using e) _ _).trans h)
        simpa [e] using this
  exact (this ns _ false (by first | exact ⟨_, rfl⟩ | exact trivial | simp [IsMap]) rfl).trans (by simp)
def str (s : List UInt8) : Value := .string ⟨s.toArray⟩
def okTo (ns : List (List UInt8)) (k : Nat) : Prop := ∀ (a : Nat) (s : List UInt8), a < k → ns[a]? = some s → (s ≠ [] ∧ s.length ≤ 100) ∧ s ∉ ns.take a
theorem law9 : Keyed Try.prog 9 := string_keyed Try.underlying9
theorem Zmq (w : World) : (zeroValue 4).run Try.prog w = .ok (.bool false) w := by kernel_rfl
theorem Zmr {P : Program} {e : TypeId} {v : Value} {y : DataW Unit × List MemPlace} (he : P.underlying e = some .bool) (h : plainElem P e v = some y) : ∃ c, v = .bool c ∧ y = (.lit (.bool c), []) := by
  unfold plainElem at h
  rw [he] at h
  cases v <;> simp at h
  exact ⟨_, rfl, h.symm⟩
theorem look (ns : List (List UInt8)) (s : List UInt8) (hs : s.length ≤ maxLen) {w : World} {b n : Nat} (h : w.ownsMap Try.prog 9 (plainElem Try.prog 4) b n (Dn ns)) :
    (Instr.lookup 212 (.map (some b)) (str s) false).run Try.prog w = .ok (.bool (decide (s ∈ ns))) w := by
  have hk : keyOf Try.prog 9 (str s) = some (.string s) := by
    have := Go.WideMaps.keyOf_string_mk (P := Try.prog) (k := 9) Try.underlying9 (s := ⟨s.toArray⟩) (by simpa [ByteArray.size] using hs)
    simpa [str] using this
  obtain ⟨v, ps, hrun, hv⟩ := h.lookup law9 Try.underlying212 (Zmq w) (zd := .lit (.bool false)) (zp := []) (by simp [plainElem, Try.underlying4]) hk
  rw [Zmp] at hv
  obtain ⟨c, rfl, e⟩ := Zmr Try.underlying4 hv
  simp only [Prod.mk.injEq, DataW.lit.injEq, Lit.bool.injEq] at e
  rw [hrun, e.1]
set_option maxHeartbeats 1600000 in
set_option maxRecDepth 100000 in
theorem names_any (b off len cap : Nat) (ns : List (List UInt8)) (w : World) (hl : ns.length = len) (hm : len ≤ 140737488355328) (hb : b < w.heap.size)
    (hc : ∀ j, j < len → w.cell? ⟨b, off + j, none⟩ = some (str (ns.getD j []))) (hw : ∀ s ∈ ns, s.length ≤ maxLen) (R : Bool) (hR : R = true ↔ okTo ns len) :
    Calls Try.prog 156 #[.slice (some ⟨b, off, none⟩) len cap] w fun e w' => e = .returned (.bool R) ∧ Below w.heap.size w w' := by
  have hmm := @run_makeMap Try.prog
  have hm' : len ≤ 140737488355328 := hm
  go_enter Try.func156, Try.ntmps156
  go_wp2
  go_loopw [9] (fun i wr => ∃ k : Nat, k ≤ len ∧ i = .int .i64 k ∧ wr.ownsMap Try.prog 9 (plainElem Try.prog 4) w.heap.size k (Dn (ns.take k)) ∧ Below w.heap.size w wr ∧ okTo ns k)
    (fun i _ => len - (intOf i).toNat)
  case atStart => exact ⟨0, Nat.zero_le _, rfl, by exact World.ownsMap_made _ _ _ _, (Below.refl _ _).alloc (Nat.le_refl _) _, fun a s h => absurd h (by omega)⟩
  case round =>
    obtain ⟨k, hk, rfl, hown, hnx, hok⟩ := hrel
    have hcx : k < len → wr.cell? ⟨b, off + k, none⟩ = some (.string ⟨(ns.getD k []).toArray⟩) := fun _ => (hnx.cell (by exact hb)).trans (hc k (by omega))
    generalize hs : ns.getD k [] = s at hcx
    have hsl : s.length ≤ maxLen := by
      rw [List.getD_eq_getElem?_getD] at hs
      cases h : ns[k]? with
      | none => rw [h] at hs; subst hs; simp
      | some u => rw [h] at hs; simp at hs; subst hs; exact hw u (List.mem_of_getElem? h)
    have hkey : keyOf Try.prog 9 (.string ⟨s.toArray⟩) = some (.string s) := by
      have := Go.WideMaps.keyOf_string_mk (P := Try.prog) (k := 9) Try.underlying9 (s := ⟨s.toArray⟩) (by simpa [ByteArray.size] using hsl)
      simpa using this
    have hlook : (Instr.lookup 212 (.map (some w.heap.size)) (.string ⟨s.toArray⟩) false).run Try.prog wr = .ok (.bool (decide (s ∈ ns.take k))) wr := look (ns.take k) s hsl hown
    have bad : k < len → ¬ ((s ≠ [] ∧ s.length ≤ 100) ∧ s ∉ ns.take k) → R = false := fun hlt h => by
      cases hR' : R with
      | false => rfl
      | true =>
        refine absurd ((hR.1 hR') k s hlt ?_) h
        rw [← hs, List.getD_eq_getElem?_getD, List.getElem?_eq_getElem (by omega)]; rfl
    obtain ⟨w1, hupd, hown1, hgrow1⟩ := hown.update law9 Try.underlying212 (by unfold maxLen; omega) hkey (plainElem_bool Try.underlying4 true)
    go_wp2
    · have hb' := bad (by assumption) (fun h => h.1.1 (by assumption))
      go_ret
      exact ⟨by rw [hb']; rfl, hnx⟩
    · have hb' := bad (by assumption) (fun h => by
        rename_i h1 h2 h3 h4
        have h4' : (s.isEmpty = true ∨ 100 < (s.length : Int)) ∨ s ∈ List.take k ns := by assumption
        rcases h4' with (h4 | h4) | h4
        · exact h.1.1 (by simpa using h4)
        · have := h.1.2; omega
        · exact h.2 h4)
      go_ret
      exact ⟨by rw [hb']; rfl, hnx⟩
    · have hlt : k < len := by assumption
      have Zd : ns[k]? = some s := by rw [← hs, List.getD_eq_getElem?_getD, List.getElem?_eq_getElem (by omega)]; rfl
      have htake : ns.take (k + 1) = ns.take k ++ [s] := by rw [List.take_add_one, Zd]; rfl
      have hne : ¬ s = [] := by assumption
      have h100 : (s.length : Int) ≤ 100 := by assumption
      have hnin : (s.isEmpty = false ∧ (s.length : Int) ≤ 100) ∧ ¬s ∈ List.take k ns := by assumption
      go_roundw
      case rel =>
        refine ⟨k + 1, by omega, by first | go_num | (refine congrArg _ ?_; rw [IntWalk.wrap64_in _ (by omega)]; omega) | (simp; rw [IntWalk.wrap64_in _ (by omega)]; omega), ?_, ?_, ?_⟩
        · rw [htake, Zmo]; exact hown1
        · exact hnx.grown hgrow1 hnx.size (fun j hj => by cases hj; exact Nat.le_refl _)
        · intro a u ha hu
          by_cases e : a = k
          · subst e
            rw [Zd] at hu; cases hu
            exact ⟨⟨hne, by omega⟩, hnin.2⟩
          · exact hok a u (by omega) hu
      case measure => simp [intOf]; omega
    · have hb' := bad (by assumption) (fun h => by have := h.1.2; omega)
      go_ret
      exact ⟨by rw [hb']; rfl, hnx⟩
    · have : k = len := by omega
      subst this
      go_ret
      exact ⟨by rw [hR.2 hok]; rfl, hnx⟩
set_option maxRecDepth 100000 in
theorem names_none (a : Option Addr) (cap : Nat) (w : World) : Calls Try.prog 156 #[.slice a 0 cap] w fun e w' => e = .returned (.bool true) ∧ Below w.heap.size w w' := by
  have hmm := @run_makeMap Try.prog
  go_enter Try.func156, Try.ntmps156
  go_wp2
  refine wp_loop_rounds 1 ?_
  rw [rounds_succ]
  go_wp2
  go_ret
  exact ⟨rfl, (Below.refl _ _).alloc (Nat.le_refl _) _⟩
end Go.Abs.Names
namespace Go.Abs
open Go Go.Proofs Go.RowKit
theorem Zms {K : Kr} {σ : Zc} {w w' : World} (r : Rel K σ w) (h : Below w.heap.size w w') : Rel K σ w' := by
  have hle := h.size
  refine ⟨r.ext.trans (h.mono ?_), r.oth.trans ⟨hle, fun k o hk _ => by rw [h.block k (Array.getElem?_eq_some_iff.1 hk).1]; exact hk⟩, fun b o v hb => ?_, r.nd, r.bnd, fun b L cb h1 h2 => Nat.lt_of_lt_of_le (r.lit b L cb h1 h2) hle, fun b blk hb => ?_, r.inj⟩
  · exact r.ext.size
  · have h1 := r.imm b o v hb
    have hlt : b < w.heap.size := by
      unfold World.cell? at h1
      split at h1
      · rename_i hh
        exact (Array.getElem?_eq_some_iff.1 hh).1
      · cases h1
    rw [h.cell hlt]; exact h1
  · have ho := r.own b blk hb
    cases blk with
    | cells sz xs =>
      refine ⟨ho.1, ?_⟩
      rcases ho.2 with h1 | ⟨cb, p, cs, ty, h1, h2, h3, h4, h5⟩
      · exact .inl h1
      · exact .inr ⟨cb, p, cs, ty, h1, h2, h3, (h.block cb (Array.getElem?_eq_some_iff.1 h4).1).trans h4, h5⟩
theorem Zmt {ns : List (List UInt8)} : Zlu ns = true ↔ ∀ (a : Nat) (s : List UInt8), ns[a]? = some s → (s ≠ [] ∧ s.length ≤ 100) ∧ ∀ (k : Nat) (u : List UInt8), k < a → ns[k]? = some u → u ≠ s := by
  rw [Zlu, Bool.and_eq_true, List.all_eq_true, decide_eq_true_eq]
  constructor
  · rintro ⟨h1, h2⟩ a s hs
    refine ⟨by simpa using h1 s (List.mem_of_getElem? hs), fun k u hk hu e => ?_⟩
    subst e
    obtain ⟨ha, e1⟩ := List.getElem?_eq_some_iff.1 hs
    obtain ⟨hk', e2⟩ := List.getElem?_eq_some_iff.1 hu
    exact List.pairwise_iff_getElem.1 h2 k a hk' ha hk (e2.trans e1.symm)
  · intro h
    refine ⟨fun s hs => ?_, List.pairwise_iff_getElem.2 fun k a hk ha hka e => ?_⟩
    · obtain ⟨a, ha⟩ := List.getElem?_of_mem hs
      simpa using (h a s ha).1
    · exact (h a ns[a] (List.getElem?_eq_getElem ha)).2 k ns[k] hka (List.getElem?_eq_getElem hk) e
theorem Zmu {ns : List (List UInt8)} {len : Nat} (hl : ns.length = len) : Zlu ns = true ↔ Names.okTo ns len := by
  rw [Zmt]
  constructor
  · intro h a s _ hs
    refine ⟨(h a s hs).1, fun hm => ?_⟩
    obtain ⟨k, hk⟩ := List.getElem?_of_mem hm
    rw [List.getElem?_take] at hk
    split at hk
    · exact (h a s hs).2 k s (by assumption) hk rfl
    · cases hk
  · intro h a s hs
    have ha := (List.getElem?_eq_some_iff.1 hs).1
    refine ⟨(h a s (by omega) hs).1, fun k u hk hu e => (h a s (by omega) hs).2 ?_⟩
    subst e
    refine List.mem_of_getElem? (i := k) ?_
    rw [List.getElem?_take_of_lt hk]; exact hu
theorem Zmv (ns : List (List UInt8)) (f : Bool) (hl : ns.length ≤ 140737488355328) (hs : ∀ s ∈ ns, s.length ≤ maxLen) (σ : Zc) : Z1q Try.prog 156 [.slc 1 (ns.map .str) f] σ fun r σ' => r = .bool (Zlu ns) ∧ σ' = σ := by
  intro K w vs hr hv
  have fin : (Calls Try.prog 156 vs.toArray w fun e w' => e = .returned (.bool (Zlu ns)) ∧ Below w.heap.size w w') → Calls Try.prog 156 vs.toArray w fun e w' => ∃ v K' r σ', e = .returned v ∧ K.le K' ∧ Rel K' σ' w' ∧ VR K' r v ∧ r = .bool (Zlu ns) ∧ σ' = σ := fun h =>
    h.mono fun e w' ⟨h1, h2⟩ => ⟨_, K, .bool (Zlu ns), σ, h1, Kr.le.refl K, Zms hr h2, Z1.bool .nil, rfl, rfl⟩
  refine fin ?_
  obtain ⟨v, vs', rfl, h1, h2⟩ := hv.ex
  obtain rfl := h2.nil_inv
  unfold VR at h1
  generalize hxs : ns.map Z0.str = xs at h1
  cases h1 with
  | @slc0 _ _ a cap _ _ hf r =>
    have : ns = [] := List.map_eq_nil_iff.1 hxs
    subst this
    exact Names.names_none a cap w
  | @slc _ _ _ a n cap us _ _ hn he hsp hm hvv hc hf r =>
    subst hxs
    obtain ⟨b, o, sp⟩ := a
    simp only at hsp hm
    subst hsp
    have hnl : ns.length = n := by simpa using hn
    by_cases h0 : n = 0
    · subst h0
      have : ns = [] := List.length_eq_zero_iff.1 hnl
      subst this
      exact Names.names_none _ cap w
    have hcell : ∀ j, j < n → w.cell? ⟨b, o + j, none⟩ = some (Names.str (ns.getD j [])) := by
      intro j hj
      have hfl : ((ns.map Z0.str).flatMap Z0.cells)[j]? = some (.str (ns.getD j [])) := by
        have : (ns.map Z0.str).flatMap Z0.cells = ns.map Z0.str := by
          clear hm hvv he hn hr hv h2 fin hs hl hnl
          induction ns with
          | nil => rfl
          | cons s ns ih => simp only [List.map_cons, List.flatMap_cons, ih]; rfl
        rw [this, List.getElem?_map, List.getD_eq_getElem?_getD, List.getElem?_eq_getElem (by omega)]; rfl
      obtain ⟨u, hu, hvu⟩ := hvv.get hfl
      have := hm j u hu
      have hw := hr.imm _ _ _ this
      rw [hw]
      unfold VR at hvu
      cases hvu with
      | str _ => rfl
    have hb : b < w.heap.size := by
      have h1 := hcell 0 (by omega)
      unfold World.cell? at h1
      split at h1
      · rename_i hh
        exact (Array.getElem?_eq_some_iff.1 hh).1
      · cases h1
    exact Names.names_any b o n cap ns w hnl (by omega) hb hcell hs (Zlu ns) (Zmu hnl)
end Go.Abs
namespace Go.Abs
open Go Go.Proofs
set_option linter.unusedVariables false
set_option linter.unusedSimpArgs false
set_option maxHeartbeats 4000000
attribute [local irreducible] AWp aops KP
theorem Zmw (k : Int) (σ : Zc) : Z1q Try.prog Zfd [.int .i64 k] σ fun r σ' => r = .bool (Zlt k) ∧ σ' = σ := by
  refine Z8t rfl Zlj (Nat.le_of_ble_eq_true rfl) ?_
  by_cases h10 : k = 10
  · subst h10; (repeat (first | refine st_q rfl rfl rfl ?_ | (refine Z8y ?_; (repeat (first | refine Z9v rfl ?_ | refine Z9w ?_)); refine Z9u ?_) | refine awp_seq ?_ | refine Zbm (fun _ _ => rfl) ?_ | refine Z8h ?_ | refine Zbn (fun _ _ => rfl) ?_ | refine Zbo (fun _ _ => rfl) ?_ | refine Kc1 rfl ?_)); refine Z8d ?_; exact Kar rfl ⟨rfl, rfl⟩
  by_cases h11 : k = 11
  · subst h11; (repeat (first | refine st_q rfl rfl rfl ?_ | (refine Z8y ?_; (repeat (first | refine Z9v rfl ?_ | refine Z9w ?_)); refine Z9u ?_) | refine awp_seq ?_ | refine Zbm (fun _ _ => rfl) ?_ | refine Z8h ?_ | refine Zbo (fun _ _ => rfl) ?_ | refine Kc1 rfl ?_ | refine Kc2 rfl ?_)); refine Z8d ?_; exact Kar rfl ⟨rfl, rfl⟩
  by_cases h12 : k = 12
  · subst h12; (repeat (first | refine st_q rfl rfl rfl ?_ | (refine Z8y ?_; (repeat (first | refine Z9v rfl ?_ | refine Z9w ?_)); refine Z9u ?_) | refine awp_seq ?_ | refine Zbm (fun _ _ => rfl) ?_ | refine Z8h ?_ | refine Zbn (fun _ _ => rfl) ?_ | refine Zbo (fun _ _ => rfl) ?_ | refine Kc1 rfl ?_ | refine Kc2 rfl ?_)); refine Z8d ?_; exact Kar rfl ⟨rfl, rfl⟩
  by_cases h13 : k = 13
  · subst h13; (repeat (first | refine st_q rfl rfl rfl ?_ | (refine Z8y ?_; (repeat (first | refine Z9v rfl ?_ | refine Z9w ?_)); refine Z9u ?_) | refine awp_seq ?_ | refine Zbm (fun _ _ => rfl) ?_ | refine Z8h ?_ | refine Zbn (fun _ _ => rfl) ?_ | refine Zbo (fun _ _ => rfl) ?_ | refine Kc1 rfl ?_ | refine Kc2 rfl ?_)); refine Z8d ?_; exact Kar rfl ⟨rfl, rfl⟩
  (repeat (first | refine st_q rfl rfl rfl ?_ | (refine Z8y ?_; (repeat (first | refine Z9v rfl ?_ | refine Z9w ?_)); refine Z9u ?_) | refine awp_seq ?_ | refine Zbm (fun _ _ => rfl) ?_ | refine Z8h ?_))
  rw [decide_eq_false h10]
  (repeat (first | refine st_q rfl rfl rfl ?_ | (refine Z8y ?_; (repeat (first | refine Z9v rfl ?_ | refine Z9w ?_)); refine Z9u ?_) | refine Zbm (fun _ _ => rfl) ?_ | refine Kc2 rfl ?_))
  rw [decide_eq_false h11]
  (repeat (first | refine st_q rfl rfl rfl ?_ | (refine Z8y ?_; (repeat (first | refine Z9v rfl ?_ | refine Z9w ?_)); refine Z9u ?_) | refine awp_seq ?_ | refine Zbm (fun _ _ => rfl) ?_ | refine Zbn (fun _ _ => rfl) ?_ | refine Kc2 rfl ?_))
  rw [decide_eq_false h12]
  (repeat (first | refine st_q rfl rfl rfl ?_ | (refine Z8y ?_; (repeat (first | refine Z9v rfl ?_ | refine Z9w ?_)); refine Z9u ?_) | refine Zbm (fun _ _ => rfl) ?_ | refine Kc2 rfl ?_))
  rw [decide_eq_false h13]
  (repeat (first | refine st_q rfl rfl rfl ?_ | (refine Z8y ?_; (repeat (first | refine Z9v rfl ?_ | refine Z9w ?_)); refine Z9u ?_) | refine awp_seq ?_ | refine Zbm (fun _ _ => rfl) ?_ | refine Zbn (fun _ _ => rfl) ?_ | refine Zbo (fun _ _ => rfl) ?_ | refine Kc2 rfl ?_))
  refine Z8d ?_
  exact Kar rfl ⟨by simp [Zlt, h10, h11, h12, h13, Z8m], rfl⟩
theorem Zmx (t : Ty) (hk : t.kids.length ≤ 140737488355328) (hn : t.names.length ≤ 140737488355328) (hsn : ∀ s ∈ t.names, s.length ≤ maxLen) (σ : Zc) : Z1q Try.prog Zg6 [encT t] σ fun r σ' => r = .bool (Zlw t.kind t.names t.kids.length t.len t.prec t.scale) ∧ σ' = σ := by
  obtain ⟨k, ns, ks, l, p, s⟩ := t
  simp only [encT, Ty.kind, Ty.names, Ty.kids, Ty.len, Ty.prec, Ty.scale] at *
  refine Z8t rfl Zll (Nat.le_of_ble_eq_true rfl) ?_
  refine Z9z ?_
  refine Z9j rfl (Kfi rfl) fun b hb => ?_
  (repeat (refine st_q rfl rfl rfl ?_))
  (refine Z8y ?_; (repeat (first | refine Z9v rfl ?_ | refine Z9w ?_)); refine Z9u ?_)
  refine Zb3 (d := 1) (cs := [.int .i64 k, .slc 1 (ns.map .str) false, .slc 6 (Zln ks) false, .int .i64 l, .int .i64 p, .int .i64 s]) rfl ?_
  have main : ∀ (kn nm : Nat) (sz : Int) (ex : Bool), Zlw k ns ks.length l p s = (decide (ks.length = kn) && decide (ns.length = nm) && decide (l = sz) && Zlu ns && (if ex then decide (1 ≤ p ∧ p ≤ 18 ∧ 0 ≤ s ∧ s ≤ p) else decide (p = 0 ∧ s = 0))) →
      AWp Try.prog Zl6.n (Zl6.code.snd 3) (ARet Zl6.res fun r σ' => r = .bool (Zlw k ns ks.length l p s) ∧ σ' = σ)
        (fset 1 (some (.iptr [.int .i64 k, .slc 1 (ns.map .str) false, .slc 6 (Zln ks) false, .int .i64 l, .int .i64 p, .int .i64 s])) (fset 3 (some (.int .i64 (kn : Int))) (fset 4 (some (.int .i64 (nm : Int))) (fset 5 (some (.int .i64 sz)) (fset 6 (some (.bool ex)) Z27))))) σ := by
    intro kn nm sz ex hr
    rw [hr]
    (repeat (first | refine st_q rfl rfl rfl ?_ | refine awp_seq ?_ | refine Zbm (fun _ _ => rfl) ?_))
    rw [Zlr]
    by_cases g1 : ks.length = kn
    · (rw [decide_eq_false (p := ((ks.length : Nat) : Int) ≠ (kn : Int)) (by omega)])
      (repeat (first | refine st_q rfl rfl rfl ?_ | refine Z8v rfl (st_q rfl rfl rfl ?_)))
      rw [List.length_map]
      by_cases g2 : ns.length = nm
      · (rw [decide_eq_false (p := ((ns.length : Nat) : Int) ≠ (nm : Int)) (by omega)])
        (repeat (first | refine st_q rfl rfl rfl ?_ | refine Z8v rfl (st_q rfl rfl rfl ?_)))
        by_cases g3 : l = sz
        · (rw [decide_eq_false (p := l ≠ sz) (by omega)])
          (repeat refine Z8v rfl (st_q rfl rfl rfl ?_))
          refine Z8v rfl (Z9t rfl (Zmv ns false hn hsn _) ?_)
          cases hN : Zlu ns with
          | false =>
            (repeat (first | refine st_q rfl rfl rfl ?_ | refine Z8v rfl (st_q rfl rfl rfl ?_) | (refine Z8y ?_; (repeat (first | refine Z9v rfl ?_ | refine Z9w ?_)); refine Z9u ?_) | refine awp_seq ?_ | refine Zbm (fun _ _ => rfl) ?_ | refine Kc1 rfl ?_))
            refine Z8d ?_
            exact Kar rfl ⟨by simp [Z8m], rfl⟩
          | true =>
            cases ex with
            | true =>
              (repeat (first | refine st_q rfl rfl rfl ?_ | refine Z8v rfl (st_q rfl rfl rfl ?_) | (refine Z8y ?_; (repeat (first | refine Z9v rfl ?_ | refine Z9w ?_)); refine Z9u ?_) | refine awp_seq ?_ | refine Zbm (fun _ _ => rfl) ?_ | refine Zbn (fun _ _ => rfl) ?_ | refine Kc1 rfl ?_ | refine Kc2 rfl ?_))
              by_cases q1 : 1 ≤ p
              · (rw [decide_eq_true (p := 1 ≤ p) (by omega)])
                (repeat (first | refine st_q rfl rfl rfl ?_ | refine Z8v rfl (st_q rfl rfl rfl ?_)))
                by_cases q2 : p ≤ 18
                · (rw [decide_eq_true (p := p ≤ 18) (by omega)])
                  (repeat (first | refine st_q rfl rfl rfl ?_ | refine Z8v rfl (st_q rfl rfl rfl ?_)))
                  by_cases q3 : 0 ≤ s
                  · (rw [decide_eq_true (p := 0 ≤ s) (by omega)])
                    (repeat (first | refine st_q rfl rfl rfl ?_ | refine Z8v rfl (st_q rfl rfl rfl ?_) | (refine Z8y ?_; (repeat (first | refine Z9v rfl ?_ | refine Z9w ?_)); refine Z9u ?_)))
                    refine Z8d ?_
                    exact Kar rfl ⟨by simp [Z8m, g1, g2, g3, q1, q2, q3], rfl⟩
                  · (rw [decide_eq_false (p := 0 ≤ s) (by omega)])
                    (repeat (first | refine st_q rfl rfl rfl ?_ | refine Z8w rfl ?_ | (refine Z8y ?_; (repeat (first | refine Z9v rfl ?_ | refine Z9w ?_)); refine Z9u ?_)))
                    refine Z8d ?_
                    exact Kar rfl ⟨by simp [Z8m, g1, g2, g3, q1, q2, q3], rfl⟩
                · (rw [decide_eq_false (p := p ≤ 18) (by omega)])
                  (repeat (first | refine st_q rfl rfl rfl ?_ | refine Z8w rfl ?_ | (refine Z8y ?_; (repeat (first | refine Z9v rfl ?_ | refine Z9w ?_)); refine Z9u ?_)))
                  refine Z8d ?_
                  exact Kar rfl ⟨by simp [Z8m, g1, g2, g3, q1, q2], rfl⟩
              · (rw [decide_eq_false (p := 1 ≤ p) (by omega)])
                (repeat (first | refine st_q rfl rfl rfl ?_ | refine Z8w rfl ?_ | (refine Z8y ?_; (repeat (first | refine Z9v rfl ?_ | refine Z9w ?_)); refine Z9u ?_)))
                refine Z8d ?_
                exact Kar rfl ⟨by simp [Z8m, g1, g2, g3, q1], rfl⟩
            | false =>
              (repeat (first | refine st_q rfl rfl rfl ?_ | refine Z8v rfl (st_q rfl rfl rfl ?_) | (refine Z8y ?_; (repeat (first | refine Z9v rfl ?_ | refine Z9w ?_)); refine Z9u ?_) | refine awp_seq ?_ | refine Zbm (fun _ _ => rfl) ?_ | refine Zbn (fun _ _ => rfl) ?_ | refine Kc2 rfl ?_))
              by_cases q1 : p = 0
              · (rw [decide_eq_true (p := p = 0) (by omega)])
                (repeat (first | refine st_q rfl rfl rfl ?_ | refine Z8v rfl (st_q rfl rfl rfl ?_) | (refine Z8y ?_; (repeat (first | refine Z9v rfl ?_ | refine Z9w ?_)); refine Z9u ?_)))
                refine Z8d ?_
                exact Kar rfl ⟨by simp [Z8m, g1, g2, g3, q1], rfl⟩
              · (rw [decide_eq_false (p := p = 0) (by omega)])
                (repeat (first | refine st_q rfl rfl rfl ?_ | refine Z8w rfl ?_ | (refine Z8y ?_; (repeat (first | refine Z9v rfl ?_ | refine Z9w ?_)); refine Z9u ?_)))
                refine Z8d ?_
                exact Kar rfl ⟨by simp [Z8m, g1, g2, g3, q1], rfl⟩
        · (rw [decide_eq_true (p := l ≠ sz) (by omega)])
          (repeat (first | refine st_q rfl rfl rfl ?_ | refine Z8w rfl ?_ | (refine Z8y ?_; (repeat (first | refine Z9v rfl ?_ | refine Z9w ?_)); refine Z9u ?_) | refine awp_seq ?_ | refine Zbm (fun _ _ => rfl) ?_ | refine Kc1 rfl ?_))
          refine Z8d ?_
          exact Kar rfl ⟨by simp [Z8m, g3], rfl⟩
      · (rw [decide_eq_true (p := ((ns.length : Nat) : Int) ≠ (nm : Int)) (by omega)])
        (repeat (first | refine st_q rfl rfl rfl ?_ | refine Z8w rfl ?_ | (refine Z8y ?_; (repeat (first | refine Z9v rfl ?_ | refine Z9w ?_)); refine Z9u ?_) | refine awp_seq ?_ | refine Zbm (fun _ _ => rfl) ?_ | refine Kc1 rfl ?_))
        refine Z8d ?_
        exact Kar rfl ⟨by simp [Z8m, g2], rfl⟩
    · (rw [decide_eq_true (p := ((ks.length : Nat) : Int) ≠ (kn : Int)) (by omega)])
      (repeat (first | refine st_q rfl rfl rfl ?_ | refine Z8w rfl ?_ | (refine Z8y ?_; (repeat (first | refine Z9v rfl ?_ | refine Z9w ?_)); refine Z9u ?_) | refine awp_seq ?_ | refine Zbm (fun _ _ => rfl) ?_ | refine Kc1 rfl ?_))
      refine Z8d ?_
      exact Kar rfl ⟨by simp [Z8m, g1], rfl⟩
  have nil0 : (decide (ns.length = 0) : Bool) = ns.isEmpty := by cases ns <;> simp
  refine Z9z ?_
  (repeat (refine st_q rfl rfl rfl ?_))
  (refine Z8y ?_; (repeat (first | refine Z9v rfl ?_ | refine Z9w ?_)); refine Z9u ?_)
  have key : ∀ rest : Z2b, (∀ (kn nm : Nat) (sz : Int) (ex : Bool), Zlw k ns ks.length l p s = (decide (ks.length = kn) && decide (ns.length = nm) && decide (l = sz) && Zlu ns && (if ex then decide (1 ≤ p ∧ p ≤ 18 ∧ 0 ≤ s ∧ s ≤ p) else decide (p = 0 ∧ s = 0))) →
      AWp Try.prog Zl6.n rest (ARet Zl6.res fun r σ' => r = .bool (Zlw k ns ks.length l p s) ∧ σ' = σ)
        (fset 1 (some (.iptr [.int .i64 k, .slc 1 (ns.map .str) false, .slc 6 (Zln ks) false, .int .i64 l, .int .i64 p, .int .i64 s])) (fset 3 (some (.int .i64 (kn : Int))) (fset 4 (some (.int .i64 (nm : Int))) (fset 5 (some (.int .i64 sz)) (fset 6 (some (.bool ex)) Z27))))) σ) →
      AWp Try.prog Zl6.n (.seq (Zl6.code.snd 2).fst rest) (ARet Zl6.res fun r σ' => r = .bool (Zlw k ns ks.length l p s) ∧ σ' = σ)
        (fset 1 (some (.iptr [.int .i64 k, .slc 1 (ns.map .str) false, .slc 6 (Zln ks) false, .int .i64 l, .int .i64 p, .int .i64 s])) (fset 3 (some (.int .i64 0)) (fset 4 (some (.int .i64 0)) (fset 5 (some (.int .i64 0)) (fset 6 (some (.bool false)) Z27))))) σ := by
    intro rest main
    by_cases h11 : k = 11
    · subst h11
      (repeat (first | refine st_q rfl rfl rfl ?_ | (refine Z8y ?_; (repeat (first | refine Z9v rfl ?_ | refine Z9w ?_)); refine Z9u ?_) | refine awp_seq ?_ | refine Zbm (fun _ _ => rfl) ?_ | refine Z8h ?_ | refine Zbo (fun _ _ => rfl) ?_ | refine Kc1 rfl ?_))
      exact main 2 0 0 false (by simp [Zlw, Zlv, ← nil0]; grind)
    by_cases h10 : k = 10
    · subst h10
      (repeat (first | refine st_q rfl rfl rfl ?_ | (refine Z8y ?_; (repeat (first | refine Z9v rfl ?_ | refine Z9w ?_)); refine Z9u ?_) | refine awp_seq ?_ | refine Zbm (fun _ _ => rfl) ?_ | refine Z8h ?_ | refine Zbn (fun _ _ => rfl) ?_ | refine Zbo (fun _ _ => rfl) ?_ | refine Kc1 rfl ?_ | refine Kc2 rfl ?_))
      exact main 1 0 0 false (by simp [Zlw, Zlv, ← nil0]; grind)
    by_cases h12 : k = 12
    · subst h12
      (repeat (first | refine st_q rfl rfl rfl ?_ | (refine Z8y ?_; (repeat (first | refine Z9v rfl ?_ | refine Z9w ?_)); refine Z9u ?_) | refine awp_seq ?_ | refine Zbm (fun _ _ => rfl) ?_ | refine Z8h ?_ | refine Zbn (fun _ _ => rfl) ?_ | refine Zbo (fun _ _ => rfl) ?_ | refine Kc1 rfl ?_ | refine Kc2 rfl ?_))
      rw [List.length_map]
      exact main ns.length ns.length 0 false (by simp [Zlw, Zlv]; grind)
    by_cases h13 : k = 13
    · subst h13
      (repeat (first | refine st_q rfl rfl rfl ?_ | (refine Z8y ?_; (repeat (first | refine Z9v rfl ?_ | refine Z9w ?_)); refine Z9u ?_) | refine awp_seq ?_ | refine Zbm (fun _ _ => rfl) ?_ | refine Z8h ?_ | refine Zbn (fun _ _ => rfl) ?_ | refine Zbo (fun _ _ => rfl) ?_ | refine Kc1 rfl ?_ | refine Kc2 rfl ?_))
      rw [Zlr]
      by_cases g1 : ks.length < 1
      · (rw [decide_eq_true (p := ((ks.length : Nat) : Int) < 1) (by omega)])
        (repeat (first | refine st_q rfl rfl rfl ?_ | refine Z8w rfl ?_ | (refine Z8y ?_; (repeat (first | refine Z9v rfl ?_ | refine Z9w ?_)); refine Z9u ?_) | refine awp_seq ?_ | refine Zbm (fun _ _ => rfl) ?_ | refine Kc1 rfl ?_))
        refine Z8d ?_
        exact Kar rfl ⟨by simp [Z8m, Zlw, Zlv]; omega, rfl⟩
      · (rw [decide_eq_false (p := ((ks.length : Nat) : Int) < 1) (by omega)])
        (repeat (first | refine st_q rfl rfl rfl ?_ | refine Z8v rfl (st_q rfl rfl rfl ?_) | (refine Z8y ?_; (repeat (first | refine Z9v rfl ?_ | refine Z9w ?_)); refine Z9u ?_)))
        by_cases g2 : 255 < ks.length
        · (rw [decide_eq_true (p := (255 : Int) < ((ks.length : Nat) : Int)) (by omega)])
          (repeat (first | refine st_q rfl rfl rfl ?_ | (refine Z8y ?_; (repeat (first | refine Z9v rfl ?_ | refine Z9w ?_)); refine Z9u ?_) | refine awp_seq ?_ | refine Zbm (fun _ _ => rfl) ?_ | refine Kc1 rfl ?_))
          refine Z8d ?_
          exact Kar rfl ⟨by simp [Z8m, Zlw, Zlv]; omega, rfl⟩
        · (rw [decide_eq_false (p := (255 : Int) < ((ks.length : Nat) : Int)) (by omega)])
          (repeat (first | refine Zbn (fun _ _ => rfl) ?_ | refine Zbo (fun _ _ => rfl) ?_ | refine Kc2 rfl ?_))
          (refine Z9y (keep := [1, 3, 4, 5, 6]) ?_; ((repeat (first | refine Z9v rfl ?_ | refine Z9w ?_)); refine Z9u ?_))
          exact main ks.length 0 0 false (by simp [Zlw, Zlv, ← nil0]; grind)
    by_cases h16 : k = 16
    · subst h16
      (repeat (first | refine st_q rfl rfl rfl ?_ | (refine Z8y ?_; (repeat (first | refine Z9v rfl ?_ | refine Z9w ?_)); refine Z9u ?_) | refine awp_seq ?_ | refine Zbm (fun _ _ => rfl) ?_ | refine Z8h ?_ | refine Zbn (fun _ _ => rfl) ?_ | refine Zbo (fun _ _ => rfl) ?_ | refine Kc1 rfl ?_ | refine Kc2 rfl ?_))
      by_cases g1 : l < 1
      · (rw [decide_eq_true (p := l < 1) (by omega)])
        (repeat (first | refine st_q rfl rfl rfl ?_ | refine Z8w rfl ?_ | (refine Z8y ?_; (repeat (first | refine Z9v rfl ?_ | refine Z9w ?_)); refine Z9u ?_) | refine awp_seq ?_ | refine Zbm (fun _ _ => rfl) ?_ | refine Kc1 rfl ?_))
        refine Z8d ?_
        exact Kar rfl ⟨by simp [Z8m, Zlw, Zlv]; omega, rfl⟩
      · (rw [decide_eq_false (p := l < 1) (by omega)])
        (repeat (first | refine st_q rfl rfl rfl ?_ | refine Z8v rfl (st_q rfl rfl rfl ?_) | (refine Z8y ?_; (repeat (first | refine Z9v rfl ?_ | refine Z9w ?_)); refine Z9u ?_)))
        by_cases g2 : 4096 < l
        · (rw [decide_eq_true (p := 4096 < l) (by omega)])
          (repeat (first | refine st_q rfl rfl rfl ?_ | (refine Z8y ?_; (repeat (first | refine Z9v rfl ?_ | refine Z9w ?_)); refine Z9u ?_) | refine awp_seq ?_ | refine Zbm (fun _ _ => rfl) ?_ | refine Kc1 rfl ?_))
          refine Z8d ?_
          exact Kar rfl ⟨by simp [Z8m, Zlw, Zlv]; omega, rfl⟩
        · (rw [decide_eq_false (p := 4096 < l) (by omega)])
          (repeat (first | refine Zbn (fun _ _ => rfl) ?_ | refine Zbo (fun _ _ => rfl) ?_ | refine Kc2 rfl ?_))
          (refine Z9y (keep := [1, 3, 4, 5, 6]) ?_; ((repeat (first | refine Z9v rfl ?_ | refine Z9w ?_)); refine Z9u ?_))
          exact main 0 0 l false (by simp [Zlw, Zlv, ← nil0]; grind)
    by_cases h17 : k = 17
    · subst h17
      (repeat (first | refine st_q rfl rfl rfl ?_ | (refine Z8y ?_; (repeat (first | refine Z9v rfl ?_ | refine Z9w ?_)); refine Z9u ?_) | refine awp_seq ?_ | refine Zbm (fun _ _ => rfl) ?_ | refine Z8h ?_ | refine Zbn (fun _ _ => rfl) ?_ | refine Zbo (fun _ _ => rfl) ?_ | refine Kc1 rfl ?_ | refine Kc2 rfl ?_))
      by_cases g1 : l < 1
      · (rw [decide_eq_true (p := l < 1) (by omega)])
        (repeat (first | refine st_q rfl rfl rfl ?_ | refine Z8w rfl ?_ | (refine Z8y ?_; (repeat (first | refine Z9v rfl ?_ | refine Z9w ?_)); refine Z9u ?_) | refine awp_seq ?_ | refine Zbm (fun _ _ => rfl) ?_ | refine Kc1 rfl ?_))
        refine Z8d ?_
        exact Kar rfl ⟨by simp [Z8m, Zlw, Zlv]; omega, rfl⟩
      · (rw [decide_eq_false (p := l < 1) (by omega)])
        (repeat (first | refine st_q rfl rfl rfl ?_ | refine Z8v rfl (st_q rfl rfl rfl ?_) | (refine Z8y ?_; (repeat (first | refine Z9v rfl ?_ | refine Z9w ?_)); refine Z9u ?_)))
        by_cases g2 : 4096 < l
        · (rw [decide_eq_true (p := 4096 < l) (by omega)])
          (repeat (first | refine st_q rfl rfl rfl ?_ | (refine Z8y ?_; (repeat (first | refine Z9v rfl ?_ | refine Z9w ?_)); refine Z9u ?_) | refine awp_seq ?_ | refine Zbm (fun _ _ => rfl) ?_ | refine Kc1 rfl ?_))
          refine Z8d ?_
          exact Kar rfl ⟨by simp [Z8m, Zlw, Zlv]; omega, rfl⟩
        · (rw [decide_eq_false (p := 4096 < l) (by omega)])
          (repeat (first | refine Zbn (fun _ _ => rfl) ?_ | refine Zbo (fun _ _ => rfl) ?_ | refine Kc2 rfl ?_))
          (refine Z9y (keep := [1, 3, 4, 5, 6]) ?_; ((repeat (first | refine Z9v rfl ?_ | refine Z9w ?_)); refine Z9u ?_))
          exact main 0 0 l false (by simp [Zlw, Zlv, ← nil0]; grind)
    by_cases h14 : k = 14
    · subst h14
      (repeat (first | refine st_q rfl rfl rfl ?_ | (refine Z8y ?_; (repeat (first | refine Z9v rfl ?_ | refine Z9w ?_)); refine Z9u ?_) | refine awp_seq ?_ | refine Zbm (fun _ _ => rfl) ?_ | refine Z8h ?_ | refine Zbn (fun _ _ => rfl) ?_ | refine Zbo (fun _ _ => rfl) ?_ | refine Kc1 rfl ?_ | refine Kc2 rfl ?_))
      (refine Z9y (keep := [1, 3, 4, 5, 6]) ?_; ((repeat (first | refine Z9v rfl ?_ | refine Z9w ?_)); refine Z9u ?_))
      exact main 0 0 0 true (by simp [Zlw, Zlv, ← nil0]; grind)
    (repeat (first | refine st_q rfl rfl rfl ?_ | (refine Z8y ?_; (repeat (first | refine Z9v rfl ?_ | refine Z9w ?_)); refine Z9u ?_) | refine awp_seq ?_ | refine Zbm (fun _ _ => rfl) ?_ | refine Z8h ?_))
    (rw [decide_eq_false (p := k = 11) (by omega)])
    (repeat (first | refine st_q rfl rfl rfl ?_ | (refine Z8y ?_; (repeat (first | refine Z9v rfl ?_ | refine Z9w ?_)); refine Z9u ?_) | refine awp_seq ?_ | refine Zbm (fun _ _ => rfl) ?_ | refine Zbn (fun _ _ => rfl) ?_ | refine Kc2 rfl ?_))
    (rw [decide_eq_false (p := k = 10) (by omega)])
    (repeat (first | refine st_q rfl rfl rfl ?_ | (refine Z8y ?_; (repeat (first | refine Z9v rfl ?_ | refine Z9w ?_)); refine Z9u ?_) | refine awp_seq ?_ | refine Zbm (fun _ _ => rfl) ?_ | refine Zbn (fun _ _ => rfl) ?_ | refine Kc2 rfl ?_))
    (rw [decide_eq_false (p := k = 12) (by omega)])
    (repeat (first | refine st_q rfl rfl rfl ?_ | (refine Z8y ?_; (repeat (first | refine Z9v rfl ?_ | refine Z9w ?_)); refine Z9u ?_) | refine awp_seq ?_ | refine Zbm (fun _ _ => rfl) ?_ | refine Zbn (fun _ _ => rfl) ?_ | refine Kc2 rfl ?_))
    (rw [decide_eq_false (p := k = 13) (by omega)])
    (repeat (first | refine st_q rfl rfl rfl ?_ | (refine Z8y ?_; (repeat (first | refine Z9v rfl ?_ | refine Z9w ?_)); refine Z9u ?_) | refine awp_seq ?_ | refine Zbm (fun _ _ => rfl) ?_ | refine Zbn (fun _ _ => rfl) ?_ | refine Kc2 rfl ?_))
    (rw [decide_eq_false (p := k = 16) (by omega)])
    (repeat (first | refine st_q rfl rfl rfl ?_ | (refine Z8y ?_; (repeat (first | refine Z9v rfl ?_ | refine Z9w ?_)); refine Z9u ?_) | refine Zbm (fun _ _ => rfl) ?_ | refine Kc2 rfl ?_))
    (rw [decide_eq_false (p := k = 17) (by omega)])
    (repeat (first | refine st_q rfl rfl rfl ?_ | (refine Z8y ?_; (repeat (first | refine Z9v rfl ?_ | refine Z9w ?_)); refine Z9u ?_) | refine awp_seq ?_ | refine Zbm (fun _ _ => rfl) ?_ | refine Zbn (fun _ _ => rfl) ?_ | refine Kc2 rfl ?_))
    (rw [decide_eq_false (p := k = 14) (by omega)])
    (repeat (first | refine Zbn (fun _ _ => rfl) ?_ | refine Zbo (fun _ _ => rfl) ?_ | refine Kc2 rfl ?_))
    (refine Z9y (keep := [1, 3, 4, 5, 6]) ?_; ((repeat (first | refine Z9v rfl ?_ | refine Z9w ?_)); refine Z9u ?_))
    exact main 0 0 0 false (by simp [Zlw, Zlv, ← nil0, h11, h10, h12, h13, h16, h17, h14]; grind)
  exact key _ main
end Go.Abs
namespace Go.Abs
open Go Go.Proofs
set_option linter.unusedVariables false
set_option linter.unusedSimpArgs false
set_option maxHeartbeats 4000000
attribute [local irreducible] AWp aops KP
inductive Ty.Fit : Ty → Prop
  | mk {t : Ty} (h1 : t.kids.length ≤ 140737488355328) (h2 : t.names.length ≤ 140737488355328) (h4 : ∀ s ∈ t.names, s.length ≤ maxLen) (h : ∀ k ∈ t.kids, Ty.Fit k) : Ty.Fit t
theorem Zmy : ∀ (t : Ty) (deep n : Nat), n ≤ 100 → (chk deep n t).1 ≤ 100 := by
  refine Ty.ind fun k ns ks l p s ih deep n hn => ?_
  have hL : ∀ (ks : List Ty), (∀ t ∈ ks, ∀ (deep n : Nat), n ≤ 100 → (chk deep n t).1 ≤ 100) → ∀ deep n, n ≤ 100 → (chkL deep n ks).1 ≤ 100 := by
    intro ks
    induction ks with
    | nil => intro _ deep n hn; simpa [chkL] using hn
    | cons t ts ih2 =>
      intro h deep n hn
      rw [chkL]
      split
      · exact h t (by simp) deep n hn
      · exact ih2 (fun t ht => h t (by simp [ht])) deep _ (h t (by simp) deep n hn)
  rw [chk]
  split
  · exact hn
  · split
    · exact hn
    · exact hL ks ih (deep + 1) (n + 1) (by omega)
theorem Zmz : ∀ (t : Ty) (deep n : Nat), (chk deep n t).2 ≤ 5 := by
  refine Ty.ind fun k ns ks l p s ih deep n => ?_
  have hL : ∀ (ks : List Ty), (∀ t ∈ ks, ∀ (deep n : Nat), (chk deep n t).2 ≤ 5) → ∀ deep n, (chkL deep n ks).2 ≤ 5 := by
    intro ks
    induction ks with
    | nil => intro _ deep n; simp [chkL]
    | cons t ts ih2 =>
      intro h deep n
      rw [chkL]
      split
      · exact h t (by simp) deep n
      · exact ih2 (fun t ht => h t (by simp [ht])) deep _
  rw [chk]
  split
  · simp
  · split
    · simp only [ownF]; split <;> (try split) <;> simp
    · exact hL ks ih (deep + 1) (n + 1)
theorem Zn0 : ∀ (t : Ty), t.Fit → ∀ (deep n b : Nat), deep ≤ 17 → n ≤ 100 → ∀ σ, Z1q Try.prog Zf9 [encT t, .int .i64 (deep : Int), .ptr b 0 0] ((b, .cells 1 [.int .i64 (n : Int)]) :: σ) fun r σ' => r = .int .i64 ((chk deep n t).2 : Int) ∧ σ' = (b, .cells 1 [.int .i64 ((chk deep n t).1 : Int)]) :: σ := by
  refine Ty.ind fun k ns ks l p s ih hfit deep n b hd hn σ => ?_
  cases hfit with
  | mk hk1 hn1 hn4 hkids =>
  have hright := Zmx (.mk k ns ks l p s) hk1 hn1 hn4
  simp only [encT, Ty.kind, Ty.names, Ty.kids, Ty.len, Ty.prec, Ty.scale] at *
  refine Z8t rfl Zlf (Nat.le_of_ble_eq_true rfl) ?_
  refine Z9z ?_
  refine Z9j rfl (Kfi rfl) fun pb hpb => ?_
  (repeat (refine st_q rfl rfl rfl ?_))
  (refine Z8y ?_; (repeat (first | refine Z9v rfl ?_ | refine Z9w ?_)); refine Z9u ?_)
  refine Zb3 (d := 3) (cs := [.int .i64 k, .slc 1 (ns.map .str) false, .slc 6 (Zln ks) false, .int .i64 l, .int .i64 p, .int .i64 s]) rfl ?_
  (repeat (first | refine st_q rfl rfl rfl ?_ | refine awp_seq ?_ | refine Zbm (fun _ _ => rfl) ?_ | refine Z8h ?_))
  by_cases g1 : 16 < deep
  · (rw [decide_eq_true (p := (16 : Int) < (deep : Int)) (by omega)])
    (repeat (first | refine st_q rfl rfl rfl ?_ | refine Z8w rfl ?_ | (refine Z8y ?_; (repeat (first | refine Z9v rfl ?_ | refine Z9w ?_)); refine Z9u ?_) | refine awp_seq ?_ | refine Zbm (fun _ _ => rfl) ?_ | refine Kc1 rfl ?_))
    refine Z8d ?_
    exact Kar rfl ⟨by rw [chk, if_pos (.inl g1)]; rfl, by rw [chk, if_pos (.inl g1)]⟩
  (rw [decide_eq_false (p := (16 : Int) < (deep : Int)) (by omega)])
  (repeat refine Z8v rfl (st_q rfl rfl rfl ?_))
  refine Z8v rfl (Z92 rfl Z8z rfl rfl ?_)
  (repeat (first | refine st_q rfl rfl rfl ?_ | refine Z8v rfl (st_q rfl rfl rfl ?_) | (refine Z8y ?_; (repeat (first | refine Z9v rfl ?_ | refine Z9w ?_)); refine Z9u ?_)))
  by_cases g2 : 100 ≤ n
  · (rw [decide_eq_true (p := (100 : Int) ≤ (n : Int)) (by omega)])
    (repeat (first | refine st_q rfl rfl rfl ?_ | (refine Z8y ?_; (repeat (first | refine Z9v rfl ?_ | refine Z9w ?_)); refine Z9u ?_) | refine awp_seq ?_ | refine Zbm (fun _ _ => rfl) ?_ | refine Kc1 rfl ?_))
    refine Z8d ?_
    exact Kar rfl ⟨by rw [chk, if_pos (.inr g2)]; rfl, by rw [chk, if_pos (.inr g2)]⟩
  (rw [decide_eq_false (p := (100 : Int) ≤ (n : Int)) (by omega)])
  (repeat (first | refine st_q rfl rfl rfl ?_ | refine awp_seq ?_ | refine Zbm (fun _ _ => rfl) ?_ | refine Kc2 rfl ?_))
  have hc0 : ¬ (16 < deep ∨ 100 ≤ n) := by omega
  by_cases g3 : k = 5
  · (rw [decide_eq_true (p := k = 5) (by omega)])
    (repeat (first | refine st_q rfl rfl rfl ?_ | refine Z8w rfl ?_ | (refine Z8y ?_; (repeat (first | refine Z9v rfl ?_ | refine Z9w ?_)); refine Z9u ?_) | refine awp_seq ?_ | refine Zbm (fun _ _ => rfl) ?_ | refine Kc1 rfl ?_))
    have hc1 : ownF k ns ks.length l p s = 5 := by simp [ownF, g3]
    refine Z8d ?_
    exact Kar rfl ⟨by rw [chk, if_neg hc0, hc1, if_pos (by decide)]; rfl, by rw [chk, if_neg hc0, hc1, if_pos (by decide)]⟩
  (rw [decide_eq_false (p := k = 5) (by omega)])
  (repeat (first | refine st_q rfl rfl rfl ?_ | refine Z8v rfl (st_q rfl rfl rfl ?_) | (refine Z8y ?_; (repeat (first | refine Z9v rfl ?_ | refine Z9w ?_)); refine Z9u ?_)))
  by_cases g4 : k = 6
  · (rw [decide_eq_true (p := k = 6) (by omega)])
    (repeat (first | refine st_q rfl rfl rfl ?_ | (refine Z8y ?_; (repeat (first | refine Z9v rfl ?_ | refine Z9w ?_)); refine Z9u ?_) | refine awp_seq ?_ | refine Zbm (fun _ _ => rfl) ?_ | refine Kc1 rfl ?_))
    have hc1 : ownF k ns ks.length l p s = 5 := by simp [ownF, g4]
    refine Z8d ?_
    exact Kar rfl ⟨by rw [chk, if_neg hc0, hc1, if_pos (by decide)]; rfl, by rw [chk, if_neg hc0, hc1, if_pos (by decide)]⟩
  (rw [decide_eq_false (p := k = 6) (by omega)])
  (repeat (first | refine st_q rfl rfl rfl ?_ | refine awp_seq ?_ | refine Zbm (fun _ _ => rfl) ?_ | refine Kc2 rfl ?_))
  by_cases g5 : k < 0
  · (rw [decide_eq_true (p := k < 0) (by omega)])
    (repeat (first | refine st_q rfl rfl rfl ?_ | refine Z8w rfl ?_ | (refine Z8y ?_; (repeat (first | refine Z9v rfl ?_ | refine Z9w ?_)); refine Z9u ?_) | refine awp_seq ?_ | refine Zbm (fun _ _ => rfl) ?_ | refine Kc1 rfl ?_))
    have hc1 : ownF k ns ks.length l p s = 1 := by simp [ownF, g3, g4, g5]
    refine Z8d ?_
    exact Kar rfl ⟨by rw [chk, if_neg hc0, hc1, if_pos (by decide)]; rfl, by rw [chk, if_neg hc0, hc1, if_pos (by decide)]⟩
  (rw [decide_eq_false (p := k < 0) (by omega)])
  (repeat (first | refine st_q rfl rfl rfl ?_ | refine Z8v rfl (st_q rfl rfl rfl ?_)))
  by_cases g6 : 17 < k
  · (rw [decide_eq_true (p := 17 < k) (by omega)])
    (repeat (first | refine st_q rfl rfl rfl ?_ | refine Z8w rfl ?_ | (refine Z8y ?_; (repeat (first | refine Z9v rfl ?_ | refine Z9w ?_)); refine Z9u ?_) | refine awp_seq ?_ | refine Zbm (fun _ _ => rfl) ?_ | refine Kc1 rfl ?_))
    have hc1 : ownF k ns ks.length l p s = 1 := by simp [ownF, g3, g4, g6]
    refine Z8d ?_
    exact Kar rfl ⟨by rw [chk, if_neg hc0, hc1, if_pos (by decide)]; rfl, by rw [chk, if_neg hc0, hc1, if_pos (by decide)]⟩
  (rw [decide_eq_false (p := 17 < k) (by omega)])
  (repeat refine Z8v rfl (st_q rfl rfl rfl ?_))
  refine Z8v rfl (Z9t rfl (hright _) ?_)
  cases hR : Zlw k ns ks.length l p s with
  | false =>
    (repeat (first | refine st_q rfl rfl rfl ?_ | refine Z8v rfl (st_q rfl rfl rfl ?_) | (refine Z8y ?_; (repeat (first | refine Z9v rfl ?_ | refine Z9w ?_)); refine Z9u ?_) | refine awp_seq ?_ | refine Zbm (fun _ _ => rfl) ?_ | refine Kc1 rfl ?_))
    have hc1 : ownF k ns ks.length l p s = 1 := by simp [ownF, g3, g4, hR]
    refine Z8d ?_
    exact Kar rfl ⟨by rw [chk, if_neg hc0, hc1, if_pos (by decide)]; rfl, by rw [chk, if_neg hc0, hc1, if_pos (by decide)]⟩
  | true =>
    have hc1 : ownF k ns ks.length l p s = 0 := by simp [ownF, g3, g4, hR]; omega
    have hchk : chk deep n (.mk k ns ks l p s) = chkL (deep + 1) (n + 1) ks := by rw [chk, if_neg hc0, hc1]; simp
    rw [hchk]
    (repeat (first | refine st_q rfl rfl rfl ?_ | refine Z8v rfl (st_q rfl rfl rfl ?_) | (refine Z8y ?_; (repeat (first | refine Z9v rfl ?_ | refine Z9w ?_)); refine Z9u ?_) | refine awp_seq ?_ | refine Zbm (fun _ _ => rfl) ?_ | refine Zbn (fun _ _ => rfl) ?_ | refine Kc2 rfl ?_))
    refine Z92 rfl Z8z rfl rfl ?_
    (repeat refine st_q rfl rfl rfl ?_)
    refine Z9a rfl Z8z rfl (by decide) (Kfi rfl) (fun _ => ⟨rfl, rfl⟩) Z9b ?_
    rw [Kwr n (by omega)]
    (repeat (first | refine st_q rfl rfl rfl ?_ | (refine Z8y ?_; (repeat (first | refine Z9v rfl ?_ | refine Z9w ?_)); refine Z9u ?_) | refine awp_seq ?_ | refine Zbm (fun _ _ => rfl) ?_ | refine Z8h ?_))
    refine Zaa (fun m F σ' => ∃ (i n' : Nat), F = fset 1 (some (.int .i64 (deep : Int))) (fset 2 (some (.ptr b 0 0)) (fset 48 (some (.slc 6 (Zln ks) false)) (fset 49 (some (.int .i64 (ks.length : Int))) (fset 50 (some (.int .i64 (i : Int))) Z27)))) ∧
      σ' = (b, .cells 1 [.int .i64 (n' : Int)]) :: σ ∧ i ≤ ks.length ∧ n' ≤ 100 ∧ chkL (deep + 1) (n + 1) ks = chkL (deep + 1) n' (ks.drop i) ∧ m = ks.length - i) (n := ks.length)
      ⟨0, n + 1, by rw [Zlr]; rfl, rfl, by omega, by omega, rfl, rfl⟩ ?_
    rintro m F σ' ⟨i, n', rfl, rfl, hi, hn', hch, rfl⟩
    (repeat (first | refine st_q rfl rfl rfl ?_ | (refine Z8y ?_; (repeat (first | refine Z9v rfl ?_ | refine Z9w ?_)); refine Z9u ?_) | refine awp_seq ?_ | refine Zbm (fun _ _ => rfl) ?_))
    refine Za3 (p := (i : Int) < (ks.length : Int)) rfl (fun h3 => ?_) (fun h3 => ?_)
    · have hil : i < ks.length := by omega
      have hx : (Zln ks)[(i : Int).toNat]? = some (encT ks[i]) := Zls (by rw [Int.toNat_natCast, List.getElem?_eq_getElem hil])
      have hdrop : ks.drop i = ks[i] :: ks.drop (i + 1) := List.drop_eq_getElem_cons hil
      (repeat (first | refine awp_seq ?_ | refine Zbm (fun _ _ => rfl) ?_ | refine Z8h ?_ | refine Zbn (fun _ _ => rfl) ?_))
      refine Z93 rfl (by omega) hx ?_
      rw [Zlp]
      (repeat refine st_q rfl rfl rfl ?_)
      refine Z9k (by simp [Z0.cells, Z0.one]) fun vb hvb => ?_
      refine Z9a rfl Z8z rfl (by decide) (Kfi rfl) (fun h => by cases h) Z9b ?_
      (refine Z8y ?_; (repeat (first | refine Z9v rfl ?_ | refine Z9w ?_)); refine Z9u ?_)
      refine Zb3 (d := 8) (cs := Zlo ks[i]) rfl ?_
      (repeat (first | refine st_q rfl rfl rfl ?_ | refine awp_seq ?_ | refine Zbm (fun _ _ => rfl) ?_))
      rw [Kwr deep (by omega)]
      skip
      have hcw := ih ks[i] (List.getElem_mem hil) (hkids _ (List.getElem_mem hil)) (deep + 1) n' b (by omega) hn' σ
      rw [Zlp] at hcw
      refine Z9t rfl hcw ?_
      (repeat (first | refine st_q rfl rfl rfl ?_ | (refine Z8y ?_; (repeat (first | refine Z9v rfl ?_ | refine Z9w ?_)); refine Z9u ?_) | refine awp_seq ?_ | refine Zbm (fun _ _ => rfl) ?_))
      have he := Zmz ks[i] (deep + 1) n'
      have hle := Zmy ks[i] (deep + 1) n' hn'
      rw [hdrop, chkL] at hch
      by_cases g7 : (chk (deep + 1) n' ks[i]).2 = 0
      · rw [if_neg (by omega)] at hch
        (rw [show decide ((((chk (deep + 1) n' ks[i]).2 : Nat) : Int) ≠ 0) = false from decide_eq_false (by omega)])
        (repeat (first | refine Zbn (fun _ _ => rfl) ?_ | refine Kc2 rfl ?_))
        refine Zbp ?_
        (repeat (refine st_q rfl rfl rfl ?_))
        rw [Kwr i (by omega)]
        (refine Z8y ?_; (repeat (first | refine Z9v rfl ?_ | refine Z9w ?_)); refine Z9u ?_)
        exact ⟨_, ks.length - (i + 1), HSub.refl _, ⟨i + 1, _, rfl, rfl, by omega, hle, hch, rfl⟩, by omega⟩
      · rw [if_pos g7] at hch
        (rw [show decide ((((chk (deep + 1) n' ks[i]).2 : Nat) : Int) ≠ 0) = true from decide_eq_true (by omega)])
        (repeat (first | refine st_q rfl rfl rfl ?_ | (refine Z8y ?_; (repeat (first | refine Z9v rfl ?_ | refine Z9w ?_)); refine Z9u ?_) | refine awp_seq ?_ | refine Zbm (fun _ _ => rfl) ?_ | refine Kc1 rfl ?_))
        refine Z8d ?_
        exact Kar rfl ⟨by rw [hch]; rfl, by rw [hch]⟩
    · (repeat (first | refine st_q rfl rfl rfl ?_ | (refine Z8y ?_; (repeat (first | refine Z9v rfl ?_ | refine Z9w ?_)); refine Z9u ?_) | refine awp_seq ?_ | refine Zbm (fun _ _ => rfl) ?_ | refine Zbo (fun _ _ => rfl) ?_))
      have hd0 : ks.drop i = [] := List.drop_of_length_le (by omega)
      rw [hd0, chkL] at hch
      refine Z8d ?_
      exact Kar rfl ⟨by rw [hch]; rfl, by rw [hch]⟩
theorem Zn1 (t : Ty) (h : t.Fit) (σ : Zc) : Z1q Try.prog Ze2 [encT t] σ fun r σ' => r = .int .i64 (Zlx t : Int) ∧ σ' = σ := by
  have hw := fun b => Zn0 t h 1 0 b (by omega) (by omega) σ
  rw [Zlp] at *
  refine Z8t rfl Zlb (Nat.le_of_ble_eq_true rfl) ?_
  refine Z9z ?_
  refine Z9j rfl (Kfi rfl) fun pb hpb => ?_
  (repeat (refine st_q rfl rfl rfl ?_))
  (refine Z8y ?_; (repeat (first | refine Z9v rfl ?_ | refine Z9w ?_)); refine Z9u ?_)
  refine Zb3 (d := 1) (cs := Zlo t) rfl ?_
  (repeat (first | refine awp_seq ?_ | refine Zbm (fun _ _ => rfl) ?_))
  refine Z9k (by simp [Z0.cells, Z0.one]) fun vb hvb => ?_
  refine Z9a rfl Z8z rfl (by decide) (Kfi rfl) (fun h => ⟨rfl, rfl⟩) Z9b ?_
  (repeat (first | refine st_q rfl rfl rfl ?_ | (refine Z8y ?_; (repeat (first | refine Z9v rfl ?_ | refine Z9w ?_)); refine Z9u ?_) | refine awp_seq ?_ | refine Zbm (fun _ _ => rfl) ?_))
  refine Z9t rfl (hw vb) ?_
  (repeat (first | refine st_q rfl rfl rfl ?_ | (refine Z8y ?_; (repeat (first | refine Z9v rfl ?_ | refine Z9w ?_)); refine Z9u ?_)))
  refine Z8d ?_
  exact ares rfl (HSub.tail _ _) ⟨rfl, rfl⟩
end Go.Abs
namespace Go.Abs
open Go Go.Proofs
set_option linter.unusedVariables false
set_option linter.unusedSimpArgs false
set_option maxHeartbeats 4000000
attribute [local irreducible] AWp aops KP
end Go.Abs
namespace Go.Abs
open Go Go.Proofs
set_option linter.unusedVariables false
set_option linter.unusedSimpArgs false
set_option maxHeartbeats 4000000
attribute [local irreducible] AWp aops KP
end Go.Abs
namespace Go.Abs
open Go Go.Proofs
set_option linter.unusedVariables false
set_option linter.unusedSimpArgs false
set_option maxHeartbeats 4000000
attribute [local irreducible] AWp aops KP
theorem Zn5 (xs : List Z0) (f : Bool) (σ : Zc) : Z1q Try.prog Zfa [.slc 1 xs f] σ fun r σ' => r = .slc 1 xs true ∧ σ' = σ := by
  refine Z8t rfl Zlg (Nat.le_of_ble_eq_true rfl) ?_
  (repeat (first | refine st_q rfl rfl rfl ?_ | (refine Z8y ?_; (repeat (first | refine Z9v rfl ?_ | refine Z9w ?_)); refine Z9u ?_) | refine awp_seq ?_ | refine Zbm (fun _ _ => rfl) ?_))
  refine Z9r rfl (by omega) (by omega) ?_
  rw [Int.toNat_natCast, List.take_length]
  (repeat (first | refine st_q rfl rfl rfl ?_ | (refine Z8y ?_; (repeat (first | refine Z9v rfl ?_ | refine Z9w ?_)); refine Z9u ?_)))
  refine Z8d ?_
  exact Kar rfl ⟨rfl, rfl⟩
theorem Zn7 (xs : List Z0) (f : Bool) (σ : Zc) : Z1q Try.prog Zfc [.slc 1 xs f] σ fun r σ' => r = .slc 1 xs true ∧ σ' = σ := by
  refine Z8t rfl Zli (Nat.le_of_ble_eq_true rfl) ?_
  (repeat (first | refine st_q rfl rfl rfl ?_ | (refine Z8y ?_; (repeat (first | refine Z9v rfl ?_ | refine Z9w ?_)); refine Z9u ?_) | refine awp_seq ?_ | refine Zbm (fun _ _ => rfl) ?_))
  refine Z9r rfl (by omega) (by omega) ?_
  rw [Int.toNat_natCast, List.take_length]
  (repeat (first | refine st_q rfl rfl rfl ?_ | (refine Z8y ?_; (repeat (first | refine Z9v rfl ?_ | refine Z9w ?_)); refine Z9u ?_)))
  refine Z8d ?_
  exact Kar rfl ⟨rfl, rfl⟩
theorem Zn8 {v : Z0} {xs : List Z0} {β : Zc} (ho : Zbr 1 v xs β) (σ : Zc) : Z1q Try.prog Zfc [v] (β ++ σ) fun r σ' => r = .slc 1 xs true ∧ σ' = σ := by
  rcases ho with ⟨⟨z, rfl⟩, rfl, rfl⟩ | ⟨b, rfl, rfl⟩
  · exact Z1q.args (VRle.nil_slc z 1 true) (Zn7 [] true σ)
  refine Z8t rfl Zli (Nat.le_of_ble_eq_true rfl) ?_
  (repeat (first | refine st_q rfl rfl rfl ?_ | (refine Z8y ?_; (repeat (first | refine Z9v rfl ?_ | refine Z9w ?_)); refine Z9u ?_) | refine awp_seq ?_ | refine Zbm (fun _ _ => rfl) ?_))
  refine Z9q rfl Z8z (by omega) (by omega) (by omega) Z9h ?_
  rw [List.drop_zero, Int.toNat_natCast, List.take_length]
  (repeat (first | refine st_q rfl rfl rfl ?_ | (refine Z8y ?_; (repeat (first | refine Z9v rfl ?_ | refine Z9w ?_)); refine Z9u ?_)))
  refine Z8d ?_
  exact Kar rfl ⟨rfl, rfl⟩
theorem Zn9 (xs : List Z0) (f : Bool) (σ : Zc) : Z1q Try.prog Ze3 [.slc 8 xs f] σ fun r σ' => r = .slc 8 xs true ∧ σ' = σ := by
  refine Z8t rfl Zlc (Nat.le_of_ble_eq_true rfl) ?_
  (repeat (first | refine st_q rfl rfl rfl ?_ | (refine Z8y ?_; (repeat (first | refine Z9v rfl ?_ | refine Z9w ?_)); refine Z9u ?_) | refine awp_seq ?_ | refine Zbm (fun _ _ => rfl) ?_))
  refine Z9r rfl (by omega) (by omega) ?_
  rw [Int.toNat_natCast, List.take_length]
  (repeat (first | refine st_q rfl rfl rfl ?_ | (refine Z8y ?_; (repeat (first | refine Z9v rfl ?_ | refine Z9w ?_)); refine Z9u ?_)))
  refine Z8d ?_
  exact Kar rfl ⟨rfl, rfl⟩
theorem Zna {v : Z0} {xs : List Z0} {β : Zc} (ho : Zbr 8 v xs β) (σ : Zc) : Z1q Try.prog Ze3 [v] (β ++ σ) fun r σ' => r = .slc 8 xs true ∧ σ' = σ := by
  rcases ho with ⟨⟨z, rfl⟩, rfl, rfl⟩ | ⟨b, rfl, rfl⟩
  · exact Z1q.args (VRle.nil_slc z 8 true) (Zn9 [] true σ)
  refine Z8t rfl Zlc (Nat.le_of_ble_eq_true rfl) ?_
  (repeat (first | refine st_q rfl rfl rfl ?_ | (refine Z8y ?_; (repeat (first | refine Z9v rfl ?_ | refine Z9w ?_)); refine Z9u ?_) | refine awp_seq ?_ | refine Zbm (fun _ _ => rfl) ?_))
  refine Z9q rfl Z8z (by omega) (by omega) (by omega) Z9h ?_
  rw [List.drop_zero, Int.toNat_natCast, List.take_length]
  (repeat (first | refine st_q rfl rfl rfl ?_ | (refine Z8y ?_; (repeat (first | refine Z9v rfl ?_ | refine Z9w ?_)); refine Z9u ?_)))
  refine Z8d ?_
  exact Kar rfl ⟨rfl, rfl⟩
theorem Znb (xs : List Z0) (f : Bool) (he : ∀ x ∈ xs, x.elem 1) (hb : xs.length * 16 ≤ 140737488355328) (σ : Zc) : Z1q Try.prog Zfb [.slc 1 xs f] σ fun r σ' => r = .slc 1 xs false ∧ σ' = σ := by
  refine Z8t rfl Zlh (Nat.le_of_ble_eq_true rfl) ?_
  have key : ∀ t : Bool, (t = true → xs = []) → AWp Try.prog Zj0.n (.cond (.t 4) (.seq (.region Ziy [2]) .ret) .skip) (Z8e Try.prog Zj0.n (Zj0.code.snd 2) (ARet Zj0.res fun r σ' => r = .slc 1 xs false ∧ σ' = σ))
      (fset 0 (some (.slc 1 xs f)) (fset 4 (some (.bool t)) Z27)) σ := by
    intro t ht
    cases t with
    | true =>
      (repeat (first | refine st_q rfl rfl rfl ?_ | (refine Z8y ?_; (repeat (first | refine Z9v rfl ?_ | refine Z9w ?_)); refine Z9u ?_) | refine awp_seq ?_ | refine Zbm (fun _ _ => rfl) ?_ | refine Kc1 rfl ?_))
      refine Z8d ?_
      refine Zau rfl ?_ (HSub.refl _) ⟨rfl, rfl⟩
      rw [ht rfl]
      exact VRle.trans (VRle.nil_slc 0 1 true) VRle.full
    | false =>
      (repeat (first | refine st_q rfl rfl rfl ?_ | refine awp_seq ?_ | refine Zbm (fun _ _ => rfl) ?_ | refine Zbn (fun _ _ => rfl) ?_ | refine Kc2 rfl ?_))
      refine Z9p rfl (ys := xs) (by simp [Z1m]) (by simpa using hb) fun b hb => ?_
      (repeat (first | refine st_q rfl rfl rfl ?_ | (refine Z8y ?_; (repeat (first | refine Z9v rfl ?_ | refine Z9w ?_)); refine Z9u ?_)))
      refine Z8d ?_
      exact Zbu rfl (Zb6.one (Zb6.freeze rfl)) ⟨rfl, rfl⟩
  (repeat (first | refine st_q rfl rfl rfl ?_ | (refine Z8y ?_; (repeat (first | refine Z9v rfl ?_ | refine Z9w ?_)); refine Z9u ?_) | refine awp_seq ?_ | refine Zbm (fun _ _ => rfl) ?_))
  refine Z8u rfl ?_
  refine ⟨fun _ => ?_, fun hx t => ?_⟩
  · (refine Z8y ?_; (repeat (first | refine Z9v rfl ?_ | refine Z9w ?_)); refine Z9u ?_)
    exact key false (fun h => by cases h)
  · (refine Z8y ?_; (repeat (first | refine Z9v rfl ?_ | refine Z9w ?_)); refine Z9u ?_)
    exact key t (fun _ => hx)
end Go.Abs

