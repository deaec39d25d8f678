/- Part Q of a proof: merged by program. -/
import Derived.Test.YtgmefkhincnajaaPkL
import Derived.Test.YtgmefkhincnajaaProg
import Derived.KernelRfl
namespace Go.Abs
open Go
def Z1ww : List Z2a := [
  ⟨some 4,(.box 8),[.t 0],none⟩,⟨some 5,(.box 5),[.t 1],none⟩,⟨some 8,.mov,[.c (.int .i64 0)],none⟩]
def Z1wx : List Z2a := [
  ⟨some 20,(.load true 5),[.t 5],none⟩,⟨some 21,(.call Zfz),[.t 20],none⟩,⟨some 9,(.alloc (.int .i64 0)),[],none⟩,⟨none,(.store 1),[.t 9,.t 21],none⟩]
def Z1wy : List Z2a := [
  ⟨some 22,(.fad 0),[.t 4],none⟩,⟨some 23,(.load false 1),[.t 22],none⟩,⟨some 24,(.callp Zfx),[.t 23],none⟩,⟨some 25,(.load true 8),[.t 4],none⟩,⟨some 26,(.callp Zg2),[.t 25],none⟩,⟨some 10,(.alloc (.agg [(.bool false),(.bool false),(.bool false),(.bool false)])),[],none⟩,⟨some 11,(.alloc (.agg [(.int .i64 0),(.slc 0 [] true),(.slc 0 [] true),(.int .i64 0),(.int .i64 0),(.int .i64 0)])),[],none⟩,⟨none,(.store 4),[.t 10,.t 24],none⟩,⟨none,(.store 6),[.t 11,.t 26],none⟩]
def Z1wz : List Z2a := [
  ⟨some 27,(.mkf Zg3 0),[.t 9],none⟩,⟨some 12,.mov,[.t 27],none⟩]
def Z1x0 : List Z2a := [
  ⟨some 28,(.fad 0),[.t 5],none⟩,⟨some 29,(.load false 1),[.t 28],none⟩,⟨some 30,.lens,[.t 29],none⟩,⟨some 31,.mov,[.t 2],none⟩,⟨some 32,(.bin .neq),[.t 30,.t 31],none⟩,⟨some 33,.mov,[.t 32],none⟩,⟨some 34,(.fad 1),[.t 5],some (33,false)⟩,⟨some 35,(.loadp false 1),[.t 34],some (33,false)⟩,⟨some 36,.lens,[.t 35],some (33,false)⟩,⟨some 37,.mov,[.t 12],some (33,false)⟩,⟨some 38,(.fad 0),[.t 10],some (33,false)⟩,⟨some 39,(.load false 1),[.t 38],some (33,false)⟩,⟨some 40,.callv,[.t 37,.t 39],some (33,false)⟩,⟨some 41,(.bin .neq),[.t 36,.t 40],some (33,false)⟩,⟨some 42,.pick,[.t 33,.c (.bool true),.t 41],none⟩,⟨some 43,.mov,[.t 42],none⟩,⟨some 44,(.fad 2),[.t 5],some (43,false)⟩,⟨some 45,(.loadp false 1),[.t 44],some (43,false)⟩,⟨some 46,.lens,[.t 45],some (43,false)⟩,⟨some 47,.mov,[.t 12],some (43,false)⟩,⟨some 48,(.fad 1),[.t 10],some (43,false)⟩,⟨some 49,(.load false 1),[.t 48],some (43,false)⟩,⟨some 50,.callv,[.t 47,.t 49],some (43,false)⟩,⟨some 51,(.bin .neq),[.t 46,.t 50],some (43,false)⟩,⟨some 52,.pick,[.t 43,.c (.bool true),.t 51],none⟩,⟨some 53,.mov,[.t 52],none⟩,⟨some 54,(.fad 3),[.t 5],some (53,false)⟩,⟨some 55,(.loadp false 1),[.t 54],some (53,false)⟩,⟨some 56,.lens,[.t 55],some (53,false)⟩,⟨some 57,.mov,[.t 12],some (53,false)⟩,⟨some 58,(.fad 2),[.t 10],some (53,false)⟩,⟨some 59,(.load false 1),[.t 58],some (53,false)⟩,⟨some 60,.callv,[.t 57,.t 59],some (53,false)⟩,⟨some 61,(.bin .neq),[.t 56,.t 60],some (53,false)⟩,⟨some 62,.pick,[.t 53,.c (.bool true),.t 61],none⟩,⟨some 63,.mov,[.t 62],none⟩,⟨some 64,(.fad 4),[.t 5],some (63,false)⟩,⟨some 65,(.loadp false 1),[.t 64],some (63,false)⟩,⟨some 66,.lens,[.t 65],some (63,false)⟩,⟨some 67,.mov,[.t 12],some (63,false)⟩,⟨some 68,(.fad 3),[.t 10],some (63,false)⟩,⟨some 69,(.load false 1),[.t 68],some (63,false)⟩,⟨some 70,.callv,[.t 67,.t 69],some (63,false)⟩,⟨some 71,(.bin .neq),[.t 66,.t 70],some (63,false)⟩,⟨some 72,.pick,[.t 63,.c (.bool true),.t 71],none⟩]
def Z1x1 : List Z2a := [
  ⟨some 8,.mov,[.c (.int .i64 2)],none⟩]
def Z1x2 : List Z2a := [
  ⟨some 73,(.fad 1),[.t 5],none⟩,⟨some 74,(.load false 1),[.t 73],none⟩,⟨some 75,.lens,[.t 74],none⟩,⟨some 76,.mov,[.c (.int .i64 0)],none⟩]
def Z1x3 : List Z2a := [
  ⟨some 77,(.bin .lss),[.t 76,.t 75],none⟩]
def Z1x4 : List Z2a := [
  ⟨some 78,.mov,[.t 76],none⟩,⟨some 79,(.iad 1),[.t 74,.t 76],none⟩,⟨some 80,(.load false 1),[.t 79],none⟩,⟨some 13,.mov,[.t 78],none⟩,⟨some 14,.mov,[.t 80],none⟩]
def Z1x5 : List Z2a := [
  ⟨some 15,.mov,[.c (.int .i64 0)],none⟩]
def Z1x6 : List Z2a := [
  ⟨some 81,(.fad 1),[.t 10],none⟩,⟨some 82,(.load false 1),[.t 81],none⟩]
def Z1x7 : List Z2a := [
  ⟨some 83,(.fad 2),[.t 5],none⟩,⟨some 84,(.load false 1),[.t 83],none⟩,⟨some 85,.mov,[.t 13],none⟩,⟨some 86,(.iad 1),[.t 84,.t 85],none⟩,⟨some 87,(.load false 1),[.t 86],none⟩,⟨some 15,.mov,[.t 87],none⟩]
def Z1x8 : List Z2a := [
  ⟨some 88,(.load true 6),[.t 11],none⟩,⟨some 89,.mov,[.t 14],none⟩,⟨some 90,.mov,[.t 15],none⟩,⟨some 91,(.call Zg4),[.t 88,.t 89,.t 90],none⟩,⟨some 92,.unot,[.t 91],none⟩]
def Z1x9 : List Z2a := [
  ⟨some 8,.mov,[.c (.int .i64 2)],none⟩]
def Z1xa : List Z2a := [
  ⟨some 93,(.bin .add),[.t 76,.c (.int .i64 1)],none⟩,⟨some 76,.mov,[.t 93],none⟩]
def Z1xb : Z2b := (.seq (.region Z1x3 [2,3,4,5,9,10,11,74,75,76,77]) (.seq (.cond (.t 77) .skip (.exit 0)) (.seq (.block 1 (.seq (.region Z1x4 [2,3,4,5,9,10,11,13,14,74,75,76]) (.seq (.region Z1x5 [2,3,4,5,9,10,11,13,14,15,74,75,76]) (.seq (.seq (.region Z1x6 [2,3,4,5,9,10,11,13,14,15,74,75,76,82]) (.cond (.t 82) (.region Z1x7 [2,3,4,5,9,10,11,14,15,74,75,76]) .skip)) (.seq (.region Z1x8 [2,3,4,5,9,10,11,74,75,76,92]) (.cond (.t 92) (.seq (.region Z1x9 [8]) .ret) .skip)))))) (.region Z1xa [2,3,4,5,9,10,11,74,75,76]))))
def Z1xc : List Z2a := [
  ⟨some 94,(.fad 3),[.t 5],none⟩,⟨some 95,(.load false 1),[.t 94],none⟩,⟨some 96,.lens,[.t 95],none⟩,⟨some 97,.mov,[.c (.int .i64 0)],none⟩]
def Z1xd : List Z2a := [
  ⟨some 98,(.bin .lss),[.t 97,.t 96],none⟩]
def Z1xe : List Z2a := [
  ⟨some 99,(.iad 1),[.t 95,.t 97],none⟩,⟨some 100,(.load false 1),[.t 99],none⟩,⟨some 17,.mov,[.t 100],none⟩]
def Z1xf : List Z2a := [
  ⟨some 101,(.load true 6),[.t 11],none⟩,⟨some 102,.mov,[.t 17],none⟩,⟨some 103,(.bld [(.bool false),(.int .i64 0),(.int .i64 0),(.slc 0 [] true),(.slc 0 [] true)] [(3,1)]),[.t 102],none⟩,⟨some 104,(.call Zet),[.t 101,.t 103],none⟩,⟨some 105,(.bin .neq),[.t 104,.c (.int .i64 0)],none⟩]
def Z1xg : List Z2a := [
  ⟨some 8,.mov,[.c (.int .i64 2)],none⟩]
def Z1xh : List Z2a := [
  ⟨some 106,(.bin .add),[.t 97,.c (.int .i64 1)],none⟩,⟨some 97,.mov,[.t 106],none⟩]
def Z1xi : Z2b := (.seq (.region Z1xd [2,3,4,5,9,10,11,95,96,97,98]) (.seq (.cond (.t 98) .skip (.exit 2)) (.seq (.block 3 (.seq (.region Z1xe [2,3,4,5,9,10,11,17,95,96,97]) (.seq (.region Z1xf [2,3,4,5,9,10,11,95,96,97,105]) (.cond (.t 105) (.seq (.region Z1xg [8]) .ret) .skip)))) (.region Z1xh [2,3,4,5,9,10,11,95,96,97]))))
def Z1xj : List Z2a := [
  ⟨some 107,(.fad 4),[.t 5],none⟩,⟨some 108,(.load false 1),[.t 107],none⟩,⟨some 109,.lens,[.t 108],none⟩,⟨some 110,.mov,[.c (.int .i64 0)],none⟩]
def Z1xk : List Z2a := [
  ⟨some 111,(.bin .lss),[.t 110,.t 109],none⟩]
def Z1xl : List Z2a := [
  ⟨some 112,(.iad 1),[.t 108,.t 110],none⟩,⟨some 113,(.load false 1),[.t 112],none⟩,⟨some 19,.mov,[.t 113],none⟩]
def Z1xm : List Z2a := [
  ⟨some 114,.mov,[.t 19],none⟩,⟨some 115,(.bin .lss),[.t 114,.c (.int .i64 0)],none⟩]
def Z1xn : List Z2a := [
  ⟨some 8,.mov,[.c (.int .i64 2)],none⟩]
def Z1xo : List Z2a := [
  ⟨some 116,(.bin .add),[.t 110,.c (.int .i64 1)],none⟩,⟨some 110,.mov,[.t 116],none⟩]
def Z1xp : Z2b := (.seq (.region Z1xk [2,3,4,5,9,10,108,109,110,111]) (.seq (.cond (.t 111) .skip (.exit 4)) (.seq (.block 5 (.seq (.region Z1xl [2,3,4,5,9,10,19,108,109,110]) (.seq (.region Z1xm [2,3,4,5,9,10,108,109,110,115]) (.cond (.t 115) (.seq (.region Z1xn [8]) .ret) .skip)))) (.region Z1xo [2,3,4,5,9,10,108,109,110]))))
def Z1xq : List Z2a := [
  ⟨some 118,.mov,[.t 3],none⟩,⟨some 119,.unot,[.t 118],none⟩,⟨some 120,.mov,[.t 119],none⟩,⟨some 121,(.load false 1),[.t 9],some (120,true)⟩,⟨some 122,.mov,[.t 2],some (120,true)⟩,⟨some 123,(.bin .neq),[.t 121,.t 122],some (120,true)⟩,⟨some 124,.pick,[.t 120,.t 123,.c (.bool false)],none⟩,⟨some 117,.mov,[.t 124],none⟩]
def Z1xr : List Z2a := [
  ⟨some 8,.mov,[.c (.int .i64 2)],none⟩]
def Z1xs : List Z2a := [
  ⟨some 126,(.fad 3),[.t 10],none⟩,⟨some 127,(.load false 1),[.t 126],none⟩,⟨some 128,.mov,[.t 127],none⟩,⟨some 129,(.load true 8),[.t 4],some (128,true)⟩,⟨some 130,(.load true 5),[.t 5],some (128,true)⟩,⟨some 131,(.call Zex),[.t 129,.t 130,.c (.int .i64 0)],some (128,true)⟩,⟨some 132,(.bin .gtr),[.t 131,.c (.int .i64 16384)],some (128,true)⟩,⟨some 133,.pick,[.t 128,.t 132,.c (.bool false)],none⟩,⟨some 125,.mov,[.t 133],none⟩]
def Z1xt : List Z2a := [
  ⟨some 8,.mov,[.c (.int .i64 4)],none⟩]
def Z1xu : List Z2a := [
  ⟨some 8,.mov,[.c (.int .i64 0)],none⟩]
def Z1xv : Z2y := ⟨134,(.seq (.region Z1ww [2,3,4,5]) (.seq (.region Z1wx [2,3,4,5,9]) (.seq (.region Z1wy [2,3,4,5,9,10,11]) (.seq (.region Z1wz [2,3,4,5,9,10,11,12]) (.seq (.seq (.region Z1x0 [2,3,4,5,9,10,11,72]) (.cond (.t 72) (.seq (.region Z1x1 [8]) .ret) .skip)) (.seq (.seq (.region Z1x2 [2,3,4,5,9,10,11,74,75,76]) (.block 0 (.loop Z1xb))) (.seq (.seq (.region Z1xc [2,3,4,5,9,10,11,95,96,97]) (.block 2 (.loop Z1xi))) (.seq (.seq (.region Z1xj [2,3,4,5,9,10,108,109,110]) (.block 4 (.loop Z1xp))) (.seq (.block 6 (.seq (.region Z1xq [4,5,10,117]) (.cond (.t 117) (.seq (.region Z1xr [8]) .ret) (.seq (.region Z1xs [125]) (.cond (.t 125) (.seq (.region Z1xt [8]) .ret) .skip))))) (.seq (.region Z1xu [8]) .ret)))))))))),[.t 8]⟩
def Z1xw : List Z2a := [
  ⟨some 1,(.box 8),[.t 0],none⟩,⟨some 2,(.alloc (.agg [(.int .i64 0),(.slc 0 [] true),(.slc 0 [] true),(.int .i64 0),(.int .i64 0),(.int .i64 0)])),[],none⟩]
def Z1xx : List Z2a := [
  ⟨some 3,(.fad 0),[.t 1],none⟩,⟨some 4,(.load false 1),[.t 3],none⟩,⟨some 5,(.fad 1),[.t 1],none⟩,⟨some 6,(.load false 1),[.t 5],none⟩,⟨some 7,.lens,[.t 6],none⟩,⟨some 8,(.mks 6 80 (.agg [(.int .i64 0),(.slc 0 [] true),(.slc 0 [] true),(.int .i64 0),(.int .i64 0),(.int .i64 0)])),[.t 7,.t 7],none⟩,⟨some 9,(.fad 3),[.t 1],none⟩,⟨some 10,(.load false 1),[.t 9],none⟩,⟨some 11,(.fad 4),[.t 1],none⟩,⟨some 12,(.load false 1),[.t 11],none⟩,⟨some 13,(.fad 5),[.t 1],none⟩,⟨some 14,(.load false 1),[.t 13],none⟩,⟨some 15,(.bld [(.int .i64 0),(.slc 0 [] true),(.slc 0 [] true),(.int .i64 0),(.int .i64 0),(.int .i64 0)] [(0,1),(2,1),(3,1),(4,1),(5,1)]),[.t 4,.t 8,.t 10,.t 12,.t 14],none⟩,⟨none,(.store 6),[.t 2,.t 15],none⟩]
def Z1xy : Z2y := ⟨16,(.seq (.region Z1xw [1,2]) (.seq (.region Z1xx [2]) .ret)),[.cell 2 true 6]⟩
def Z1xz : List Z2a := [
  ⟨some 3,.mov,[.c (.int .i64 0)],none⟩]
def Z1y0 : List Z2a := [
  ⟨some 4,.mov,[.t 0],none⟩]
def Z1y1 : List Z2a := [
  ⟨some 5,(.load false 1),[.t 1],none⟩,⟨some 3,.mov,[.t 5],none⟩]
def Z1y2 : List Z2a := [
  ⟨some 3,.mov,[.c (.int .i64 0)],none⟩]
def Z1y3 : Z2y := ⟨6,(.seq (.region Z1xz [0,1]) (.seq (.seq (.region Z1y0 [1,4]) (.cond (.t 4) (.seq (.region Z1y1 [3]) .ret) .skip)) (.seq (.region Z1y2 [3]) .ret))),[.t 3]⟩
def Z1y4 : List Z2a := [
  ⟨some 3,(.box 6),[.t 0],none⟩,⟨some 6,.mov,[.c (.bool false)],none⟩]
def Z1y5 : List Z2a := [
  ⟨some 7,(.fad 0),[.t 3],none⟩,⟨some 8,(.load false 1),[.t 7],none⟩,⟨some 9,(.bin .eql),[.t 8,.c (.int .i64 13)],none⟩]
def Z1y6 : List Z2a := [
  ⟨some 10,.mov,[.t 1],none⟩,⟨some 11,(.bin .geq),[.t 10,.c (.int .i64 0)],none⟩,⟨some 12,.mov,[.t 11],none⟩,⟨some 13,.mov,[.t 1],some (12,true)⟩,⟨some 14,(.fad 2),[.t 3],some (12,true)⟩,⟨some 15,(.load false 1),[.t 14],some (12,true)⟩,⟨some 16,.lens,[.t 15],some (12,true)⟩,⟨some 17,(.bin .lss),[.t 13,.t 16],some (12,true)⟩,⟨some 18,.pick,[.t 12,.t 17,.c (.bool false)],none⟩,⟨some 6,.mov,[.t 18],none⟩]
def Z1y7 : List Z2a := [
  ⟨some 19,(.load true 6),[.t 3],none⟩,⟨some 20,.mov,[.t 1],none⟩,⟨some 21,.mov,[.t 2],none⟩,⟨some 22,(.bld [(.bool false),(.int .i64 0),(.int .i64 0),(.slc 0 [] true),(.slc 0 [] true)] [(1,1),(2,1)]),[.t 20,.t 21],none⟩,⟨some 23,(.call Zet),[.t 19,.t 22],none⟩,⟨some 24,(.bin .eql),[.t 23,.c (.int .i64 0)],none⟩,⟨some 6,.mov,[.t 24],none⟩]
def Z1y8 : Z2y := ⟨25,(.seq (.region Z1y4 [1,2,3]) (.seq (.seq (.region Z1y5 [1,2,3,9]) (.cond (.t 9) (.seq (.region Z1y6 [6]) .ret) .skip)) (.seq (.region Z1y7 [6]) .ret))),[.t 6]⟩
def Zyw : List Z2a := [
  ⟨some 2,(.box 6),[.t 0],none⟩,⟨some 3,(.box 5),[.t 1],none⟩,⟨some 4,.mov,[.c (.int .i64 0)],none⟩]
def Zyx : List Z2a := [
  ⟨some 12,(.load true 6),[.t 2],none⟩,⟨some 13,(.load true 5),[.t 3],none⟩,⟨some 14,(.call Zfs),[.t 12,.t 13],none⟩,⟨some 15,.unot,[.t 14],none⟩,⟨some 16,.mov,[.t 15],none⟩,⟨some 17,(.fad 0),[.t 3],some (16,false)⟩,⟨some 18,(.load false 1),[.t 17],some (16,false)⟩,⟨some 19,.unot,[.t 18],some (16,false)⟩,⟨some 20,.mov,[.t 19],some (16,false)⟩,⟨some 21,(.load true 6),[.t 2],some (20,true)⟩,⟨some 22,(.load true 5),[.t 3],some (20,true)⟩,⟨some 23,(.call Zft),[.t 21,.t 22],some (20,true)⟩,⟨some 24,.unot,[.t 23],some (20,true)⟩,⟨some 25,.pick,[.t 20,.t 24,.c (.bool false)],some (16,false)⟩,⟨some 26,.pick,[.t 16,.c (.bool true),.t 25],none⟩,⟨some 11,.mov,[.t 26],none⟩]
def Zyy : List Z2a := [
  ⟨some 4,.mov,[.c (.int .i64 1)],none⟩]
def Zyz : List Z2a := [
  ⟨some 28,(.fad 0),[.t 3],none⟩,⟨some 29,(.load false 1),[.t 28],none⟩,⟨some 27,.mov,[.t 29],none⟩]
def Zz0 : List Z2a := [
  ⟨some 4,.mov,[.c (.int .i64 0)],none⟩]
def Zz1 : List Z2a := [
  ⟨some 31,(.load true 6),[.t 2],none⟩,⟨some 32,(.load true 5),[.t 3],none⟩,⟨some 33,(.call Zfu),[.t 31,.t 32],none⟩,⟨some 30,.mov,[.t 33],none⟩]
def Zz2 : List Z2a := [
  ⟨some 4,.mov,[.c (.int .i64 4)],none⟩]
def Zz3 : List Z2a := [
  ⟨some 34,(.load true 6),[.t 2],none⟩,⟨some 35,(.load true 5),[.t 3],none⟩,⟨some 36,(.call Zfv),[.t 34,.t 35],none⟩,⟨some 5,.mov,[.t 36],none⟩]
def Zz4 : List Z2a := [
  ⟨some 37,.mov,[.t 5],none⟩,⟨some 38,(.bin .neq),[.t 37,.c (.int .i64 0)],none⟩]
def Zz5 : List Z2a := [
  ⟨some 39,.mov,[.t 5],none⟩,⟨some 4,.mov,[.t 39],none⟩]
def Zz6 : List Z2a := [
  ⟨some 40,(.fad 4),[.t 3],none⟩,⟨some 41,(.load false 1),[.t 40],none⟩,⟨some 42,.lens,[.t 41],none⟩,⟨some 43,.mov,[.c (.int .i64 0)],none⟩]
def Zz7 : List Z2a := [
  ⟨some 44,(.bin .lss),[.t 43,.t 42],none⟩]
def Zz8 : List Z2a := [
  ⟨some 45,.mov,[.t 43],none⟩,⟨some 46,(.iad 5),[.t 41,.t 43],none⟩,⟨some 47,(.load true 5),[.t 46],none⟩,⟨some 7,(.alloc (.agg [(.bool false),(.int .i64 0),(.int .i64 0),(.slc 0 [] true),(.slc 0 [] true)])),[],none⟩,⟨some 6,.mov,[.t 45],none⟩,⟨none,(.store 5),[.t 7,.t 47],none⟩]
def Zz9 : List Z2a := [
  ⟨some 49,(.load true 6),[.t 2],none⟩,⟨some 50,(.load true 5),[.t 3],none⟩,⟨some 51,.mov,[.t 6],none⟩,⟨some 52,(.call Zfw),[.t 49,.t 50,.t 51],none⟩,⟨some 48,.mov,[.t 52],none⟩,⟨some 53,(.ext 0),[.t 48],none⟩,⟨some 54,(.ext 1),[.t 48],none⟩,⟨some 8,(.alloc (.agg [(.int .i64 0),(.slc 0 [] true),(.slc 0 [] true),(.int .i64 0),(.int .i64 0),(.int .i64 0)])),[],none⟩,⟨none,(.store 6),[.t 8,.t 53],none⟩,⟨some 9,.mov,[.t 54],none⟩]
def Zza : List Z2a := [
  ⟨some 55,.mov,[.t 9],none⟩,⟨some 56,.unot,[.t 55],none⟩,⟨some 57,.mov,[.t 56],none⟩,⟨some 58,(.fad 0),[.t 2],some (57,false)⟩,⟨some 59,(.load false 1),[.t 58],some (57,false)⟩,⟨some 60,(.bin .eql),[.t 59,.c (.int .i64 11)],some (57,false)⟩,⟨some 61,.mov,[.t 60],some (57,false)⟩,⟨some 62,.mov,[.t 6],some (61,true)⟩,⟨some 63,(.bin .rem),[.t 62,.c (.int .i64 2)],some (61,true)⟩,⟨some 64,(.bin .eql),[.t 63,.c (.int .i64 0)],some (61,true)⟩,⟨some 65,.pick,[.t 61,.t 64,.c (.bool false)],some (57,false)⟩,⟨some 66,.mov,[.t 65],some (57,false)⟩,⟨some 67,(.fad 0),[.t 7],some (66,true)⟩,⟨some 68,(.load false 1),[.t 67],some (66,true)⟩,⟨some 69,.pick,[.t 66,.t 68,.c (.bool false)],some (57,false)⟩,⟨some 70,.pick,[.t 57,.c (.bool true),.t 69],none⟩]
def Zzb : List Z2a := [
  ⟨some 4,.mov,[.c (.int .i64 1)],none⟩]
def Zzc : List Z2a := [
  ⟨some 71,(.load true 6),[.t 8],none⟩,⟨some 72,(.load true 5),[.t 7],none⟩,⟨some 73,(.call Zet),[.t 71,.t 72],none⟩,⟨some 10,.mov,[.t 73],none⟩]
def Zzd : List Z2a := [
  ⟨some 74,.mov,[.t 10],none⟩,⟨some 75,(.bin .neq),[.t 74,.c (.int .i64 0)],none⟩]
def Zze : List Z2a := [
  ⟨some 76,.mov,[.t 10],none⟩,⟨some 4,.mov,[.t 76],none⟩]
def Zzf : List Z2a := [
  ⟨some 77,(.bin .add),[.t 43,.c (.int .i64 1)],none⟩,⟨some 43,.mov,[.t 77],none⟩]
def Zzg : Z2b := (.seq (.region Zz7 [2,3,41,42,43,44]) (.seq (.cond (.t 44) .skip (.exit 1)) (.seq (.block 2 (.seq (.region Zz8 [2,3,6,7,41,42,43]) (.seq (.region Zz9 [2,3,6,7,8,9,41,42,43]) (.seq (.seq (.region Zza [2,3,7,8,41,42,43,70]) (.cond (.t 70) (.seq (.region Zzb [4]) .ret) .skip)) (.seq (.region Zzc [2,3,10,41,42,43]) (.seq (.region Zzd [2,3,10,41,42,43,75]) (.cond (.t 75) (.seq (.region Zze [4]) .ret) .skip))))))) (.region Zzf [2,3,41,42,43]))))
def Zzh : List Z2a := [
  ⟨some 4,.mov,[.c (.int .i64 0)],none⟩]
def Zzi : Z2y := ⟨78,(.seq (.region Zyw [2,3]) (.seq (.block 0 (.seq (.region Zyx [2,3,11]) (.cond (.t 11) (.seq (.region Zyy [4]) .ret) (.seq (.region Zyz [2,3,27]) (.cond (.t 27) (.seq (.region Zz0 [4]) .ret) (.seq (.region Zz1 [2,3,30]) (.cond (.t 30) (.seq (.region Zz2 [4]) .ret) .skip))))))) (.seq (.seq (.region Zz3 [2,3,5]) (.seq (.region Zz4 [2,3,5,38]) (.cond (.t 38) (.seq (.region Zz5 [4]) .ret) .skip))) (.seq (.seq (.region Zz6 [2,3,41,42,43]) (.block 1 (.loop Zzg))) (.seq (.region Zzh [4]) .ret))))),[.t 4]⟩
def Zzj : List Z2a := [
  ⟨some 2,(.box 6),[.t 0],none⟩,⟨some 3,(.box 5),[.t 1],none⟩,⟨some 4,.mov,[.c (.bool false)],none⟩]
def Zzk : List Z2a := [
  ⟨some 5,(.fad 0),[.t 3],none⟩,⟨some 6,(.load false 1),[.t 5],none⟩]
def Zzl : List Z2a := [
  ⟨some 7,(.fad 1),[.t 3],none⟩,⟨some 8,(.load false 1),[.t 7],none⟩,⟨some 9,(.bin .eql),[.t 8,.c (.int .i64 0)],none⟩,⟨some 10,.mov,[.t 9],none⟩,⟨some 11,(.fad 2),[.t 3],some (10,true)⟩,⟨some 12,(.load false 1),[.t 11],some (10,true)⟩,⟨some 13,(.bin .eql),[.t 12,.c (.int .i64 0)],some (10,true)⟩,⟨some 14,.pick,[.t 10,.t 13,.c (.bool false)],none⟩,⟨some 15,.mov,[.t 14],none⟩,⟨some 16,(.fad 3),[.t 3],some (15,true)⟩,⟨some 17,(.load false 1),[.t 16],some (15,true)⟩,⟨some 18,.lens,[.t 17],some (15,true)⟩,⟨some 19,(.bin .eql),[.t 18,.c (.int .i64 0)],some (15,true)⟩,⟨some 20,.pick,[.t 15,.t 19,.c (.bool false)],none⟩,⟨some 21,.mov,[.t 20],none⟩,⟨some 22,(.fad 4),[.t 3],some (21,true)⟩,⟨some 23,(.load false 1),[.t 22],some (21,true)⟩,⟨some 24,.lens,[.t 23],some (21,true)⟩,⟨some 25,(.bin .eql),[.t 24,.c (.int .i64 0)],some (21,true)⟩,⟨some 26,.pick,[.t 21,.t 25,.c (.bool false)],none⟩,⟨some 4,.mov,[.t 26],none⟩]
def Zzm : List Z2a := [
  ⟨some 27,(.fad 2),[.t 3],none⟩,⟨some 28,(.load false 1),[.t 27],none⟩,⟨some 29,(.bin .eql),[.t 28,.c (.int .i64 0)],none⟩,⟨some 30,.mov,[.t 29],none⟩,⟨some 31,(.fad 0),[.t 2],some (30,false)⟩,⟨some 32,(.load false 1),[.t 31],some (30,false)⟩,⟨some 33,(.bin .eql),[.t 32,.c (.int .i64 9)],some (30,false)⟩,⟨some 34,.pick,[.t 30,.c (.bool true),.t 33],none⟩,⟨some 35,.mov,[.t 34],none⟩,⟨some 36,(.fad 3),[.t 3],some (35,true)⟩,⟨some 37,(.load false 1),[.t 36],some (35,true)⟩,⟨some 38,.lens,[.t 37],some (35,true)⟩,⟨some 39,(.bin .eql),[.t 38,.c (.int .i64 0)],some (35,true)⟩,⟨some 40,.mov,[.t 39],some (35,true)⟩,⟨some 41,(.fad 0),[.t 2],some (40,false)⟩,⟨some 42,(.load false 1),[.t 41],some (40,false)⟩,⟨some 43,(.call Zfi),[.t 42],some (40,false)⟩,⟨some 44,.pick,[.t 40,.c (.bool true),.t 43],some (35,true)⟩,⟨some 45,.pick,[.t 35,.t 44,.c (.bool false)],none⟩,⟨some 46,.mov,[.t 45],none⟩,⟨some 47,(.fad 4),[.t 3],some (46,true)⟩,⟨some 48,(.load false 1),[.t 47],some (46,true)⟩,⟨some 49,.lens,[.t 48],some (46,true)⟩,⟨some 50,(.bin .eql),[.t 49,.c (.int .i64 0)],some (46,true)⟩,⟨some 51,.mov,[.t 50],some (46,true)⟩,⟨some 52,(.fad 0),[.t 2],some (51,false)⟩,⟨some 53,(.load false 1),[.t 52],some (51,false)⟩,⟨some 54,(.call Zfd),[.t 53],some (51,false)⟩,⟨some 55,.unot,[.t 54],some (51,false)⟩,⟨some 56,.pick,[.t 51,.c (.bool true),.t 55],some (46,true)⟩,⟨some 57,.pick,[.t 46,.t 56,.c (.bool false)],none⟩,⟨some 4,.mov,[.t 57],none⟩]
def Zzn : Z2y := ⟨58,(.seq (.region Zzj [2,3]) (.seq (.seq (.region Zzk [2,3,6]) (.cond (.t 6) (.seq (.region Zzl [4]) .ret) .skip)) (.seq (.region Zzm [4]) .ret))),[.t 4]⟩
def Z109 : List Z2a := [
  ⟨some 2,(.box 6),[.t 0],none⟩,⟨some 3,(.box 5),[.t 1],none⟩,⟨some 4,.mov,[.c (.bool false)],none⟩]
def Z10a : List Z2a := [
  ⟨some 5,(.fad 0),[.t 2],none⟩,⟨some 6,(.load false 1),[.t 5],none⟩]
def Z10b : List Z2a := [
  ⟨some 8,(.bin .eql),[.t 6,.c (.int .i64 16)],none⟩,⟨some 7,.mov,[.t 8],none⟩]
def Z10c : List Z2a := [
  ⟨some 9,(.bin .eql),[.t 6,.c (.int .i64 17)],none⟩,⟨some 7,.mov,[.t 9],none⟩]
def Z10d : List Z2a := [
  ⟨some 11,(.bin .eql),[.t 6,.c (.int .i64 7)],none⟩,⟨some 10,.mov,[.t 11],none⟩]
def Z10e : List Z2a := [
  ⟨some 12,(.bin .eql),[.t 6,.c (.int .i64 8)],none⟩,⟨some 10,.mov,[.t 12],none⟩]
def Z10f : List Z2a := [
  ⟨some 13,(.fad 3),[.t 3],none⟩,⟨some 14,(.load false 1),[.t 13],none⟩,⟨some 15,(.callp Zge),[.t 14],none⟩,⟨some 16,(.fad 3),[.t 2],none⟩,⟨some 17,(.load false 1),[.t 16],none⟩,⟨some 18,(.bin .gtr),[.t 15,.t 17],none⟩]
def Z10g : List Z2a := [
  ⟨some 4,.mov,[.c (.bool true)],none⟩]
def Z10h : List Z2a := [
  ⟨some 19,(.fad 3),[.t 3],none⟩,⟨some 20,(.load false 1),[.t 19],none⟩,⟨some 21,.lens,[.t 20],none⟩,⟨some 22,(.bin .gtr),[.t 21,.c (.int .i64 4096)],none⟩,⟨some 4,.mov,[.t 22],none⟩]
def Z10i : List Z2a := [
  ⟨some 4,.mov,[.c (.bool false)],none⟩]
def Z10j : Z2y := ⟨23,(.seq (.region Z109 [2,3]) (.seq (.seq (.region Z10a [2,3,6]) (.block 0 (.seq (.block 2 (.seq (.block 1 (.seq (.seq (.seq (.seq (.region Z10b [2,3,6,7]) (.cond (.t 7) .skip (.region Z10c [2,3,6,7]))) (.cond (.t 7) (.exit 1) .skip)) (.seq (.seq (.region Z10d [3,6,10]) (.cond (.t 10) .skip (.region Z10e [3,10]))) (.cond (.t 10) (.exit 2) .skip))) (.exit 0))) (.seq (.region Z10f [3,18]) (.cond (.t 18) (.seq (.region Z10g [4]) .ret) .skip)))) (.seq (.seq (.region Z10h [4]) .ret) (.exit 0))))) (.seq (.region Z10i [4]) .ret))),[.t 4]⟩
def Z10k : List Z2a := [
  ⟨some 2,(.box 6),[.t 0],none⟩,⟨some 3,(.box 5),[.t 1],none⟩,⟨some 4,.mov,[.c (.int .i64 0)],none⟩]
def Z10l : List Z2a := [
  ⟨some 7,(.fad 4),[.t 3],none⟩,⟨some 8,(.load false 1),[.t 7],none⟩,⟨some 9,.lens,[.t 8],none⟩,⟨some 5,.mov,[.t 9],none⟩,⟨some 6,.mov,[.c (.bool true)],none⟩]
def Z10m : List Z2a := [
  ⟨some 10,(.fad 0),[.t 2],none⟩,⟨some 11,(.load false 1),[.t 10],none⟩]
def Z10n : List Z2a := [
  ⟨some 13,(.bin .eql),[.t 11,.c (.int .i64 11)],none⟩,⟨some 12,.mov,[.t 13],none⟩]
def Z10o : List Z2a := [
  ⟨some 15,(.bin .eql),[.t 11,.c (.int .i64 10)],none⟩,⟨some 14,.mov,[.t 15],none⟩]
def Z10p : List Z2a := [
  ⟨some 17,(.bin .eql),[.t 11,.c (.int .i64 12)],none⟩,⟨some 16,.mov,[.t 17],none⟩]
def Z10q : List Z2a := [
  ⟨some 19,(.bin .eql),[.t 11,.c (.int .i64 13)],none⟩,⟨some 18,.mov,[.t 19],none⟩]
def Z10r : List Z2a := [
  ⟨some 20,.mov,[.t 5],none⟩,⟨some 21,(.bin .rem),[.t 20,.c (.int .i64 2)],none⟩,⟨some 22,(.bin .eql),[.t 21,.c (.int .i64 0)],none⟩,⟨some 23,.mov,[.t 5],none⟩,⟨some 24,(.bin .quo),[.t 23,.c (.int .i64 2)],none⟩,⟨some 6,.mov,[.t 22],none⟩,⟨some 5,.mov,[.t 24],none⟩]
def Z10s : List Z2a := [
  ⟨some 25,.mov,[.t 6],none⟩,⟨some 26,.mov,[.t 25],none⟩,⟨some 27,.mov,[.t 5],some (26,true)⟩,⟨some 28,(.bin .gtr),[.t 27,.c (.int .i64 16384)],some (26,true)⟩,⟨some 29,.pick,[.t 26,.t 28,.c (.bool false)],none⟩]
def Z10t : List Z2a := [
  ⟨some 4,.mov,[.c (.int .i64 4)],none⟩]
def Z10u : List Z2a := [
  ⟨some 30,.mov,[.t 5],none⟩,⟨some 31,(.fad 2),[.t 2],none⟩,⟨some 32,(.load false 1),[.t 31],none⟩,⟨some 33,.lens,[.t 32],none⟩,⟨some 34,(.bin .eql),[.t 30,.t 33],none⟩,⟨some 6,.mov,[.t 34],none⟩]
def Z10v : List Z2a := [
  ⟨some 35,.mov,[.t 5],none⟩,⟨some 36,(.bin .eql),[.t 35,.c (.int .i64 1)],none⟩,⟨some 6,.mov,[.t 36],none⟩]
def Z10w : List Z2a := [
  ⟨some 37,.mov,[.t 6],none⟩,⟨some 38,.unot,[.t 37],none⟩]
def Z10x : List Z2a := [
  ⟨some 4,.mov,[.c (.int .i64 1)],none⟩]
def Z10y : List Z2a := [
  ⟨some 4,.mov,[.c (.int .i64 0)],none⟩]
def Z10z : Z2y := ⟨39,(.seq (.region Z10k [2,3]) (.seq (.region Z10l [2,5,6]) (.seq (.seq (.region Z10m [2,5,6,11]) (.block 0 (.seq (.block 4 (.seq (.block 3 (.seq (.block 2 (.seq (.block 1 (.seq (.seq (.seq (.region Z10n [2,5,6,11,12]) (.cond (.t 12) (.exit 1) .skip)) (.seq (.seq (.region Z10o [2,5,6,11,14]) (.cond (.t 14) (.exit 2) .skip)) (.seq (.seq (.region Z10p [2,5,6,11,16]) (.cond (.t 16) (.exit 3) .skip)) (.seq (.region Z10q [5,6,18]) (.cond (.t 18) (.exit 4) .skip))))) (.exit 0))) (.region Z10r [5,6]))) (.seq (.seq (.region Z10s [6,29]) (.cond (.t 29) (.seq (.region Z10t [4]) .ret) .skip)) (.exit 0)))) (.seq (.region Z10u [6]) (.exit 0)))) (.seq (.region Z10v [6]) (.exit 0))))) (.seq (.seq (.region Z10w [38]) (.cond (.t 38) (.seq (.region Z10x [4]) .ret) .skip)) (.seq (.region Z10y [4]) .ret))))),[.t 4]⟩
def Z110 : List Z2a := [
  ⟨some 3,(.box 6),[.t 0],none⟩,⟨some 4,(.box 5),[.t 1],none⟩,⟨some 6,(.alloc (.agg [(.int .i64 0),(.slc 0 [] true),(.slc 0 [] true),(.int .i64 0),(.int .i64 0),(.int .i64 0)])),[],none⟩,⟨some 7,.mov,[.c (.bool false)],none⟩]
def Z111 : List Z2a := [
  ⟨some 8,(.fad 0),[.t 3],none⟩,⟨some 9,(.load false 1),[.t 8],none⟩]
def Z112 : List Z2a := [
  ⟨some 11,(.bin .eql),[.t 9,.c (.int .i64 10)],none⟩,⟨some 10,.mov,[.t 11],none⟩]
def Z113 : List Z2a := [
  ⟨some 2,.mov,[.c (.int .i64 0)],none⟩]
def Z114 : List Z2a := [
  ⟨some 13,(.bin .eql),[.t 9,.c (.int .i64 11)],none⟩,⟨some 12,.mov,[.t 13],none⟩]
def Z115 : List Z2a := [
  ⟨some 14,.mov,[.t 2],none⟩,⟨some 15,(.bin .rem),[.t 14,.c (.int .i64 2)],none⟩,⟨some 2,.mov,[.t 15],none⟩]
def Z116 : List Z2a := [
  ⟨some 17,(.bin .eql),[.t 9,.c (.int .i64 13)],none⟩,⟨some 16,.mov,[.t 17],none⟩]
def Z117 : List Z2a := [
  ⟨some 18,(.fad 1),[.t 4],none⟩,⟨some 19,(.load false 1),[.t 18],none⟩,⟨some 20,(.bin .lss),[.t 19,.c (.int .i64 0)],none⟩,⟨some 21,.mov,[.t 20],none⟩,⟨some 22,(.fad 1),[.t 4],some (21,false)⟩,⟨some 23,(.load false 1),[.t 22],some (21,false)⟩,⟨some 24,(.fad 2),[.t 3],some (21,false)⟩,⟨some 25,(.load false 1),[.t 24],some (21,false)⟩,⟨some 26,.lens,[.t 25],some (21,false)⟩,⟨some 27,(.bin .geq),[.t 23,.t 26],some (21,false)⟩,⟨some 28,.pick,[.t 21,.c (.bool true),.t 27],none⟩]
def Z118 : List Z2a := [
  ⟨some 29,(.bld [(.int .i64 0),(.slc 0 [] true),(.slc 0 [] true),(.int .i64 0),(.int .i64 0),(.int .i64 0)] []),[],none⟩,⟨none,(.store 6),[.t 6,.t 29],none⟩,⟨some 7,.mov,[.c (.bool false)],none⟩]
def Z119 : List Z2a := [
  ⟨some 30,(.fad 1),[.t 4],none⟩,⟨some 31,(.load false 1),[.t 30],none⟩,⟨some 2,.mov,[.t 31],none⟩]
def Z11a : List Z2a := [
  ⟨some 32,.mov,[.t 2],none⟩,⟨some 33,(.fad 2),[.t 3],none⟩,⟨some 34,(.load false 1),[.t 33],none⟩,⟨some 35,.lens,[.t 34],none⟩,⟨some 36,(.bin .geq),[.t 32,.t 35],none⟩]
def Z11b : List Z2a := [
  ⟨some 37,(.bld [(.int .i64 0),(.slc 0 [] true),(.slc 0 [] true),(.int .i64 0),(.int .i64 0),(.int .i64 0)] []),[],none⟩,⟨none,(.store 6),[.t 6,.t 37],none⟩,⟨some 7,.mov,[.c (.bool false)],none⟩]
def Z11c : List Z2a := [
  ⟨some 38,(.fad 2),[.t 3],none⟩,⟨some 39,(.load false 1),[.t 38],none⟩,⟨some 40,.mov,[.t 2],none⟩,⟨some 41,(.iad 6),[.t 39,.t 40],none⟩,⟨some 42,(.load true 6),[.t 41],none⟩,⟨none,(.store 6),[.t 6,.t 42],none⟩,⟨some 7,.mov,[.c (.bool true)],none⟩]
def Z11d : Z2y := ⟨43,(.seq (.region Z110 [2,3,4,6]) (.seq (.seq (.region Z111 [2,3,4,6,9]) (.block 0 (.seq (.region Z112 [2,3,4,6,9,10]) (.cond (.t 10) (.region Z113 [2,3,6]) (.seq (.region Z114 [2,3,4,6,9,12]) (.cond (.t 12) (.region Z115 [2,3,6]) (.seq (.region Z116 [2,3,4,6,16]) (.cond (.t 16) (.seq (.seq (.region Z117 [3,4,6,28]) (.cond (.t 28) (.seq (.region Z118 [6,7]) .ret) .skip)) (.region Z119 [2,3,6])) .skip)))))))) (.seq (.seq (.region Z11a [2,3,6,36]) (.cond (.t 36) (.seq (.region Z11b [6,7]) .ret) .skip)) (.seq (.region Z11c [6,7]) .ret)))),[.cell 6 true 6,.t 7]⟩
end Go.Abs
namespace Go.Abs
open Go Go.Proofs
theorem Z1ya : Z2z Try.prog [(4, 37), (4, 27), (4, 17), (4, 7), (2, 4), (2, 2)] Zf0 = some Z1xv.erase := by kernel_rfl
theorem Z1yb : Z2z Try.prog [] Zg2 = some Z1xy.erase := by kernel_rfl
theorem Z1yc : Z2z Try.prog [] Zg3 = some Z1y3.erase := by kernel_rfl
theorem Z1yd : Z2z Try.prog [] Zg4 = some Z1y8.erase := by kernel_rfl
theorem Z12f : Z2z Try.prog [] Zet = some Zzi.erase := by kernel_rfl
theorem Z12g : Z2z Try.prog [] Zfs = some Zzn.erase := by kernel_rfl
theorem Z12i : Z2z Try.prog [(6, 2)] Zfu = some Z10j.erase := by kernel_rfl
theorem Z12j : Z2z Try.prog [] Zfv = some Z10z.erase := by kernel_rfl
theorem Z12k : Z2z Try.prog [] Zfw = some Z11d.erase := by kernel_rfl
end Go.Abs
namespace Go.Abs
open Go Go.Proofs
set_option linter.unusedVariables false
set_option linter.unusedSimpArgs false
set_option maxHeartbeats 4000000
attribute [local irreducible] AWp aops KP
theorem quo2n (n : Nat) (h : n ≤ 9223372036854775807) : IntKind.wrap .i64 ((n : Int).tdiv 2) = ((n / 2 : Nat) : Int) := by
  have e : (n : Int).tdiv 2 = ((n / 2 : Nat) : Int) := by rw [Int.tdiv_eq_ediv_of_nonneg (by omega)]; omega
  rw [e, w64 _ (by omega) (by omega)]
def Z131 (k : Int) (nu : Bool) (i n : Int) (b : List UInt8) (ks : Nat) : Bool :=
  if nu = true then decide (i = 0 ∧ n = 0 ∧ b = [] ∧ ks = 0) else decide ((n = 0 ∨ k = 9) ∧ (b = [] ∨ Zmb k = true) ∧ (ks = 0 ∨ Zlt k = false))
theorem Z132 (t : Ty) (v : Vl) (σ : Zc) : Z1q Try.prog Zfs [encT t, encV v] σ fun r σ' => r = .bool (Z131 t.kind v.null v.i v.n v.b v.kids.length) ∧ σ' = σ := by
  obtain ⟨k, ns, ks, l, p, s⟩ := t
  obtain ⟨nu, i, n, b, vks⟩ := v
  simp only [encT, encV, Ty.kind, Vl.null, Vl.i, Vl.n, Vl.b, Vl.kids] at *
  refine Z8t rfl Z12g (Nat.le_of_ble_eq_true rfl) ?_
  refine Z9z ?_
  refine Z9j rfl (Kfi rfl) fun b1 hb1 => ?_
  refine Z9j rfl (Kfi rfl) fun b2 hb2 => ?_
  (repeat (refine st_q rfl rfl rfl ?_))
  (refine Z8y ?_; (repeat (first | refine Z9v rfl ?_ | refine Z9w ?_)); refine Z9u ?_)
  refine Zb3 (d := 3) (cs := [.bool nu, .int .i64 i, .int .i64 n, .slc 1 (bytes b) false, .slc 5 (Zm5 vks) false]) rfl ?_
  refine Zb3 (d := 2) (cs := [.int .i64 k, .slc 1 (ns.map .str) false, .slc 6 (Zln ks) false, .int .i64 l, .int .i64 p, .int .i64 s]) rfl ?_
  have eb : b = [] ↔ (b.length : Int) = 0 := by rw [← List.length_eq_zero_iff]; omega
  cases nu with
  | true =>
    (repeat (first | refine st_q rfl rfl rfl ?_ | (refine Z8y ?_; (repeat (first | refine Z9v rfl ?_ | refine Z9w ?_)); refine Z9u ?_) | refine awp_seq ?_ | refine Zbm (fun _ _ => rfl) ?_ | refine Kc1 rfl ?_))
    by_cases q1 : i = 0
    rotate_left
    · (rw [decide_eq_false (p := i = 0) (by omega)])
      (repeat (first | refine st_q rfl rfl rfl ?_ | refine Z8w rfl ?_ | (refine Z8y ?_; (repeat (first | refine Z9v rfl ?_ | refine Z9w ?_)); refine Z9u ?_)))
      (refine Z8d ?_; exact Kar rfl ⟨(by simp [Z131, q1, Z8m]), rfl⟩)
    (rw [decide_eq_true (p := i = 0) (by omega)])
    (repeat (first | refine st_q rfl rfl rfl ?_ | refine Z8v rfl (st_q rfl rfl rfl ?_)))
    by_cases q2 : n = 0
    rotate_left
    · (rw [decide_eq_false (p := n = 0) (by omega)])
      (repeat (first | refine st_q rfl rfl rfl ?_ | refine Z8w rfl ?_ | (refine Z8y ?_; (repeat (first | refine Z9v rfl ?_ | refine Z9w ?_)); refine Z9u ?_)))
      (refine Z8d ?_; exact Kar rfl ⟨(by simp [Z131, q2, Z8m]), rfl⟩)
    (rw [decide_eq_true (p := n = 0) (by omega)])
    (repeat (first | refine st_q rfl rfl rfl ?_ | refine Z8v rfl (st_q rfl rfl rfl ?_)))
    rw [Zam]
    by_cases q3 : (b.length : Int) = 0
    rotate_left
    · have q3' : ¬ b = [] := fun e => q3 (eb.1 e)
      (rw [decide_eq_false (p := (b.length : Int) = 0) (by omega)])
      (repeat (first | refine st_q rfl rfl rfl ?_ | refine Z8w rfl ?_ | (refine Z8y ?_; (repeat (first | refine Z9v rfl ?_ | refine Z9w ?_)); refine Z9u ?_)))
      (refine Z8d ?_; exact Kar rfl ⟨(by simp [Z131, q3', Z8m]), rfl⟩)
    have q3' : b = [] := eb.2 q3
    (rw [decide_eq_true (p := (b.length : Int) = 0) (by omega)])
    (repeat (first | refine st_q rfl rfl rfl ?_ | refine Z8v rfl (st_q rfl rfl rfl ?_) | (refine Z8y ?_; (repeat (first | refine Z9v rfl ?_ | refine Z9w ?_)); refine Z9u ?_)))
    rw [Zm9]
    refine Z8d ?_
    refine ares rfl (HSub.refl _) ⟨?_, rfl⟩
    simp only [Z131, Z8m, if_true, Z0.bool.injEq, decide_eq_decide, eb, q1, q2, q3, true_and]
    omega
  | false =>
    (repeat (first | refine st_q rfl rfl rfl ?_ | (refine Z8y ?_; (repeat (first | refine Z9v rfl ?_ | refine Z9w ?_)); refine Z9u ?_) | refine awp_seq ?_ | refine Zbm (fun _ _ => rfl) ?_ | refine Zbn (fun _ _ => rfl) ?_ | refine Kc2 rfl ?_))
    by_cases q1 : n = 0
    · (rw [decide_eq_true (p := n = 0) (by omega)])
      (repeat (first | refine st_q rfl rfl rfl ?_ | refine Z8v rfl (st_q rfl rfl rfl ?_) | refine Z8w rfl ?_))
      rw [Zam]
      by_cases q3 : (b.length : Int) = 0
      · have q3' : b = [] := eb.2 q3
        (rw [decide_eq_true (p := (b.length : Int) = 0) (by omega)])
        (repeat (first | refine st_q rfl rfl rfl ?_ | refine Z8v rfl (st_q rfl rfl rfl ?_) | refine Z8w rfl ?_))
        rw [Zm9]
        by_cases q4 : (vks.length : Int) = 0
        · (rw [decide_eq_true (p := (vks.length : Int) = 0) (by omega)])
          (repeat (first | refine st_q rfl rfl rfl ?_ | refine Z8v rfl (st_q rfl rfl rfl ?_) | refine Z8w rfl ?_ | (refine Z8y ?_; (repeat (first | refine Z9v rfl ?_ | refine Z9w ?_)); refine Z9u ?_)))
          (refine Z8d ?_; exact Kar rfl ⟨(by have q4' : vks.length = 0 := (by omega); simp [Z131, q1, q3', q4', Z8m]), rfl⟩)
        · (rw [decide_eq_false (p := (vks.length : Int) = 0) (by omega)])
          (repeat refine Z8v rfl (st_q rfl rfl rfl ?_))
          (first | refine Z9t rfl ((Zmw k) _) ?_ | refine Z8v rfl (Z9t rfl ((Zmw k) _) ?_) | refine Zbw rfl (Zmw k) ?_ | refine Z8v rfl (Zbw rfl (Zmw k) ?_))
          (repeat (first | refine st_q rfl rfl rfl ?_ | refine Z8v rfl (st_q rfl rfl rfl ?_) | (refine Z8y ?_; (repeat (first | refine Z9v rfl ?_ | refine Z9w ?_)); refine Z9u ?_)))
          (refine Z8d ?_; exact Kar rfl ⟨(by have q4' : ¬ vks.length = 0 := (by omega); cases hl : Zlt k <;> simp [Z131, q1, q3', q4', hl, Z8m]), rfl⟩)
      · have q3' : ¬ b = [] := fun e => q3 (eb.1 e)
        (rw [decide_eq_false (p := (b.length : Int) = 0) (by omega)])
        (repeat refine Z8v rfl (st_q rfl rfl rfl ?_))
        (first | refine Z9t rfl ((Zu8 k) _) ?_ | refine Z8v rfl (Z9t rfl ((Zu8 k) _) ?_) | refine Zbw rfl (Zu8 k) ?_ | refine Z8v rfl (Zbw rfl (Zu8 k) ?_))
        cases ht : Zmb k with
        | false =>
          (repeat (first | refine st_q rfl rfl rfl ?_ | refine Z8v rfl (st_q rfl rfl rfl ?_) | refine Z8w rfl ?_ | refine Z8x rfl ?_ | (refine Z8y ?_; (repeat (first | refine Z9v rfl ?_ | refine Z9w ?_)); refine Z9u ?_)))
          (refine Z8d ?_; exact Kar rfl ⟨(by simp [Z131, q1, q3', ht, Z8m]), rfl⟩)
        | true =>
          (repeat (first | refine st_q rfl rfl rfl ?_ | refine Z8v rfl (st_q rfl rfl rfl ?_)))
          rw [Zm9]
          by_cases q4 : (vks.length : Int) = 0
          · (rw [decide_eq_true (p := (vks.length : Int) = 0) (by omega)])
            (repeat (first | refine st_q rfl rfl rfl ?_ | refine Z8v rfl (st_q rfl rfl rfl ?_) | refine Z8w rfl ?_ | (refine Z8y ?_; (repeat (first | refine Z9v rfl ?_ | refine Z9w ?_)); refine Z9u ?_)))
            (refine Z8d ?_; exact Kar rfl ⟨(by have q4' : vks.length = 0 := (by omega); simp [Z131, q1, q3', q4', ht, Z8m]), rfl⟩)
          · (rw [decide_eq_false (p := (vks.length : Int) = 0) (by omega)])
            (repeat refine Z8v rfl (st_q rfl rfl rfl ?_))
            (first | refine Z9t rfl ((Zmw k) _) ?_ | refine Z8v rfl (Z9t rfl ((Zmw k) _) ?_) | refine Zbw rfl (Zmw k) ?_ | refine Z8v rfl (Zbw rfl (Zmw k) ?_))
            (repeat (first | refine st_q rfl rfl rfl ?_ | refine Z8v rfl (st_q rfl rfl rfl ?_) | (refine Z8y ?_; (repeat (first | refine Z9v rfl ?_ | refine Z9w ?_)); refine Z9u ?_)))
            (refine Z8d ?_; exact Kar rfl ⟨(by have q4' : ¬ vks.length = 0 := (by omega); cases hl : Zlt k <;> simp [Z131, q1, q3', q4', ht, hl, Z8m]), rfl⟩)
    · (rw [decide_eq_false (p := n = 0) (by omega)])
      (repeat (first | refine st_q rfl rfl rfl ?_ | refine Z8v rfl (st_q rfl rfl rfl ?_)))
      by_cases q9 : k = 9
      · (rw [decide_eq_true (p := k = 9) (by omega)])
        (repeat refine Z8v rfl (st_q rfl rfl rfl ?_))
        rw [Zam]
        by_cases q3 : (b.length : Int) = 0
        · have q3' : b = [] := eb.2 q3
          (rw [decide_eq_true (p := (b.length : Int) = 0) (by omega)])
          (repeat (first | refine st_q rfl rfl rfl ?_ | refine Z8v rfl (st_q rfl rfl rfl ?_) | refine Z8w rfl ?_))
          rw [Zm9]
          by_cases q4 : (vks.length : Int) = 0
          · (rw [decide_eq_true (p := (vks.length : Int) = 0) (by omega)])
            (repeat (first | refine st_q rfl rfl rfl ?_ | refine Z8v rfl (st_q rfl rfl rfl ?_) | refine Z8w rfl ?_ | (refine Z8y ?_; (repeat (first | refine Z9v rfl ?_ | refine Z9w ?_)); refine Z9u ?_)))
            (refine Z8d ?_; exact Kar rfl ⟨(by have q4' : vks.length = 0 := (by omega); simp [Z131, q1, q9, q3', q4', Z8m]), rfl⟩)
          · (rw [decide_eq_false (p := (vks.length : Int) = 0) (by omega)])
            (repeat refine Z8v rfl (st_q rfl rfl rfl ?_))
            (first | refine Z9t rfl ((Zmw k) _) ?_ | refine Z8v rfl (Z9t rfl ((Zmw k) _) ?_) | refine Zbw rfl (Zmw k) ?_ | refine Z8v rfl (Zbw rfl (Zmw k) ?_))
            (repeat (first | refine st_q rfl rfl rfl ?_ | refine Z8v rfl (st_q rfl rfl rfl ?_) | (refine Z8y ?_; (repeat (first | refine Z9v rfl ?_ | refine Z9w ?_)); refine Z9u ?_)))
            (refine Z8d ?_; exact Kar rfl ⟨(by have q4' : ¬ vks.length = 0 := (by omega); cases hl : Zlt k <;> rw [q9] at hl <;> simp [Z131, q1, q9, q3', q4', hl, Z8m]), rfl⟩)
        · have q3' : ¬ b = [] := fun e => q3 (eb.1 e)
          (rw [decide_eq_false (p := (b.length : Int) = 0) (by omega)])
          (repeat refine Z8v rfl (st_q rfl rfl rfl ?_))
          (first | refine Z9t rfl ((Zu8 k) _) ?_ | refine Z8v rfl (Z9t rfl ((Zu8 k) _) ?_) | refine Zbw rfl (Zu8 k) ?_ | refine Z8v rfl (Zbw rfl (Zu8 k) ?_))
          cases ht : Zmb k with
          | false =>
            (repeat (first | refine st_q rfl rfl rfl ?_ | refine Z8v rfl (st_q rfl rfl rfl ?_) | refine Z8w rfl ?_ | refine Z8x rfl ?_ | (refine Z8y ?_; (repeat (first | refine Z9v rfl ?_ | refine Z9w ?_)); refine Z9u ?_)))
            (refine Z8d ?_; exact Kar rfl ⟨(by rw [q9] at ht; simp [Z131, q1, q9, q3', ht, Z8m]), rfl⟩)
          | true =>
            (repeat (first | refine st_q rfl rfl rfl ?_ | refine Z8v rfl (st_q rfl rfl rfl ?_)))
            rw [Zm9]
            by_cases q4 : (vks.length : Int) = 0
            · (rw [decide_eq_true (p := (vks.length : Int) = 0) (by omega)])
              (repeat (first | refine st_q rfl rfl rfl ?_ | refine Z8v rfl (st_q rfl rfl rfl ?_) | refine Z8w rfl ?_ | (refine Z8y ?_; (repeat (first | refine Z9v rfl ?_ | refine Z9w ?_)); refine Z9u ?_)))
              (refine Z8d ?_; exact Kar rfl ⟨(by rw [q9] at ht; have q4' : vks.length = 0 := (by omega); simp [Z131, q1, q9, q3', q4', ht, Z8m]), rfl⟩)
            · (rw [decide_eq_false (p := (vks.length : Int) = 0) (by omega)])
              (repeat refine Z8v rfl (st_q rfl rfl rfl ?_))
              (first | refine Z9t rfl ((Zmw k) _) ?_ | refine Z8v rfl (Z9t rfl ((Zmw k) _) ?_) | refine Zbw rfl (Zmw k) ?_ | refine Z8v rfl (Zbw rfl (Zmw k) ?_))
              (repeat (first | refine st_q rfl rfl rfl ?_ | refine Z8v rfl (st_q rfl rfl rfl ?_) | (refine Z8y ?_; (repeat (first | refine Z9v rfl ?_ | refine Z9w ?_)); refine Z9u ?_)))
              (refine Z8d ?_; exact Kar rfl ⟨(by rw [q9] at ht; have q4' : ¬ vks.length = 0 := (by omega); cases hl : Zlt k <;> rw [q9] at hl <;> simp [Z131, q1, q9, q3', q4', ht, hl, Z8m]), rfl⟩)
      · (rw [decide_eq_false (p := k = 9) (by omega)])
        (repeat (first | refine st_q rfl rfl rfl ?_ | refine Z8w rfl ?_ | refine Z8x rfl ?_ | (refine Z8y ?_; (repeat (first | refine Z9v rfl ?_ | refine Z9w ?_)); refine Z9u ?_)))
        (refine Z8d ?_; exact Kar rfl ⟨(by simp [Z131, q1, q9, Z8m]), rfl⟩)
def longF (k l : Int) (b : List UInt8) : Bool := decide (((k = 16 ∨ k = 17) ∧ l < (Zmc b : Int)) ∨ ((k = 7 ∨ k = 8 ∨ k = 16 ∨ k = 17) ∧ 4096 < b.length))
theorem Z133 (t : Ty) (v : Vl) (hb : v.b.length ≤ 9223372036854775807) (σ : Zc) : Z1q Try.prog Zfu [encT t, encV v] σ fun r σ' => r = .bool (longF t.kind t.len v.b) ∧ σ' = σ := by
  obtain ⟨k, ns, ks, l, p, s⟩ := t
  obtain ⟨nu, i, n, b, vks⟩ := v
  simp only [encT, encV, Ty.kind, Ty.len, Vl.b] at *
  refine Z8t rfl Z12i (Nat.le_of_ble_eq_true rfl) ?_
  refine Z9z ?_
  refine Z9j rfl (Kfi rfl) fun b1 hb1 => ?_
  refine Z9j rfl (Kfi rfl) fun b2 hb2 => ?_
  (repeat (refine st_q rfl rfl rfl ?_))
  (refine Z8y ?_; (repeat (first | refine Z9v rfl ?_ | refine Z9w ?_)); refine Z9u ?_)
  refine Zb3 (d := 3) (cs := [.bool nu, .int .i64 i, .int .i64 n, .slc 1 (bytes b) false, .slc 5 (Zm5 vks) false]) rfl ?_
  refine Zb3 (d := 2) (cs := [.int .i64 k, .slc 1 (ns.map .str) false, .slc 6 (Zln ks) false, .int .i64 l, .int .i64 p, .int .i64 s]) rfl ?_
  by_cases k16 : k = 16
  · subst k16
    (repeat (first | refine st_q rfl rfl rfl ?_ | (refine Z8y ?_; (repeat (first | refine Z9v rfl ?_ | refine Z9w ?_)); refine Z9u ?_) | refine awp_seq ?_ | refine Zbm (fun _ _ => rfl) ?_ | refine Z8h ?_ | refine Zbn (fun _ _ => rfl) ?_ | refine Zbo (fun _ _ => rfl) ?_ | refine Kc1 rfl ?_))
    (first | refine Z9t rfl ((Z12u b false hb) _) ?_ | refine Z8v rfl (Z9t rfl ((Z12u b false hb) _) ?_) | refine Zbw rfl (Z12u b false hb) ?_ | refine Z8v rfl (Zbw rfl (Z12u b false hb) ?_))
    (repeat (first | refine st_q rfl rfl rfl ?_ | (refine Z8y ?_; (repeat (first | refine Z9v rfl ?_ | refine Z9w ?_)); refine Z9u ?_)))
    by_cases q : l < (Zmc b : Int)
    · (rw [decide_eq_true (p := l < (Zmc b : Int)) (by omega)])
      (repeat (first | refine st_q rfl rfl rfl ?_ | (refine Z8y ?_; (repeat (first | refine Z9v rfl ?_ | refine Z9w ?_)); refine Z9u ?_) | refine awp_seq ?_ | refine Zbm (fun _ _ => rfl) ?_ | refine Kc1 rfl ?_))
      (refine Z8d ?_; exact Kar rfl ⟨(by simp [longF, q, Z8m]), rfl⟩)
    · (rw [decide_eq_false (p := l < (Zmc b : Int)) (by omega)])
      (repeat (first | refine st_q rfl rfl rfl ?_ | (refine Z8y ?_; (repeat (first | refine Z9v rfl ?_ | refine Z9w ?_)); refine Z9u ?_) | refine awp_seq ?_ | refine Zbm (fun _ _ => rfl) ?_ | refine Zbn (fun _ _ => rfl) ?_ | refine Kc2 rfl ?_))
      rw [Zam]
      refine Z8d ?_
      refine ares rfl (HSub.refl _) ⟨?_, rfl⟩
      simp [longF, q, Z8m]
      try omega
  by_cases k17 : k = 17
  · subst k17
    (repeat (first | refine st_q rfl rfl rfl ?_ | (refine Z8y ?_; (repeat (first | refine Z9v rfl ?_ | refine Z9w ?_)); refine Z9u ?_) | refine awp_seq ?_ | refine Zbm (fun _ _ => rfl) ?_ | refine Z8h ?_ | refine Zbo (fun _ _ => rfl) ?_ | refine Kc1 rfl ?_ | refine Kc2 rfl ?_))
    (first | refine Z9t rfl ((Z12u b false hb) _) ?_ | refine Z8v rfl (Z9t rfl ((Z12u b false hb) _) ?_) | refine Zbw rfl (Z12u b false hb) ?_ | refine Z8v rfl (Zbw rfl (Z12u b false hb) ?_))
    (repeat (first | refine st_q rfl rfl rfl ?_ | (refine Z8y ?_; (repeat (first | refine Z9v rfl ?_ | refine Z9w ?_)); refine Z9u ?_)))
    by_cases q : l < (Zmc b : Int)
    · (rw [decide_eq_true (p := l < (Zmc b : Int)) (by omega)])
      (repeat (first | refine st_q rfl rfl rfl ?_ | (refine Z8y ?_; (repeat (first | refine Z9v rfl ?_ | refine Z9w ?_)); refine Z9u ?_) | refine awp_seq ?_ | refine Zbm (fun _ _ => rfl) ?_ | refine Kc1 rfl ?_))
      (refine Z8d ?_; exact Kar rfl ⟨(by simp [longF, q, Z8m]), rfl⟩)
    · (rw [decide_eq_false (p := l < (Zmc b : Int)) (by omega)])
      (repeat (first | refine st_q rfl rfl rfl ?_ | (refine Z8y ?_; (repeat (first | refine Z9v rfl ?_ | refine Z9w ?_)); refine Z9u ?_) | refine awp_seq ?_ | refine Zbm (fun _ _ => rfl) ?_ | refine Zbn (fun _ _ => rfl) ?_ | refine Kc2 rfl ?_))
      rw [Zam]
      refine Z8d ?_
      refine ares rfl (HSub.refl _) ⟨?_, rfl⟩
      simp [longF, q, Z8m]
      try omega
  by_cases k7 : k = 7
  · subst k7
    (repeat (first | refine st_q rfl rfl rfl ?_ | (refine Z8y ?_; (repeat (first | refine Z9v rfl ?_ | refine Z9w ?_)); refine Z9u ?_) | refine awp_seq ?_ | refine Zbm (fun _ _ => rfl) ?_ | refine Z8h ?_ | refine Zbn (fun _ _ => rfl) ?_ | refine Zbo (fun _ _ => rfl) ?_ | refine Kc1 rfl ?_ | refine Kc2 rfl ?_))
    rw [Zam]
    refine Z8d ?_
    refine ares rfl (HSub.refl _) ⟨?_, rfl⟩
    simp [longF, Z8m]
    try omega
  by_cases k8 : k = 8
  · subst k8
    (repeat (first | refine st_q rfl rfl rfl ?_ | (refine Z8y ?_; (repeat (first | refine Z9v rfl ?_ | refine Z9w ?_)); refine Z9u ?_) | refine awp_seq ?_ | refine Zbm (fun _ _ => rfl) ?_ | refine Z8h ?_ | refine Zbn (fun _ _ => rfl) ?_ | refine Zbo (fun _ _ => rfl) ?_ | refine Kc1 rfl ?_ | refine Kc2 rfl ?_))
    rw [Zam]
    refine Z8d ?_
    refine ares rfl (HSub.refl _) ⟨?_, rfl⟩
    simp [longF, Z8m]
    try omega
  (repeat (first | refine st_q rfl rfl rfl ?_ | (refine Z8y ?_; (repeat (first | refine Z9v rfl ?_ | refine Z9w ?_)); refine Z9u ?_) | refine awp_seq ?_ | refine Zbm (fun _ _ => rfl) ?_ | refine Z8h ?_))
  (rw [decide_eq_false (p := k = 16) (by omega)])
  (repeat (first | refine st_q rfl rfl rfl ?_ | (refine Z8y ?_; (repeat (first | refine Z9v rfl ?_ | refine Z9w ?_)); refine Z9u ?_) | refine Zbm (fun _ _ => rfl) ?_ | refine Kc2 rfl ?_))
  (rw [decide_eq_false (p := k = 17) (by omega)])
  (repeat (first | refine st_q rfl rfl rfl ?_ | (refine Z8y ?_; (repeat (first | refine Z9v rfl ?_ | refine Z9w ?_)); refine Z9u ?_) | refine awp_seq ?_ | refine Zbm (fun _ _ => rfl) ?_ | refine Zbn (fun _ _ => rfl) ?_ | refine Kc2 rfl ?_))
  (rw [decide_eq_false (p := k = 7) (by omega)])
  (repeat (first | refine st_q rfl rfl rfl ?_ | (refine Z8y ?_; (repeat (first | refine Z9v rfl ?_ | refine Z9w ?_)); refine Z9u ?_) | refine Zbm (fun _ _ => rfl) ?_ | refine Kc2 rfl ?_))
  (rw [decide_eq_false (p := k = 8) (by omega)])
  (repeat (first | refine st_q rfl rfl rfl ?_ | (refine Z8y ?_; (repeat (first | refine Z9v rfl ?_ | refine Z9w ?_)); refine Z9u ?_) | refine awp_seq ?_ | refine Zbm (fun _ _ => rfl) ?_ | refine Zbn (fun _ _ => rfl) ?_ | refine Zbo (fun _ _ => rfl) ?_ | refine Kc2 rfl ?_))
  (refine Z8d ?_; exact Kar rfl ⟨(by simp [longF, Z8m, k16, k17, k7, k8]), rfl⟩)
def Z134 (k : Int) (n kids : Nat) : Nat :=
  if k = 11 then (if n % 2 ≠ 0 then 1 else if 16384 < n / 2 then 4 else 0)
  else if k = 10 then (if 16384 < n then 4 else 0)
  else if k = 12 then (if n ≠ kids then 1 else 0)
  else if k = 13 then (if n ≠ 1 then 1 else 0)
  else 0
theorem Z135 (t : Ty) (v : Vl) (hk : v.kids.length ≤ 9223372036854775807) (σ : Zc) : Z1q Try.prog Zfv [encT t, encV v] σ fun r σ' => r = .int .i64 (Z134 t.kind v.kids.length t.kids.length : Int) ∧ σ' = σ := by
  obtain ⟨k, ns, ks, l, p, s⟩ := t
  obtain ⟨nu, i, n, b, vks⟩ := v
  simp only [encT, encV, Ty.kind, Ty.kids, Vl.kids] at *
  refine Z8t rfl Z12j (Nat.le_of_ble_eq_true rfl) ?_
  refine Z9z ?_
  refine Z9j rfl (Kfi rfl) fun b1 hb1 => ?_
  refine Z9j rfl (Kfi rfl) fun b2 hb2 => ?_
  (repeat (refine st_q rfl rfl rfl ?_))
  (refine Z8y ?_; (repeat (first | refine Z9v rfl ?_ | refine Z9w ?_)); refine Z9u ?_)
  refine Zb3 (d := 3) (cs := [.bool nu, .int .i64 i, .int .i64 n, .slc 1 (bytes b) false, .slc 5 (Zm5 vks) false]) rfl ?_
  refine Zb3 (d := 2) (cs := [.int .i64 k, .slc 1 (ns.map .str) false, .slc 6 (Zln ks) false, .int .i64 l, .int .i64 p, .int .i64 s]) rfl ?_
  by_cases k11 : k = 11
  · subst k11
    (repeat (first | refine st_q rfl rfl rfl ?_ | (refine Z8y ?_; (repeat (first | refine Z9v rfl ?_ | refine Z9w ?_)); refine Z9u ?_) | refine awp_seq ?_ | refine Zbm (fun _ _ => rfl) ?_ | refine Z8h ?_ | refine Zbo (fun _ _ => rfl) ?_ | refine Kc1 rfl ?_))
    rw [Zm9, quo2n _ hk, show (vks.length : Int).tmod 2 = ((vks.length % 2 : Nat) : Int) by rw [Int.tmod_eq_emod_of_nonneg (by omega)]; omega]
    by_cases q : vks.length % 2 = 0
    · (rw [decide_eq_true (p := ((vks.length % 2 : Nat) : Int) = 0) (by omega)])
      (repeat (first | refine st_q rfl rfl rfl ?_ | refine Z8v rfl (st_q rfl rfl rfl ?_) | (refine Z8y ?_; (repeat (first | refine Z9v rfl ?_ | refine Z9w ?_)); refine Z9u ?_)))
      by_cases q2 : 16384 < vks.length / 2
      · (rw [decide_eq_true (p := (16384 : Int) < ((vks.length / 2 : Nat) : Int)) (by omega)])
        (repeat (first | refine st_q rfl rfl rfl ?_ | (refine Z8y ?_; (repeat (first | refine Z9v rfl ?_ | refine Z9w ?_)); refine Z9u ?_) | refine awp_seq ?_ | refine Zbm (fun _ _ => rfl) ?_ | refine Kc1 rfl ?_))
        (refine Z8d ?_; exact Kar rfl ⟨(by simp [Z134, q, q2, Z8m]), rfl⟩)
      · (rw [decide_eq_false (p := (16384 : Int) < ((vks.length / 2 : Nat) : Int)) (by omega)])
        (repeat (first | refine st_q rfl rfl rfl ?_ | (refine Z8y ?_; (repeat (first | refine Z9v rfl ?_ | refine Z9w ?_)); refine Z9u ?_) | refine awp_seq ?_ | refine Zbm (fun _ _ => rfl) ?_ | refine Zbn (fun _ _ => rfl) ?_ | refine Zbo (fun _ _ => rfl) ?_ | refine Kc2 rfl ?_))
        (refine Z8d ?_; exact Kar rfl ⟨(by simp [Z134, q, q2, Z8m]), rfl⟩)
    · (rw [decide_eq_false (p := ((vks.length % 2 : Nat) : Int) = 0) (by omega)])
      (repeat (first | refine st_q rfl rfl rfl ?_ | refine Z8w rfl ?_ | (refine Z8y ?_; (repeat (first | refine Z9v rfl ?_ | refine Z9w ?_)); refine Z9u ?_) | refine awp_seq ?_ | refine Zbm (fun _ _ => rfl) ?_ | refine Zbn (fun _ _ => rfl) ?_ | refine Zbo (fun _ _ => rfl) ?_ | refine Kc1 rfl ?_ | refine Kc2 rfl ?_))
      (refine Z8d ?_; exact Kar rfl ⟨(by simp [Z134, q, Z8m]), rfl⟩)
  by_cases k10 : k = 10
  · subst k10
    (repeat (first | refine st_q rfl rfl rfl ?_ | refine Z8v rfl (st_q rfl rfl rfl ?_) | (refine Z8y ?_; (repeat (first | refine Z9v rfl ?_ | refine Z9w ?_)); refine Z9u ?_) | refine awp_seq ?_ | refine Zbm (fun _ _ => rfl) ?_ | refine Z8h ?_ | refine Zbn (fun _ _ => rfl) ?_ | refine Zbo (fun _ _ => rfl) ?_ | refine Kc1 rfl ?_ | refine Kc2 rfl ?_))
    rw [Zm9]
    by_cases q2 : 16384 < vks.length
    · (rw [decide_eq_true (p := (16384 : Int) < (vks.length : Int)) (by omega)])
      (repeat (first | refine st_q rfl rfl rfl ?_ | (refine Z8y ?_; (repeat (first | refine Z9v rfl ?_ | refine Z9w ?_)); refine Z9u ?_) | refine awp_seq ?_ | refine Zbm (fun _ _ => rfl) ?_ | refine Kc1 rfl ?_))
      (refine Z8d ?_; exact Kar rfl ⟨(by simp [Z134, q2, Z8m]), rfl⟩)
    · (rw [decide_eq_false (p := (16384 : Int) < (vks.length : Int)) (by omega)])
      (repeat (first | refine st_q rfl rfl rfl ?_ | (refine Z8y ?_; (repeat (first | refine Z9v rfl ?_ | refine Z9w ?_)); refine Z9u ?_) | refine awp_seq ?_ | refine Zbm (fun _ _ => rfl) ?_ | refine Zbn (fun _ _ => rfl) ?_ | refine Zbo (fun _ _ => rfl) ?_ | refine Kc2 rfl ?_))
      (refine Z8d ?_; exact Kar rfl ⟨(by simp [Z134, q2, Z8m]), rfl⟩)
  by_cases k12 : k = 12
  · subst k12
    (repeat (first | refine st_q rfl rfl rfl ?_ | (refine Z8y ?_; (repeat (first | refine Z9v rfl ?_ | refine Z9w ?_)); refine Z9u ?_) | refine awp_seq ?_ | refine Zbm (fun _ _ => rfl) ?_ | refine Z8h ?_ | refine Zbn (fun _ _ => rfl) ?_ | refine Zbo (fun _ _ => rfl) ?_ | refine Kc1 rfl ?_ | refine Kc2 rfl ?_))
    rw [Zm9, Zlr]
    by_cases q2 : vks.length = ks.length
    · (rw [decide_eq_true (p := (vks.length : Int) = (ks.length : Int)) (by omega)])
      (repeat (first | refine st_q rfl rfl rfl ?_ | (refine Z8y ?_; (repeat (first | refine Z9v rfl ?_ | refine Z9w ?_)); refine Z9u ?_) | refine awp_seq ?_ | refine Zbm (fun _ _ => rfl) ?_ | refine Zbn (fun _ _ => rfl) ?_ | refine Kc2 rfl ?_))
      (refine Z8d ?_; exact Kar rfl ⟨(by simp [Z134, q2, Z8m]), rfl⟩)
    · (rw [decide_eq_false (p := (vks.length : Int) = (ks.length : Int)) (by omega)])
      (repeat (first | refine st_q rfl rfl rfl ?_ | (refine Z8y ?_; (repeat (first | refine Z9v rfl ?_ | refine Z9w ?_)); refine Z9u ?_) | refine awp_seq ?_ | refine Zbm (fun _ _ => rfl) ?_ | refine Kc1 rfl ?_))
      (refine Z8d ?_; exact Kar rfl ⟨(by simp [Z134, q2, Z8m]), rfl⟩)
  by_cases k13 : k = 13
  · subst k13
    (repeat (first | refine st_q rfl rfl rfl ?_ | (refine Z8y ?_; (repeat (first | refine Z9v rfl ?_ | refine Z9w ?_)); refine Z9u ?_) | refine awp_seq ?_ | refine Zbm (fun _ _ => rfl) ?_ | refine Z8h ?_ | refine Zbn (fun _ _ => rfl) ?_ | refine Zbo (fun _ _ => rfl) ?_ | refine Kc1 rfl ?_ | refine Kc2 rfl ?_))
    rw [Zm9]
    by_cases q2 : vks.length = 1
    · (rw [decide_eq_true (p := (vks.length : Int) = 1) (by omega)])
      (repeat (first | refine st_q rfl rfl rfl ?_ | (refine Z8y ?_; (repeat (first | refine Z9v rfl ?_ | refine Z9w ?_)); refine Z9u ?_) | refine awp_seq ?_ | refine Zbm (fun _ _ => rfl) ?_ | refine Zbn (fun _ _ => rfl) ?_ | refine Kc2 rfl ?_))
      (refine Z8d ?_; exact Kar rfl ⟨(by simp [Z134, q2, Z8m]), rfl⟩)
    · (rw [decide_eq_false (p := (vks.length : Int) = 1) (by omega)])
      (repeat (first | refine st_q rfl rfl rfl ?_ | (refine Z8y ?_; (repeat (first | refine Z9v rfl ?_ | refine Z9w ?_)); refine Z9u ?_) | refine awp_seq ?_ | refine Zbm (fun _ _ => rfl) ?_ | refine Kc1 rfl ?_))
      (refine Z8d ?_; exact Kar rfl ⟨(by simp [Z134, q2, Z8m]), rfl⟩)
  (repeat (first | refine st_q rfl rfl rfl ?_ | (refine Z8y ?_; (repeat (first | refine Z9v rfl ?_ | refine Z9w ?_)); refine Z9u ?_) | refine awp_seq ?_ | refine Zbm (fun _ _ => rfl) ?_ | refine Z8h ?_))
  (rw [decide_eq_false (p := k = 11) (by omega)])
  (repeat (first | refine st_q rfl rfl rfl ?_ | (refine Z8y ?_; (repeat (first | refine Z9v rfl ?_ | refine Z9w ?_)); refine Z9u ?_) | refine awp_seq ?_ | refine Zbm (fun _ _ => rfl) ?_ | refine Zbn (fun _ _ => rfl) ?_ | refine Kc2 rfl ?_))
  (rw [decide_eq_false (p := k = 10) (by omega)])
  (repeat (first | refine st_q rfl rfl rfl ?_ | (refine Z8y ?_; (repeat (first | refine Z9v rfl ?_ | refine Z9w ?_)); refine Z9u ?_) | refine awp_seq ?_ | refine Zbm (fun _ _ => rfl) ?_ | refine Zbn (fun _ _ => rfl) ?_ | refine Kc2 rfl ?_))
  (rw [decide_eq_false (p := k = 12) (by omega)])
  (repeat (first | refine st_q rfl rfl rfl ?_ | (refine Z8y ?_; (repeat (first | refine Z9v rfl ?_ | refine Z9w ?_)); refine Z9u ?_) | refine awp_seq ?_ | refine Zbm (fun _ _ => rfl) ?_ | refine Zbn (fun _ _ => rfl) ?_ | refine Kc2 rfl ?_))
  (rw [decide_eq_false (p := k = 13) (by omega)])
  (repeat (first | refine st_q rfl rfl rfl ?_ | (refine Z8y ?_; (repeat (first | refine Z9v rfl ?_ | refine Z9w ?_)); refine Z9u ?_) | refine awp_seq ?_ | refine Zbm (fun _ _ => rfl) ?_ | refine Zbn (fun _ _ => rfl) ?_ | refine Zbo (fun _ _ => rfl) ?_ | refine Kc2 rfl ?_))
  (refine Z8d ?_; exact Kar rfl ⟨(by simp [Z134, Z8m, k10, k11, k12, k13]), rfl⟩)
end Go.Abs
namespace Go.Abs
open Go Go.Proofs
set_option linter.unusedVariables false
set_option linter.unusedSimpArgs false
set_option maxHeartbeats 4000000
attribute [local irreducible] AWp aops KP
theorem c_kid (t : Ty) (i n : Int) (nu : Bool) (bs : List UInt8) (vks : List Vl) (j : Nat) (hj : j ≤ 9223372036854775807) (hi : t.kind = 13 → 0 ≤ i) (hlt : Zmf t.kind i j < t.kids.length) (σ : Zc) :
    Z1q Try.prog Zfw [encT t, encV (.mk nu i n bs vks), .int .i64 (j : Int)] σ fun r σ' => r = .tup [encT (kidT t i j), .bool true] ∧ σ' = σ := by
  obtain ⟨k, ns, ks, l, p, s⟩ := t
  simp only [Ty.kind, Ty.kids] at hi hlt
  obtain ⟨t', ht'⟩ : ∃ t', ks[Zmf k i j]? = some t' := ⟨_, List.getElem?_eq_getElem hlt⟩
  have hkid : kidT (.mk k ns ks l p s) i j = t' := by simp only [kidT, Ty.kids, Ty.kind, List.getD_eq_getElem?_getD, ht', Option.getD_some]
  have hx := Zls ht'
  rw [hkid, Zlp t'] at *
  simp only [encT, encV]
  refine Z8t rfl Z12k (Nat.le_of_ble_eq_true rfl) ?_
  refine Z9z ?_
  refine Z9j rfl (Kfi rfl) fun b3 hb3 => ?_
  refine Z9j rfl (Kfi rfl) fun b4 hb4 => ?_
  refine Z9k (by simp [Z0.cells, Z0.one]) fun b6 hb6 => ?_
  (repeat (refine st_q rfl rfl rfl ?_))
  (refine Z8y ?_; (repeat (first | refine Z9v rfl ?_ | refine Z9w ?_)); refine Z9u ?_)
  refine Z8a (FSub.refl _) (HSub.swap _ _ _) ?_
  refine Zb3 (d := 4) (cs := [.bool nu, .int .i64 i, .int .i64 n, .slc 1 (bytes bs) false, .slc 5 (Zm5 vks) false]) rfl ?_
  refine Z8a (FSub.refl _) (HSub.swap _ _ _) ?_
  refine Zb3 (d := 3) (cs := [.int .i64 k, .slc 1 (ns.map .str) false, .slc 6 (Zln ks) false, .int .i64 l, .int .i64 p, .int .i64 s]) rfl ?_
  (refine Z9y (keep := [2, 3, 4, 6]) ?_; ((repeat (first | refine Z9v rfl ?_ | refine Z9w ?_)); refine Z9u ?_))
  have fin : ∀ (a : Nat), a = Zmf k i j → AWp Try.prog Z11d.n (Z11d.code.snd 2) (ARet Z11d.res fun r σ' => r = .tup [.agg (Zlo t'), .bool true] ∧ σ' = σ)
      (fset 2 (some (.int .i64 (a : Int))) (fset 3 (some (.iptr [.int .i64 k, .slc 1 (ns.map .str) false, .slc 6 (Zln ks) false, .int .i64 l, .int .i64 p, .int .i64 s])) (fset 6 (some (.ptr b6 0 0)) Z27)))
      ((b6, .cells 6 [.agg [.int .i64 0, .slc 0 [] true, .slc 0 [] true, .int .i64 0, .int .i64 0, .int .i64 0]]) :: σ) := by
    rintro a rfl
    (repeat (first | refine st_q rfl rfl rfl ?_ | (refine Z8y ?_; (repeat (first | refine Z9v rfl ?_ | refine Z9w ?_)); refine Z9u ?_) | refine awp_seq ?_ | refine Zbm (fun _ _ => rfl) ?_))
    rw [Zlr]
    (rw [decide_eq_false (p := (ks.length : Int) ≤ ((Zmf k i j : Nat) : Int)) (by omega)])
    (repeat (first | refine st_q rfl rfl rfl ?_ | refine awp_seq ?_ | refine Zbm (fun _ _ => rfl) ?_ | refine Zbn (fun _ _ => rfl) ?_ | refine Kc2 rfl ?_))
    refine Z93 rfl (by omega) (by rw [Int.toNat_natCast]; exact hx) ?_
    (repeat refine st_q rfl rfl rfl ?_)
    (first | refine Z9a rfl Z8z rfl (by decide) (Kfi rfl) (fun h => by cases h) Z9b ?_ | refine Z8v rfl (Z9a rfl Z8z rfl (by decide) (Kfi rfl) (fun h => by cases h) Z9b ?_))
    (repeat (first | refine st_q rfl rfl rfl ?_ | (refine Z8y ?_; (repeat (first | refine Z9v rfl ?_ | refine Z9w ?_)); refine Z9u ?_)))
    refine Z8d ?_
    exact ares (vs := [.agg (Zlo t'), .bool true]) (Zc2 (Zc3 rfl Z8z rfl) (Zc2 rfl rfl)) (HSub.tail _ _) ⟨rfl, rfl⟩
  refine awp_seq ?_
  refine awp_seq ?_
  refine Zbm (fun _ _ => rfl) ?_
  (repeat (refine st_q rfl rfl rfl ?_))
  (refine Z8y ?_; (repeat (first | refine Z9v rfl ?_ | refine Z9w ?_)); refine Z9u ?_)
  refine Z8h ?_
  refine awp_seq ?_
  refine Zbm (fun _ _ => rfl) ?_
  (repeat (refine st_q rfl rfl rfl ?_))
  (refine Z8y ?_; (repeat (first | refine Z9v rfl ?_ | refine Z9w ?_)); refine Z9u ?_)
  refine Za3 (p := k = 10) rfl (fun k10 => ?_) (fun k10 => ?_)
  · refine Zbm (fun _ _ => rfl) ?_
    (repeat (refine st_q rfl rfl rfl ?_))
    (refine Z8y ?_; (repeat (first | refine Z9v rfl ?_ | refine Z9w ?_)); refine Z9u ?_)
    exact fin 0 (by simp [Zmf, k10])
  refine awp_seq ?_
  refine Zbm (fun _ _ => rfl) ?_
  (repeat (refine st_q rfl rfl rfl ?_))
  (refine Z8y ?_; (repeat (first | refine Z9v rfl ?_ | refine Z9w ?_)); refine Z9u ?_)
  refine Za3 (p := k = 11) rfl (fun k11 => ?_) (fun k11 => ?_)
  · refine Zbm (fun _ _ => rfl) ?_
    (repeat (refine st_q rfl rfl rfl ?_))
    rw [show (j : Int).tmod 2 = ((j % 2 : Nat) : Int) by rw [Int.tmod_eq_emod_of_nonneg (by omega)]; omega]
    (repeat (refine st_q rfl rfl rfl ?_))
    (refine Z8y ?_; (repeat (first | refine Z9v rfl ?_ | refine Z9w ?_)); refine Z9u ?_)
    exact fin (j % 2) (by simp [Zmf, k11])
  refine awp_seq ?_
  refine Zbm (fun _ _ => rfl) ?_
  (repeat (refine st_q rfl rfl rfl ?_))
  (refine Z8y ?_; (repeat (first | refine Z9v rfl ?_ | refine Z9w ?_)); refine Z9u ?_)
  refine Za3 (p := k = 13) rfl (fun k13 => ?_) (fun k13 => ?_)
  · have h0 := hi k13
    have hki : Zmf k i j = i.toNat := by simp [Zmf, k13]
    rw [hki] at hlt
    refine awp_seq ?_
    refine awp_seq ?_
    refine Zbm (fun _ _ => rfl) ?_
    (repeat (refine st_q rfl rfl rfl ?_))
    (rw [decide_eq_false (p := i < 0) (by omega)])
    (repeat (first | refine st_q rfl rfl rfl ?_ | refine Z8v rfl (st_q rfl rfl rfl ?_)))
    rw [Zlr]
    (rw [decide_eq_false (p := (ks.length : Int) ≤ i) (by omega)])
    skip
    (refine Z8y ?_; (repeat (first | refine Z9v rfl ?_ | refine Z9w ?_)); refine Z9u ?_)
    refine Kc2 rfl ?_
    refine Zbn (fun _ _ => rfl) ?_
    (refine Z9y (keep := [3, 4, 6]) ?_; ((repeat (first | refine Z9v rfl ?_ | refine Z9w ?_)); refine Z9u ?_))
    refine Zbm (fun _ _ => rfl) ?_
    (repeat (refine st_q rfl rfl rfl ?_))
    rw [show i = ((i.toNat : Nat) : Int) by omega]
    (refine Z8y ?_; (repeat (first | refine Z9v rfl ?_ | refine Z9w ?_)); refine Z9u ?_)
    exact fin i.toNat hki.symm
  · refine Zbn (fun _ _ => rfl) ?_
    (refine Z9y (keep := [2, 3, 6]) ?_; ((repeat (first | refine Z9v rfl ?_ | refine Z9w ?_)); refine Z9u ?_))
    exact fin j (by simp [Zmf, k10, k11, k13])
theorem Z136 {k : Int} (h : Zmb k = true) : k = 7 ∨ k = 8 ∨ k = 16 ∨ k = 17 := by
  simp only [Zmb, Bool.or_eq_true, decide_eq_true_eq] at h
  omega
theorem Z137 (t : Ty) (i n : Int) (b : List UInt8) (m : Nat) : ownV t i n b m =
    if Z131 t.kind false i n b m = false ∨ numI t.kind t.kids.length t.prec i n = false then 1 else if longF t.kind t.len b = true then 4 else Z134 t.kind m t.kids.length := by
  have hc : Z134 t.kind m t.kids.length = (if t.kind = 10 then (if 16384 < m then 4 else 0)
      else if t.kind = 11 then (if m % 2 ≠ 0 then 1 else if 32768 < m then 4 else 0)
      else if t.kind = 12 then (if m ≠ t.kids.length then 1 else 0)
      else if t.kind = 13 then (if m ≠ 1 then 1 else 0)
      else 0) := by
    unfold Z134
    by_cases h11 : t.kind = 11
    · have h10 : ¬ t.kind = 10 := by omega
      rw [if_pos h11, if_neg h10, if_pos h11]
      by_cases hm : m % 2 ≠ 0
      · rw [if_pos hm, if_pos hm]
      · rw [if_neg hm, if_neg hm]
        by_cases h16 : 16384 < m / 2
        · rw [if_pos h16, if_pos (by omega)]
        · rw [if_neg h16, if_neg (by omega)]
    · rw [if_neg h11]
      by_cases h10 : t.kind = 10
      · rw [if_pos h10, if_pos h10]
      · rw [if_neg h10, if_neg h10, if_neg h11]
  have h1 : (Zme t.kind t.kids.length t.prec i n = false ∨ (b ≠ [] ∧ Zmb t.kind = false) ∨ (m ≠ 0 ∧ Zlt t.kind = true)) ↔ (Z131 t.kind false i n b m = false ∨ numI t.kind t.kids.length t.prec i n = false) := by
    rw [Z12z]
    simp only [Z131, Bool.false_eq_true, if_false, decide_eq_false_iff_not]
    cases hx : numI t.kind t.kids.length t.prec i n <;> cases Zmb t.kind <;> cases Zlt t.kind <;> by_cases hn : n = 0 <;> by_cases h9 : t.kind = 9 <;> by_cases hb : b = [] <;> by_cases hm : m = 0 <;> simp_all
  unfold ownV
  by_cases hA : Z131 t.kind false i n b m = false ∨ numI t.kind t.kids.length t.prec i n = false
  · rw [if_pos hA, if_pos (h1.2 hA)]
  · rw [if_neg hA, if_neg (fun h => hA (h1.1 h)), hc]
    have hB : b = [] ∨ Zmb t.kind = true := by
      simp only [not_or, Bool.not_eq_false] at hA
      have := hA.1
      simp only [Z131, Bool.false_eq_true, if_false, decide_eq_true_eq] at this
      exact this.2.1
    have h2 : (4096 < b.length ∨ ((t.kind = 16 ∨ t.kind = 17) ∧ t.len < (Zmc b : Int))) ↔ longF t.kind t.len b = true := by
      simp only [longF, decide_eq_true_eq]
      rcases hB with hb | hb
      · subst hb
        simp
      · have := Z136 hb
        constructor
        · rintro (h | h)
          · exact .inr ⟨this, h⟩
          · exact .inl h
        · rintro (h | h)
          · exact .inr h
          · exact .inl h.2
    by_cases hL : longF t.kind t.len b = true
    · rw [if_pos hL, if_pos (h2.2 hL)]
    · rw [if_neg hL, if_neg (fun h => hL (h2.1 h))]
theorem Z138 : ∀ (v : Vl), v.Fit → ∀ (t : Ty), t.Ok → ∀ σ, Z1q Try.prog Zet [encT t, encV v] σ fun r σ' => r = .int .i64 (vchk t v : Int) ∧ σ' = σ := by
  refine Vl.ind fun nu i n bs vks ih hfit t hok σ => ?_
  cases hfit with
  | mk hi hbl hkl hkids =>
  have hka := fun (j : Nat) (hj : j < vks.length) (ho : ownV t i n bs vks.length = 0) => Ztv hok ho hj
  have hko := fun (j : Nat) (hlt : Zmf t.kind i j < t.kids.length) => Ztw (i := i) (j := j) hok hlt
  have hkid := fun (j : Nat) (hj : j ≤ 9223372036854775807) => c_kid t i n nu bs vks j hj
  have hNa := Z132 t (.mk nu i n bs vks)
  have hNu := Z130 t (.mk nu i n bs vks) hi
  have hLo := Z133 t (.mk nu i n bs vks) hbl
  have hCo := Z135 t (.mk nu i n bs vks) hkl
  have hown := Z137 t i n bs vks.length
  have hvL := Ztx t i vks
  generalize hX : vchk t (.mk nu i n bs vks) = X
  have hX' := hX
  rw [vchk] at hX'
  simp only [Vl.null, Vl.i, Vl.n, Vl.b, Vl.kids] at hNa hNu hLo hCo hkl hkids
  have hkl : vks.length ≤ 9223372036854775807 := hkl
  simp only [Zlp, Zm7] at *
  refine Z8t rfl Z12f (Nat.le_of_ble_eq_true rfl) ?_
  refine Z9z ?_
  refine Z9j rfl (Kfi rfl) fun b1 hb1 => ?_
  refine Z9j rfl (Kfi rfl) fun b2 hb2 => ?_
  (repeat (refine st_q rfl rfl rfl ?_))
  (refine Z8y ?_; (repeat (first | refine Z9v rfl ?_ | refine Z9w ?_)); refine Z9u ?_)
  refine Zb3 (d := 3) (cs := Zm6 (.mk nu i n bs vks)) rfl ?_
  refine Zb3 (d := 2) (cs := Zlo t) rfl ?_
  (repeat (first | refine st_q rfl rfl rfl ?_ | refine awp_seq ?_ | refine Zbm (fun _ _ => rfl) ?_ | refine Z8h ?_))
  (first | refine Z9t rfl (hNa _) ?_ | refine Z8v rfl (Z9t rfl (hNa _) ?_) | refine Zbw rfl hNa ?_ | refine Z8v rfl (Zbw rfl hNa ?_))
  cases nu with
  | true =>
    rw [if_pos rfl] at hX'
    cases hq : Z131 t.kind true i n bs vks.length with
    | false =>
      (repeat (first | refine st_q rfl rfl rfl ?_ | refine Z8w rfl ?_ | refine Z8x rfl ?_ | (refine Z8y ?_; (repeat (first | refine Z9v rfl ?_ | refine Z9w ?_)); refine Z9u ?_) | refine awp_seq ?_ | refine Zbm (fun _ _ => rfl) ?_ | refine Kc1 rfl ?_))
      refine Z8d ?_
      refine ares rfl (HSub.refl _) ⟨?_, rfl⟩
      simp only [Z131, if_true, decide_eq_false_iff_not] at hq
      rw [← hX', if_pos (by
        by_cases a1 : i = 0
        · by_cases a2 : n = 0
          · by_cases a3 : bs = []
            · exact .inr (.inr (.inr fun a4 => hq ⟨a1, a2, a3, a4⟩))
            · exact .inr (.inr (.inl a3))
          · exact .inr (.inl a2)
        · exact .inl a1)]
      rfl
    | true =>
      (repeat (first | refine st_q rfl rfl rfl ?_ | refine Z8v rfl (st_q rfl rfl rfl ?_) | refine Z8w rfl ?_ | (refine Z8y ?_; (repeat (first | refine Z9v rfl ?_ | refine Z9w ?_)); refine Z9u ?_) | refine awp_seq ?_ | refine Zbm (fun _ _ => rfl) ?_ | refine Kc1 rfl ?_ | refine Kc2 rfl ?_))
      refine Z8d ?_
      refine ares rfl (HSub.refl _) ⟨?_, rfl⟩
      simp only [Z131, if_true, decide_eq_true_eq] at hq
      rw [← hX', if_neg (fun h => h.elim (fun h => h hq.1) fun h => h.elim (fun h => h hq.2.1) fun h => h.elim (fun h => h hq.2.2.1) fun h => h hq.2.2.2)]
      rfl
  | false =>
    rw [if_neg (by simp)] at hX'
    cases hq : Z131 t.kind false i n bs vks.length with
    | false =>
      rw [hq, if_pos (.inl rfl)] at hown
      rw [hown, if_pos (by decide)] at hX'
      (repeat (first | refine st_q rfl rfl rfl ?_ | refine Z8w rfl ?_ | refine Z8x rfl ?_ | (refine Z8y ?_; (repeat (first | refine Z9v rfl ?_ | refine Z9w ?_)); refine Z9u ?_) | refine awp_seq ?_ | refine Zbm (fun _ _ => rfl) ?_ | refine Kc1 rfl ?_))
      (refine Z8d ?_; exact Kar rfl ⟨(by rw [← hX']; rfl), rfl⟩)
    | true =>
    (repeat (first | refine st_q rfl rfl rfl ?_ | refine Z8v rfl (st_q rfl rfl rfl ?_)))
    (first | refine Z9t rfl (hNu _) ?_ | refine Z8v rfl (Z9t rfl (hNu _) ?_) | refine Zbw rfl hNu ?_ | refine Z8v rfl (Zbw rfl hNu ?_))
    cases hq2 : numI t.kind t.kids.length t.prec i n with
    | false =>
      rw [hq2, if_pos (.inr rfl)] at hown
      rw [hown, if_pos (by decide)] at hX'
      (repeat (first | refine st_q rfl rfl rfl ?_ | refine Z8v rfl (st_q rfl rfl rfl ?_) | (refine Z8y ?_; (repeat (first | refine Z9v rfl ?_ | refine Z9w ?_)); refine Z9u ?_) | refine awp_seq ?_ | refine Zbm (fun _ _ => rfl) ?_ | refine Kc1 rfl ?_))
      (refine Z8d ?_; exact Kar rfl ⟨(by rw [← hX']; rfl), rfl⟩)
    | true =>
    rw [hq, hq2, if_neg (by simp)] at hown
    (repeat (first | refine st_q rfl rfl rfl ?_ | refine Z8v rfl (st_q rfl rfl rfl ?_) | (refine Z8y ?_; (repeat (first | refine Z9v rfl ?_ | refine Z9w ?_)); refine Z9u ?_) | refine awp_seq ?_ | refine Zbm (fun _ _ => rfl) ?_ | refine Kc2 rfl ?_))
    (first | refine Z9t rfl (hLo _) ?_ | refine Z8v rfl (Z9t rfl (hLo _) ?_) | refine Zbw rfl hLo ?_ | refine Z8v rfl (Zbw rfl hLo ?_))
    cases hq3 : longF t.kind t.len bs with
    | true =>
      rw [hq3, if_pos rfl] at hown
      rw [hown, if_pos (by decide)] at hX'
      (repeat (first | refine st_q rfl rfl rfl ?_ | (refine Z8y ?_; (repeat (first | refine Z9v rfl ?_ | refine Z9w ?_)); refine Z9u ?_) | refine awp_seq ?_ | refine Zbm (fun _ _ => rfl) ?_ | refine Kc1 rfl ?_))
      (refine Z8d ?_; exact Kar rfl ⟨(by rw [← hX']; rfl), rfl⟩)
    | false =>
    rw [hq3, if_neg (by simp)] at hown
    rw [← hown] at hCo
    (repeat (first | refine st_q rfl rfl rfl ?_ | (refine Z8y ?_; (repeat (first | refine Z9v rfl ?_ | refine Z9w ?_)); refine Z9u ?_) | refine awp_seq ?_ | refine Zbm (fun _ _ => rfl) ?_ | refine Zbn (fun _ _ => rfl) ?_ | refine Kc2 rfl ?_))
    (first | refine Z9t rfl (hCo _) ?_ | refine Z8v rfl (Z9t rfl (hCo _) ?_) | refine Zbw rfl hCo ?_ | refine Z8v rfl (Zbw rfl hCo ?_))
    (repeat (first | refine st_q rfl rfl rfl ?_ | (refine Z8y ?_; (repeat (first | refine Z9v rfl ?_ | refine Z9w ?_)); refine Z9u ?_) | refine awp_seq ?_ | refine Zbm (fun _ _ => rfl) ?_))
    by_cases hq4 : ownV t i n bs vks.length = 0
    rotate_left
    · (rw [decide_eq_true (p := (ownV t i n bs vks.length : Int) ≠ 0) (by omega)])
      rw [if_pos hq4] at hX'
      (repeat (first | refine st_q rfl rfl rfl ?_ | (refine Z8y ?_; (repeat (first | refine Z9v rfl ?_ | refine Z9w ?_)); refine Z9u ?_) | refine awp_seq ?_ | refine Zbm (fun _ _ => rfl) ?_ | refine Kc1 rfl ?_))
      (refine Z8d ?_; exact Kar rfl ⟨(by rw [← hX']; rfl), rfl⟩)
    (rw [decide_eq_false (p := (ownV t i n bs vks.length : Int) ≠ 0) (by omega)])
    rw [if_neg (by simp [hq4])] at hX'
    (repeat (first | refine st_q rfl rfl rfl ?_ | (refine Z8y ?_; (repeat (first | refine Z9v rfl ?_ | refine Z9w ?_)); refine Z9u ?_) | refine awp_seq ?_ | refine Zbm (fun _ _ => rfl) ?_ | refine Z8h ?_ | refine Zbn (fun _ _ => rfl) ?_ | refine Kc2 rfl ?_))
    rw [Zm9]
    obtain ⟨I, hI⟩ : ∃ I : Nat → Z26 → Zc → Prop, I = fun m F σ' => ∃ (j : Nat), F = fset 2 (some (.iptr (Zlo t))) (fset 3 (some (.iptr (Zm6 (.mk false i n bs vks)))) (fset 41 (some (.slc 5 (Zm5 vks) false)) (fset 42 (some (.int .i64 (vks.length : Int))) (fset 43 (some (.int .i64 (j : Int))) Z27)))) ∧
      σ = σ' ∧ j ≤ vks.length ∧ Zmg t i j (vks.drop j) = X ∧ m = vks.length - j := ⟨_, rfl⟩
    refine Zaa I (n := vks.length) (by rw [hI]; exact ⟨0, rfl, rfl, by omega, hX', rfl⟩) ?_
    intro m F σ' hIm
    rw [hI] at hIm
    obtain ⟨j, rfl, rfl, hj, hXj, rfl⟩ := hIm
    (repeat (first | refine st_q rfl rfl rfl ?_ | (refine Z8y ?_; (repeat (first | refine Z9v rfl ?_ | refine Z9w ?_)); refine Z9u ?_) | refine awp_seq ?_ | refine Zbm (fun _ _ => rfl) ?_))
    refine Za3 (p := (j : Int) < (vks.length : Int)) rfl (fun h5 => ?_) (fun h5 => ?_)
    · have hjl : j < vks.length := by omega
      obtain ⟨hlt, hi0⟩ := hka j hjl hq4
      have hg : (Zm5 vks)[((j : Nat) : Int).toNat]? = some (.agg (Zm6 vks[j])) := by rw [← Zm7]; exact Zma (by rw [Int.toNat_natCast, List.getElem?_eq_getElem hjl])
      have hK := hkid j (by omega) hi0 hlt
      have hcv := ih vks[j] (List.getElem_mem hjl) (hkids _ (List.getElem_mem hjl)) (kidT t i j) (hko j hlt)
      rw [hvL j vks[j] (List.getElem?_eq_getElem hjl)] at hXj
      generalize vks[j] = w at hg hcv hXj
      generalize kidT t i j = u at hK hcv hXj
      have cont : ∀ (R : Z87), (∀ F σ', R .normal F σ' = AWp Try.prog Zzi.n (.region Zzf [2, 3, 41, 42, 43]) (Za9 I (vks.length - j) (Z8g 1 (Z8e Try.prog Zzi.n (Zzi.code.snd 4) (ARet Zzi.res fun r σ' => r = .int .i64 (X : Int) ∧ σ' = σ)))) F σ') →
          (∀ F σ', R .ret F σ' = ARet Zzi.res (fun r σ' => r = .int .i64 (X : Int) ∧ σ' = σ) .ret F σ') → ¬ (t.kind = 11 ∧ j % 2 = 0 ∧ w.null = true) →
          AWp Try.prog Zzi.n (.seq (.region Zzc [2, 3, 10, 41, 42, 43]) (.seq (.region Zzd [2, 3, 10, 41, 42, 43, 75]) (.cond (.t 75) (.seq (.region Zze [4]) .ret) .skip))) R
            (fset 2 (some (.iptr (Zlo t))) (fset 3 (some (.iptr (Zm6 (.mk false i n bs vks)))) (fset 7 (some (.iptr (Zm6 w))) (fset 8 (some (.iptr (Zlo u))) (fset 41 (some (.slc 5 (Zm5 vks) false)) (fset 42 (some (.int .i64 (vks.length : Int))) (fset 43 (some (.int .i64 (j : Int))) Z27))))))) σ := by
        intro R hR hRr hno
        rw [if_neg hno] at hXj
        refine awp_seq ?_
        refine Zbm (fun _ _ => rfl) ?_
        (repeat (refine st_q rfl rfl rfl ?_))
        (first | refine Z9t rfl (hcv _) ?_ | refine Z8v rfl (Z9t rfl (hcv _) ?_) | refine Zbw rfl hcv ?_ | refine Z8v rfl (Zbw rfl hcv ?_))
        (repeat (refine st_q rfl rfl rfl ?_))
        (refine Z8y ?_; (repeat (first | refine Z9v rfl ?_ | refine Z9w ?_)); refine Z9u ?_)
        refine awp_seq ?_
        refine Zbm (fun _ _ => rfl) ?_
        (repeat (refine st_q rfl rfl rfl ?_))
        (refine Z8y ?_; (repeat (first | refine Z9v rfl ?_ | refine Z9w ?_)); refine Z9u ?_)
        refine Za3 (p := (vchk u w : Int) ≠ 0) rfl (fun h6 => ?_) (fun h6 => ?_)
        · rw [if_pos (by omega)] at hXj
          refine awp_seq ?_
          refine Zbm (fun _ _ => rfl) ?_
          (repeat (refine st_q rfl rfl rfl ?_))
          (refine Z8y ?_; (repeat (first | refine Z9v rfl ?_ | refine Z9w ?_)); refine Z9u ?_)
          refine Z8d ?_
          rw [hRr]
          exact Kar rfl ⟨by rw [← hXj]; rfl, rfl⟩
        · rw [if_neg (by omega)] at hXj
          refine Zbn hR ?_
          (refine Z9y (keep := [2, 3, 41, 42, 43]) ?_; ((repeat (first | refine Z9v rfl ?_ | refine Z9w ?_)); refine Z9u ?_))
          refine Zbp ?_
          (repeat (refine st_q rfl rfl rfl ?_))
          rw [Kwr j (by omega)]
          (repeat (refine st_q rfl rfl rfl ?_))
          (refine Z8y ?_; (repeat (first | refine Z9v rfl ?_ | refine Z9w ?_)); refine Z9u ?_)
          exact ⟨_, vks.length - (j + 1), HSub.refl _, by rw [hI]; exact ⟨j + 1, rfl, rfl, by omega, hXj, rfl⟩, by omega⟩
      (repeat (first | refine st_q rfl rfl rfl ?_ | refine awp_seq ?_ | refine Zbm (fun _ _ => rfl) ?_ | refine Z8h ?_ | refine Zbn (fun _ _ => rfl) ?_))
      refine Z93 rfl (by omega) hg ?_
      (repeat (refine st_q rfl rfl rfl ?_))
      refine Z9k (by simp [Z0.cells, Z0.one]) fun b7 hb7 => ?_
      (repeat (refine st_q rfl rfl rfl ?_))
      (first | refine Z9a rfl Z8z rfl (by decide) (Kfi rfl) (fun h => by cases h) Z9b ?_ | refine Z8v rfl (Z9a rfl Z8z rfl (by decide) (Kfi rfl) (fun h => by cases h) Z9b ?_))
      (refine Z8y ?_; (repeat (first | refine Z9v rfl ?_ | refine Z9w ?_)); refine Z9u ?_)
      refine Zb3 (d := 7) (cs := Zm6 w) rfl ?_
      (repeat (first | refine st_q rfl rfl rfl ?_ | refine awp_seq ?_ | refine Zbm (fun _ _ => rfl) ?_))
      (first | refine Z9t rfl (hK _) ?_ | refine Z8v rfl (Z9t rfl (hK _) ?_) | refine Zbw rfl hK ?_ | refine Z8v rfl (Zbw rfl hK ?_))
      (repeat (refine st_q rfl rfl rfl ?_))
      refine Z9k (by simp [Z0.cells, Z0.one]) fun b8 hb8 => ?_
      (first | refine Z9a rfl Z8z rfl (by decide) (Kfi rfl) (fun h => by cases h) Z9b ?_ | refine Z8v rfl (Z9a rfl Z8z rfl (by decide) (Kfi rfl) (fun h => by cases h) Z9b ?_))
      (repeat (refine st_q rfl rfl rfl ?_))
      (refine Z8y ?_; (repeat (first | refine Z9v rfl ?_ | refine Z9w ?_)); refine Z9u ?_)
      refine Zb3 (d := 8) (cs := Zlo u) rfl ?_
      refine awp_seq ?_
      refine awp_seq ?_
      refine Zbm (fun _ _ => rfl) ?_
      (repeat (first | refine st_q rfl rfl rfl ?_ | refine Z8v rfl (st_q rfl rfl rfl ?_)))
      by_cases k11 : t.kind = 11
      · (rw [decide_eq_true (p := t.kind = 11) (by omega)])
        (repeat refine Z8v rfl (st_q rfl rfl rfl ?_))
        rw [show (j : Int).tmod 2 = ((j % 2 : Nat) : Int) by rw [Int.tmod_eq_emod_of_nonneg (by omega)]; omega]
        by_cases hp : j % 2 = 0
        · (rw [decide_eq_true (p := ((j % 2 : Nat) : Int) = 0) (by omega)])
          (repeat (first | refine st_q rfl rfl rfl ?_ | refine Z8v rfl (st_q rfl rfl rfl ?_)))
          cases hw : w.null with
          | true =>
            rw [if_pos ⟨k11, hp, hw⟩] at hXj
            skip
            (refine Z8y ?_; (repeat (first | refine Z9v rfl ?_ | refine Z9w ?_)); refine Z9u ?_)
            refine Kc1 rfl ?_
            (repeat (first | refine st_q rfl rfl rfl ?_ | (refine Z8y ?_; (repeat (first | refine Z9v rfl ?_ | refine Z9w ?_)); refine Z9u ?_) | refine awp_seq ?_ | refine Zbm (fun _ _ => rfl) ?_))
            (refine Z8d ?_; exact Kar rfl ⟨(by rw [← hXj]; rfl), rfl⟩)
          | false =>
            skip
            (refine Z8y ?_; (repeat (first | refine Z9v rfl ?_ | refine Z9w ?_)); refine Z9u ?_)
            refine Kc2 rfl ?_
            refine Zbn (fun _ _ => rfl) ?_
            (refine Z9y (keep := [2, 3, 7, 8, 41, 42, 43]) ?_; ((repeat (first | refine Z9v rfl ?_ | refine Z9w ?_)); refine Z9u ?_))
            exact cont _ (by intro _ _; rfl) (by intro _ _; rfl) (by simp [hw])
        · (rw [decide_eq_false (p := ((j % 2 : Nat) : Int) = 0) (by omega)])
          (repeat (first | refine st_q rfl rfl rfl ?_ | refine Z8v rfl (st_q rfl rfl rfl ?_) | refine Z8w rfl ?_))
          (refine Z8y ?_; (repeat (first | refine Z9v rfl ?_ | refine Z9w ?_)); refine Z9u ?_)
          refine Kc2 rfl ?_
          refine Zbn (fun _ _ => rfl) ?_
          (refine Z9y (keep := [2, 3, 7, 8, 41, 42, 43]) ?_; ((repeat (first | refine Z9v rfl ?_ | refine Z9w ?_)); refine Z9u ?_))
          exact cont _ (by intro _ _; rfl) (by intro _ _; rfl) (by simp [hp])
      · (rw [decide_eq_false (p := t.kind = 11) (by omega)])
        (repeat (first | refine st_q rfl rfl rfl ?_ | refine Z8v rfl (st_q rfl rfl rfl ?_) | refine Z8w rfl ?_))
        (refine Z8y ?_; (repeat (first | refine Z9v rfl ?_ | refine Z9w ?_)); refine Z9u ?_)
        refine Kc2 rfl ?_
        refine Zbn (fun _ _ => rfl) ?_
        (refine Z9y (keep := [2, 3, 7, 8, 41, 42, 43]) ?_; ((repeat (first | refine Z9v rfl ?_ | refine Z9w ?_)); refine Z9u ?_))
        exact cont _ (by intro _ _; rfl) (by intro _ _; rfl) (by simp [k11])
    · rw [List.drop_of_length_le (by omega), Zmg] at hXj
      (repeat (first | refine st_q rfl rfl rfl ?_ | (refine Z8y ?_; (repeat (first | refine Z9v rfl ?_ | refine Z9w ?_)); refine Z9u ?_) | refine awp_seq ?_ | refine Zbm (fun _ _ => rfl) ?_ | refine Zbo (fun _ _ => rfl) ?_))
      (refine Z8d ?_; exact Kar rfl ⟨(by rw [← hXj]; rfl), rfl⟩)
end Go.Abs
namespace Go.Abs
open Go Go.Proofs
set_option linter.unusedVariables false
set_option linter.unusedSimpArgs false
set_option maxHeartbeats 4000000
attribute [local irreducible] AWp aops KP
def Z17z (k op : Int) (v lo hi : Vl) : Bool :=
  if op = 1 then decide ((cmpV k v lo).1 < 0 ∨ (cmpV k v hi).1 > 0) else if op = 2 then decide ((cmpV k v lo).1 = 0 ∧ (cmpV k v hi).1 = 0)
  else if op = 3 then decide ((cmpV k v lo).1 ≤ 0) else if op = 4 then decide ((cmpV k v lo).1 < 0) else if op = 5 then decide ((cmpV k v hi).1 ≥ 0) else decide ((cmpV k v hi).1 > 0)
def GetF (l : List Nd) (col : Int) (row : Vl) : Vl × Bool := if goodF l col = true then (getF l (col.toNat + 1) col row, true) else (vl0, false)
def mayF (l : List Nd) (t : Tm) (ss : List Stt) : Bool :=
  match l[t.col.toNat]?, ss[t.col.toNat]?, ss[0]? with
  | some n, some x, some z =>
    if t.op = 7 then x.null || decide (x.count ≠ z.count) else if x.count = 0 then false else if t.op = 8 then true
    else if x.has = true then !Z17z n.t.kind t.op t.v x.min x.max
    else if n.t.kind = 0 ∧ x.sums = true then !Z17z n.t.kind t.op t.v (.mk false (if x.sum = x.count then 1 else 0) 0 [] []) (.mk false (if x.sum = 0 then 0 else 1) 0 [] [])
    else true
  | _, _, _ => true
end Go.Abs
namespace Go.Abs
open Go Go.Proofs
set_option linter.unusedVariables false
set_option linter.unusedSimpArgs false
set_option maxHeartbeats 4000000
attribute [local irreducible] AWp aops KP
def MayF (l : List Nd) (ss : List Stt) : List Tm → Bool
  | [] => true
  | t :: ts => if goodF l t.col = true ∧ t.col < ss.length ∧ mayF l t ss = false then false else MayF l ss ts
end Go.Abs
namespace Go.Abs
open Go Go.Proofs
set_option linter.unusedVariables false
set_option linter.unusedSimpArgs false
set_option maxHeartbeats 4000000
attribute [local irreducible] AWp aops KP
def Z189 (l : List Nd) (row : Vl) : List Tm → Int → Int
  | [], out => out
  | t :: ts, out =>
    if goodF l t.col = false then 0 else
    if t.op = 7 then (if (getF l (t.col.toNat + 1) t.col row).null = true then Z189 l row ts out else 0)
    else if t.op = 8 then (if (getF l (t.col.toNat + 1) t.col row).null = true then 0 else Z189 l row ts out)
    else if (getF l (t.col.toNat + 1) t.col row).null = true then Z189 l row ts 2
    else match l[t.col.toNat]? with
      | none => 0
      | some n => if Z17x t.op (cmpV n.t.kind (getF l (t.col.toNat + 1) t.col row) t.v).1 = true then Z189 l row ts out else 0
end Go.Abs
namespace Go.Abs
open Go Go.Proofs
set_option linter.unusedVariables false
set_option linter.unusedSimpArgs false
set_option maxHeartbeats 4000000
attribute [local irreducible] AWp aops KP
def okM (l : List Nd) (t : Tm) : Bool :=
  goodF l t.col && (if t.op = 7 ∨ t.op = 8 then Z17r t.v else if 1 ≤ t.op ∧ t.op ≤ 6 then !t.v.null && (match l[t.col.toNat]? with | none => false | some n => decide (vchk (tyN n) t.v = 0)) else false)
def Z18b (l : List Nd) (p : List Tm) : Nat := if 16 < p.length then 1 else if p.all (okM l) = true then 0 else 1
end Go.Abs
namespace Go.Abs
open Go Go.Proofs
set_option linter.unusedVariables false
set_option linter.unusedSimpArgs false
theorem Z1ye {n : Nd} (h : n.t.Ok) (hl : Zlt n.t.kind = true) : (tyN n).Ok := by
  have hk := h.kinds.1
  cases h with
  | mk h1 _ =>
    obtain ⟨t, kids, parent, deep⟩ := n
    obtain ⟨k, ns, ks, l, p, s⟩ := t
    simp only [Ty.kind, Ty.names, Ty.kids, Ty.len, Ty.prec, Ty.scale] at *
    have h0 : ns = [] ∧ ks = [] := by
      have hk4 : ¬ k = 10 ∧ ¬ k = 11 ∧ ¬ k = 12 ∧ ¬ k = 13 := by
        simp only [Zlt, Bool.not_eq_true', Bool.or_eq_false_iff, decide_eq_false_iff_not] at hl
        omega
      rw [Zlv, if_neg hk4.1, if_neg hk4.2.1, if_neg hk4.2.2.1, if_neg hk4.2.2.2] at hk
      have hr : Zlw k ns ks.length l p s = true := by
        cases hx : Zlw k ns ks.length l p s with
        | true => rfl
        | false =>
          rw [ownF] at h1
          split at h1
          · cases h1
          · rw [if_pos (.inr (.inr hx))] at h1; cases h1
      rw [Zlw] at hr
      simp only [Bool.and_eq_true, Bool.or_eq_true, decide_eq_true_eq] at hr
      refine ⟨?_, ?_⟩
      · rcases hr.1.1.1.2 with h | h
        · exact absurd h hk4.2.2.1
        · simpa using h
      · simpa using hk
    obtain ⟨rfl, rfl⟩ := h0
    exact .mk h1 (by simp [tyN, Ty.kids])
end Go.Abs
namespace Go.Abs
open Go Go.Proofs
set_option linter.unusedVariables false
set_option linter.unusedSimpArgs false
set_option maxHeartbeats 4000000
theorem Z1yf {P : Program} {l : List Z2a} {F : Z26} {σ τ : Zc} {Q : Z26 → Zc → Prop} {d : Nat} {args : List Zw} {f : FuncId} {first caps ws : List Z0} {v : Z0} (h1 : evs F args = some (.fn f first caps :: ws)) (hg : Z1z P f = true)
    (hc : Z1q P f (first ++ ws ++ caps) σ fun r σ' => r = v ∧ σ' = τ) (h : aops P l (fset d (some v) F) τ Q) : aops P (⟨some d, .callv, args, none⟩ :: l) F σ Q := by
  refine ⟨_, h1, hg, ⟨v, τ, h⟩, hc.mono fun r σ' ⟨e1, e2⟩ => ?_⟩
  subst e1 e2
  exact h
theorem Z1yg {P : Program} {N : Nat} {a : Z2b} {Q : Z87} {F : Z26} {b sz d : Nat} {x : Z0} {τ : Zc} (hF : F d = some (.ptr b 0 0)) (h : AWp P N a Q (fset d (some (.iptr x.cells)) F) τ) : AWp P N a Q F ((b, .cells sz [x]) :: τ) := by
  refine awp_vs (fun K w tmps hr hfr => ?_) h
  have h1 := hfr.at_ d _ hF
  have hmem : (b, Zb.cells sz [x]) ∈ (b, Zb.cells sz [x]) :: τ := by simp
  have hown := hr.own b _ hmem
  unfold VR at h1
  generalize hv : tmps.getD d undef = v at h1
  cases h1 with
  | @ptr _ _ _ cb sz' pcap _ _ hl r =>
    obtain rfl : sz' = sz := by
      rcases hown.2 with ⟨p, k1, _⟩ | ⟨cb', p, cs', ty, k1, _⟩ <;> rw [hl] at k1 <;> simp at k1
      exact k1.2.1
    obtain ⟨vs0, g1, g2, g3⟩ := hr.freeze hmem hl
    rw [Z9h] at g3
    refine ⟨K.addImm cb vs0, g2, g3, hfr.size, fun i y e => ?_⟩
    simp only [fset] at e
    split at e
    · rename_i hi
      subst hi
      simp only [Option.some.injEq] at e
      subst e
      rw [hv]
      refine Z1.iptr (vs := vs0) rfl ?_ ?_ ?_ .nil
      · exact (hown.1 x (by simp)).2
      · intro j v hj
        simp only [Kr.addImm, Nat.zero_mul, Nat.zero_add, if_true]
        exact hj
      · have := Z1.mono g2 g1
        simpa [Z0.cells] using this
    · exact (hfr.at_ i y e).mono g2
attribute [local irreducible] AWp aops KP
def tyK (n : Nd) : Ty := .mk n.t.kind [] (List.replicate n.kids.length default) n.t.len n.t.prec n.t.scale
theorem Zbx.cellS {b sz s : Nat} {A B p q : List Z0} {v : Z0} {ks : List Z0} {β σ : Zc} (hg : Zbr s v ks β) (he : ∀ y ∈ A ++ .agg (p ++ .slc s ks false :: q) :: B, y.elem sz) :
    Zbx ((b, .cells sz (A ++ .agg (p ++ v :: q) :: B)) :: (β ++ σ)) ((b, .cells sz (A ++ .agg (p ++ .slc s ks false :: q) :: B)) :: σ) := by
  rcases hg with ⟨⟨z, rfl⟩, rfl, rfl⟩ | ⟨bk, rfl, rfl⟩
  · refine Zbx.content (by simp) he ?_
    simp only [Z4, Z3, Z0.cells]
    exact VRle.app (VRle.refl _) (VRle.app (VRle.app (VRle.refl _) (VRle.cons (VRle.nilF _ _) (VRle.refl _))) (VRle.refl _))
  · refine Zbx.inner (bk := bk) (s := s) (ks := ks) (by simp) he fun K hK vs hv => ?_
    simp only [Z4, Z3, Z0.cells] at hv ⊢
    obtain ⟨m1, m2, rfl, g1, g2⟩ := hv.split
    obtain ⟨m3, m4, rfl, g3, g4⟩ := g2.split
    obtain ⟨m5, m6, rfl, g5, g6⟩ := g3.split
    refine g1.append ((g5.append ?_).append g4)
    have h2 : (Z0.arr s bk 0 ks.length :: q) = [Z0.arr s bk 0 ks.length] ++ q := rfl
    rw [h2] at g6
    obtain ⟨m7, m8, rfl, g7, g8⟩ := g6.split
    have h3 : (Z0.slc s ks false :: q) = [Z0.slc s ks false] ++ q := rfl
    rw [h3]
    refine Z1.append ?_ g8
    have hl := g7.length
    match m7, g7, hl with
    | [x], g7, _ => exact hK x g7
theorem Z1yh (n : Nd) (hk : n.kids.length ≤ 1000) (σ : Zc) : Z1q Try.prog Zg2 [encN n] σ fun r σ' => r = encT (tyK n) ∧ σ' = σ := by
  have hkn : (ints n.kids).length = n.kids.length := List.length_map ..
  have hz : VRle [.agg [.int .i64 0, .slc 0 [] true, .slc 0 [] true, .int .i64 0, .int .i64 0, .int .i64 0]] [encT default] := by
    rw [show (default : Ty) = .mk 0 [] [] 0 0 0 from rfl, encT]
    (repeat (first | exact VRle.refl _ | exact Zc5 | refine Zc6 rfl rfl ?_ | refine Zc7 rfl ?_ | refine Zc4 ?_ ?_))
  have hzs : ∀ m, VRle (flat (List.replicate m (.agg [.int .i64 0, .slc 0 [] true, .slc 0 [] true, .int .i64 0, .int .i64 0, .int .i64 0]))) (flat (Zln (List.replicate m default))) := by
    intro m
    induction m with
    | zero => exact VRle.refl _
    | succ m ih =>
      rw [List.replicate_succ, List.replicate_succ, Zln, Z3, Z3]
      refine VRle.app ?_ ih
      rw [show (default : Ty) = .mk 0 [] [] 0 0 0 from rfl, encT]
      simp only [Z0.cells]
      (repeat (first | exact VRle.refl _ | exact Zc5 | refine Zc6 rfl rfl ?_ | refine Zc7 rfl ?_ | refine Zc4 ?_ ?_))
  have hel : ∀ m, ∀ y ∈ Zln (List.replicate m default), y.elem 6 := by
    intro m y hy
    rw [Zlq, List.map_replicate] at hy
    rw [List.eq_of_mem_replicate hy]
    exact Z0.fit_iff.1 rfl
  have hv : VRle [.agg [.int .i64 n.t.kind, .slc 0 [] true, .slc 6 (List.replicate n.kids.length (.agg [.int .i64 0, .slc 0 [] true, .slc 0 [] true, .int .i64 0, .int .i64 0, .int .i64 0])) false, .int .i64 n.t.len, .int .i64 n.t.prec, .int .i64 n.t.scale]] [encT (tyK n)] := by
    rw [tyK, encT]
    refine VRle.agg (by simp [Z0.one]) ?_
    refine VRle.cons (VRle.refl _) ?_
    refine VRle.cons (VRle.nilF _ _) ?_
    refine VRle.cons (VRle.cells (by simp [Zlr]) (hel _) (hzs _)) (VRle.refl _)
  refine Z21.le ?_ hv
  refine Z8t rfl Z1yb (Nat.le_of_ble_eq_true rfl) ?_
  refine Z9z ?_
  refine Z9j rfl (Kfi rfl) fun b1 hb1 => ?_
  refine Z9k (by simp [Z0.cells, Z0.one]) fun b2 hb2 => ?_
  (repeat (refine st_q rfl rfl rfl ?_))
  (refine Z8y ?_; (repeat (first | refine Z9v rfl ?_ | refine Z9w ?_)); refine Z9u ?_)
  refine Z8a (FSub.refl _) (HSub.swap _ _ _) ?_
  refine Zb3 (d := 1) (cs := Zm2 n) rfl ?_
  refine Z9z ?_
  (repeat (refine st_q rfl rfl rfl ?_))
  rw [hkn]
  refine Z9l rfl (Kfi rfl) (by omega) (by omega) (by omega) (by omega) fun b3 hb3 => ?_
  have hne : b3 ≠ b2 := fun e => hb3 (by rw [e]; simp [Zh])
  rw [Int.toNat_natCast]
  (repeat (refine st_q rfl rfl rfl ?_))
  refine Z9a rfl (Z90 hne Z8z) rfl (by decide) (Kfi rfl) (fun h => by cases h) (Z9c hne Z9b) ?_
  (refine Z8y ?_; (repeat (first | refine Z9v rfl ?_ | refine Z9w ?_)); refine Z9u ?_)
  refine Z8a (FSub.refl _) (HSub.swap _ _ _) ?_
  refine Zby (Zbx.cellS (A := []) (B := []) (p := [.int .i64 n.t.kind, .slc 0 [] true]) (q := [.int .i64 n.t.len, .int .i64 n.t.prec, .int .i64 n.t.scale]) (β := [(b3, .cells 6 (List.replicate n.kids.length (.agg [.int .i64 0, .slc 0 [] true, .slc 0 [] true, .int .i64 0, .int .i64 0, .int .i64 0])))])
    (.inr ⟨b3, by rw [List.length_replicate], rfl⟩) (by intro y hy; simp only [List.nil_append, List.mem_singleton] at hy; subst hy; exact Z0.fit_iff.1 rfl)) ?_
  refine Z8d ?_
  exact ares (vs := [.agg [.int .i64 n.t.kind, .slc 0 [] true, .slc 6 (List.replicate n.kids.length (.agg [.int .i64 0, .slc 0 [] true, .slc 0 [] true, .int .i64 0, .int .i64 0, .int .i64 0])) false, .int .i64 n.t.len, .int .i64 n.t.prec, .int .i64 n.t.scale]]) (Zy4 rfl Z8z rfl) (HSub.tail _ _) ⟨rfl, rfl⟩
theorem Z1yi (b : Bool) (n : Int) (σ : Zc) : Z1q Try.prog Zg3 [.bool b, .iptr [.int .i64 n]] σ fun r σ' => r = .int .i64 (if b = true then n else 0) ∧ σ' = σ := by
  refine Z8t rfl Z1yc (Nat.le_of_ble_eq_true rfl) ?_
  cases b with
  | true =>
    (repeat (first | refine st_q rfl rfl rfl ?_ | (refine Z8y ?_; (repeat (first | refine Z9v rfl ?_ | refine Z9w ?_)); refine Z9u ?_) | refine awp_seq ?_ | refine Zbm (fun _ _ => rfl) ?_ | refine Kc1 rfl ?_))
    refine Z8d ?_
    exact Kar rfl ⟨rfl, rfl⟩
  | false =>
    (repeat (first | refine st_q rfl rfl rfl ?_ | (refine Z8y ?_; (repeat (first | refine Z9v rfl ?_ | refine Z9w ?_)); refine Z9u ?_) | refine awp_seq ?_ | refine Zbm (fun _ _ => rfl) ?_ | refine Zbn (fun _ _ => rfl) ?_ | refine Kc2 rfl ?_))
    refine Z8d ?_
    exact Kar rfl ⟨rfl, rfl⟩
def Z1yj (t : Ty) (v m : Int) : Bool := if t.kind = 13 then decide (0 ≤ v ∧ v < t.kids.length) else decide (vchk t (.mk false v m [] []) = 0)
theorem Z1yk (t : Ty) (ht : t.kind = 13 ∨ t.Ok) (v m : Int) (hv : -9223372036854775808 ≤ v ∧ v ≤ 9223372036854775807) (σ : Zc) : Z1q Try.prog Zg4 [encT t, .int .i64 v, .int .i64 m] σ fun r σ' => r = .bool (Z1yj t v m) ∧ σ' = σ := by
  have hkl := Zlr t.kids
  have hVC := fun h => Z138 (.mk false v m [] []) (.mk hv (by simp [Vl.b]) (by simp [Vl.kids]) (by simp [Vl.kids])) t h
  rw [Zlp] at hVC ⊢
  refine Z8t rfl Z1yd (Nat.le_of_ble_eq_true rfl) ?_
  refine Z9z ?_
  refine Z9j rfl (Kfi rfl) fun b1 hb1 => ?_
  (repeat (refine st_q rfl rfl rfl ?_))
  (refine Z8y ?_; (repeat (first | refine Z9v rfl ?_ | refine Z9w ?_)); refine Z9u ?_)
  refine Zb3 (d := 3) (cs := Zlo t) rfl ?_
  (repeat (first | refine st_q rfl rfl rfl ?_ | (refine Z8y ?_; (repeat (first | refine Z9v rfl ?_ | refine Z9w ?_)); refine Z9u ?_) | refine awp_seq ?_ | refine Zbm (fun _ _ => rfl) ?_))
  by_cases k13 : t.kind = 13
  · rw [Z1yj, if_pos k13]
    (rw [decide_eq_true (p := t.kind = 13) (by omega)])
    by_cases h0 : 0 ≤ v
    · (repeat (first | refine st_q rfl rfl rfl ?_ | refine awp_seq ?_ | refine Zbm (fun _ _ => rfl) ?_ | refine Kc1 rfl ?_))
      (rw [decide_eq_true (p := v ≥ 0) (by omega)])
      (repeat (first | refine st_q rfl rfl rfl ?_ | refine Z8v rfl (st_q rfl rfl rfl ?_) | (refine Z8y ?_; (repeat (first | refine Z9v rfl ?_ | refine Z9w ?_)); refine Z9u ?_)))
      rw [hkl]
      refine Z8d ?_
      refine ares rfl (HSub.refl _) ⟨?_, rfl⟩
      show Z0.bool _ = _
      congr 1
      simp [h0]
    · (repeat (first | refine st_q rfl rfl rfl ?_ | refine awp_seq ?_ | refine Zbm (fun _ _ => rfl) ?_ | refine Kc1 rfl ?_))
      (rw [decide_eq_false (p := v ≥ 0) (by omega)])
      (repeat (first | refine st_q rfl rfl rfl ?_ | refine Z8w rfl ?_ | (refine Z8y ?_; (repeat (first | refine Z9v rfl ?_ | refine Z9w ?_)); refine Z9u ?_)))
      refine Z8d ?_
      exact Kar rfl ⟨by rw [decide_eq_false (by omega)]; rfl, rfl⟩
  · rw [Z1yj, if_neg k13]
    have hVC := hVC (by rcases ht with h | h; exact absurd h k13; exact h)
    rw [Zm7] at hVC
    (rw [decide_eq_false (p := t.kind = 13) (by omega)])
    (repeat (first | refine st_q rfl rfl rfl ?_ | refine awp_seq ?_ | refine Zbm (fun _ _ => rfl) ?_ | refine Zbn (fun _ _ => rfl) ?_ | refine Kc2 rfl ?_))
    refine Z9t rfl (Z1q.args (by
      simp only [Zm6, Vl.null, Vl.i, Vl.n, Vl.b, Vl.kids, bytes, Zm5, List.map_nil]
      (repeat (first | exact VRle.refl _ | exact Zc5 | refine Zc6 rfl rfl ?_ | refine Zc7 rfl ?_ | refine Zc4 ?_ ?_))) (hVC _)) ?_
    (repeat (first | refine st_q rfl rfl rfl ?_ | (refine Z8y ?_; (repeat (first | refine Z9v rfl ?_ | refine Z9w ?_)); refine Z9u ?_)))
    refine Z8d ?_
    refine ares rfl (HSub.refl _) ⟨?_, rfl⟩
    show Z0.bool _ = _
    congr 1
    exact decide_eq_decide.2 (by omega)
structure Right (n : Nd) (c : Col) (count : Nat) (nulls : Bool) : Prop where
  sm : c.Sm
  rng : c.Rng
  good : c.Good n.t.kind
  here : c.here.length = count
  kids : n.kids.length ≤ 1000
  tOk : n.t.Ok
  kidl : n.kids.length = n.t.kids.length
  ints : ∀ i v, c.ints[i]? = some v → Z1yj (tyK n) v (if n.t.kind = 9 then c.ns.getD i 0 else 0) = true
  texts : ∀ b ∈ c.texts, vchk (tyK n) (.mk false 0 0 b []) = 0
  lens : ∀ v ∈ c.lens, 0 ≤ v
  null : nulls = false → hereN c = count
  sum : lenF n.t.kind = true → askF n.t.kind c 0 ≤ 16384
theorem Z1yl {n : Nd} (h : n.t.Ok) (hk : n.kids.length = n.t.kids.length) (hl : Zlt n.t.kind = true) : (tyK n).Ok := by
  have h0 : n.t.kids = [] := by
    have := h.kinds.1
    simp only [Zlt, Bool.not_eq_true', Bool.or_eq_false_iff, decide_eq_false_iff_not] at hl
    rw [Zlv, if_neg hl.1.1.1, if_neg hl.1.1.2, if_neg hl.1.2, if_neg hl.2] at this
    exact List.length_eq_zero_iff.1 (by simpa using this)
  have e : tyK n = tyN n := by
    rw [tyK, tyN, hk, h0]; rfl
  rw [e]
  exact Z1ye h hl
theorem Z1ym (n : Nd) (c : Col) (count : Nat) (nulls : Bool) (hR : Right n c count nulls) (σ : Zc) : Z1q Try.prog Zf0 [encN n, encC c, .int .i64 count, .bool nulls] σ fun r σ' => r = .int .i64 0 ∧ σ' = σ := by
  obtain ⟨hsm, hrng, hgood, hhere, hkids, htok, hkidl, hints, htexts, hlens, hnull, hsum⟩ := hR
  obtain ⟨g1, g2, g3, g4⟩ := hgood
  have hTy := Z1yl htok hkidl
  have hkind : (tyK n).kind = n.t.kind := rfl
  have hle : hereN c ≤ 16384 := Nat.le_trans List.count_le_length hsm.here
  have hAsk := fun σ => Z1s2 n.t.kind 0 (Zm2 n) rfl rfl (Z1rx n) c hsm σ
  have hHere := Z1s0 c (by have := hsm.here; omega)
  have hTyp := Z1yh n hkids
  rw [Zlp] at hTyp
  have hTx : ∀ b ∈ c.texts, ∀ σ, Z1q Try.prog Zet [.agg (Zlo (tyK n)), .agg (Zm6 (.mk false 0 0 b []))] σ fun r σ' => r = .int .i64 (0 : Nat) ∧ σ' = σ := by
    intro b hb
    have hk : Zmb n.t.kind = true := by
      cases e : Zmb n.t.kind with
      | true => rfl
      | false =>
        rw [e, if_neg (by simp)] at g1
        rw [List.length_eq_zero_iff.1 g1] at hb
        cases hb
    have := Z138 (.mk false 0 0 b []) (.mk (by simp [Vl.i]) (by have := hrng.text b hb; simp only [Vl.b]; omega) (by simp [Vl.kids]) (by simp [Vl.kids])) (tyK n) (hTy (Z1pp hk))
    rw [htexts b hb, Zlp, Zm7] at this
    exact this
  have hNu : ∀ (i : Nat) v, c.ints[i]? = some v → ∀ σ, Z1q Try.prog Zg4 [.agg (Zlo (tyK n)), .int .i64 v, .int .i64 (if n.t.kind = 9 then c.ns.getD i 0 else 0)] σ fun r σ' => r = .bool true ∧ σ' = σ := by
    intro i v hv
    have hk : (tyK n).kind = 13 ∨ (tyK n).Ok := by
      by_cases e13 : n.t.kind = 13
      · exact .inl e13
      · refine .inr (hTy ?_)
        have hn : ¬ (Zmb n.t.kind = true ∨ n.t.kind = 10 ∨ n.t.kind = 11 ∨ n.t.kind = 12) := fun h => by
          rw [if_pos h] at g2
          rw [List.length_eq_zero_iff.1 g2] at hv
          simp at hv
        simp only [not_or] at hn
        simp [Zlt, hn.2.1, hn.2.2.1, hn.2.2.2, e13]
    have := Z1yk (tyK n) hk v (if n.t.kind = 9 then c.ns.getD i 0 else 0) (hrng.int v (List.mem_of_getElem? hv))
    rw [hints i v hv, Zlp] at this
    exact this
  have el : ∀ {α : Type} (f : α → Z0) (l : List α), (l.map f).length = l.length := fun f l => List.length_map ..
  refine Z8t rfl Z1ya (Nat.le_of_ble_eq_true rfl) ?_
  refine Z9z ?_
  refine Z9j rfl (Kfi rfl) fun b4 hb4 => ?_
  refine Z9j rfl (Kfi rfl) fun b5 hb5 => ?_
  (repeat (refine st_q rfl rfl rfl ?_))
  (refine Z8y ?_; (repeat (first | refine Z9v rfl ?_ | refine Z9w ?_)); refine Z9u ?_)
  refine Zb3 (d := 5) (cs := Zxu c) rfl ?_
  refine Zb3 (d := 4) (cs := Zm2 n) rfl ?_
  refine Z9z ?_
  (repeat (refine st_q rfl rfl rfl ?_))
  refine Z9t rfl (hHere _) ?_
  refine Z9k (by simp [Z0.cells, Z0.one]) fun b9 hb9 => ?_
  refine Z9a rfl Z8z rfl (by decide) (Kfi rfl) (fun _ => ⟨rfl, rfl⟩) Z9b ?_
  (refine Z8y ?_; (repeat (first | refine Z9v rfl ?_ | refine Z9w ?_)); refine Z9u ?_)
  refine Z1yg (d := 9) (x := .int .i64 (hereN c : Nat)) rfl ?_
  refine Z9z ?_
  (repeat (refine st_q rfl rfl rfl ?_))
  refine Zbw rfl (c_of n.t.kind) ?_
  (repeat (refine st_q rfl rfl rfl ?_))
  refine Zbw rfl hTyp ?_
  refine Z9k (by simp [Z0.cells, Z0.one]) fun b10 hb10 => ?_
  refine Z9k (by simp [Z0.cells, Z0.one]) fun b11 hb11 => ?_
  have hne : b11 ≠ b10 := fun e => hb11 (by rw [e]; simp [Zh])
  refine Z9a rfl (Z90 hne Z8z) rfl (by decide) (Kfi rfl) (fun h => by cases h) (Z9c hne Z9b) ?_
  refine Z9a rfl Z8z rfl (by decide) (Kfi rfl) (fun h => by cases h) Z9b ?_
  (refine Z8y ?_; (repeat (first | refine Z9v rfl ?_ | refine Z9w ?_)); refine Z9u ?_)
  refine Zb3 (d := 11) (cs := Zlo (tyK n)) rfl ?_
  refine Zb3 (d := 10) (cs := Z1ry n.t.kind) rfl ?_
  (refine Z9y (keep := [2, 3, 4, 5, 9, 10, 11]) ?_; ((repeat (first | refine Z9v rfl ?_ | refine Z9w ?_)); refine Z9u ?_))
  generalize tyK n = T at hTx hNu hkind
  have hN : c.here.count true = hereN c := rfl
  rw [hN] at g1 g2 g3 g4
  have hI : (c.ints.length : Int) = if intF n.t.kind = true then ((hereN c : Nat) : Int) else 0 := by
    rw [g2]
    cases e : Zmb n.t.kind <;> by_cases e1 : n.t.kind = 10 <;> by_cases e2 : n.t.kind = 11 <;> by_cases e3 : n.t.kind = 12 <;> simp [intF, e, e1, e2, e3]
  have hNs : (c.ns.length : Int) = if decide (n.t.kind = 9) = true then ((hereN c : Nat) : Int) else 0 := by
    rw [g3]; by_cases e : n.t.kind = 9 <;> simp [e]
  have hTs : (c.texts.length : Int) = if Zmb n.t.kind = true then ((hereN c : Nat) : Int) else 0 := by
    rw [g1]; cases Zmb n.t.kind <;> simp
  have hLs : (c.lens.length : Int) = if lenF n.t.kind = true then ((hereN c : Nat) : Int) else 0 := by
    rw [g4]; by_cases e1 : n.t.kind = 10 <;> by_cases e2 : n.t.kind = 11 <;> simp [lenF, e1, e2]
  have sm := hsm
  obtain ⟨l1, l2, l3, l4, l5⟩ := sm
  (repeat (first | refine st_q rfl rfl rfl ?_ | (refine Z8y ?_; (repeat (first | refine Z9v rfl ?_ | refine Z9w ?_)); refine Z9u ?_) | refine awp_seq ?_ | refine Zbm (fun _ _ => rfl) ?_))
  rw [el]
  (rw [decide_eq_false (p := (c.here.length : Int) ≠ (count : Int)) (by omega)])
  (repeat refine Z8v rfl (st_q rfl rfl rfl ?_))
  refine Z8v rfl (Z1yf rfl (by kernel_rfl) (Z1yi _ _ _) ?_)
  (repeat (first | refine st_q rfl rfl rfl ?_ | refine Z8v rfl (st_q rfl rfl rfl ?_)))
  rw [show decide (((c.ints.map (Z0.int .i64)).length : Int) ≠ (if intF n.t.kind = true then ((hereN c : Nat) : Int) else 0)) = false from decide_eq_false (fun h => h (by rw [el]; exact hI))]
  (repeat refine Z8v rfl (st_q rfl rfl rfl ?_))
  refine Z8v rfl (Z1yf rfl (by kernel_rfl) (Z1yi _ _ _) ?_)
  (repeat (first | refine st_q rfl rfl rfl ?_ | refine Z8v rfl (st_q rfl rfl rfl ?_)))
  rw [show decide (((c.ns.map (Z0.int .i64)).length : Int) ≠ (if decide (n.t.kind = 9) = true then ((hereN c : Nat) : Int) else 0)) = false from decide_eq_false (fun h => h (by rw [el]; exact hNs))]
  (repeat refine Z8v rfl (st_q rfl rfl rfl ?_))
  refine Z8v rfl (Z1yf rfl (by kernel_rfl) (Z1yi _ _ _) ?_)
  (repeat (first | refine st_q rfl rfl rfl ?_ | refine Z8v rfl (st_q rfl rfl rfl ?_)))
  rw [show decide (((c.texts.map fun b => Z0.slc 1 (bytes b) false).length : Int) ≠ (if Zmb n.t.kind = true then ((hereN c : Nat) : Int) else 0)) = false from decide_eq_false (fun h => h (by rw [el]; exact hTs))]
  (repeat refine Z8v rfl (st_q rfl rfl rfl ?_))
  refine Z8v rfl (Z1yf rfl (by kernel_rfl) (Z1yi _ _ _) ?_)
  (repeat (first | refine st_q rfl rfl rfl ?_ | refine Z8v rfl (st_q rfl rfl rfl ?_)))
  rw [show decide (((c.lens.map (Z0.int .i64)).length : Int) ≠ (if lenF n.t.kind = true then ((hereN c : Nat) : Int) else 0)) = false from decide_eq_false (fun h => h (by rw [el]; exact hLs))]
  (repeat (first | refine st_q rfl rfl rfl ?_ | (refine Z8y ?_; (repeat (first | refine Z9v rfl ?_ | refine Z9w ?_)); refine Z9u ?_) | refine awp_seq ?_ | refine Zbm (fun _ _ => rfl) ?_ | refine Z8h ?_ | refine Zbn (fun _ _ => rfl) ?_ | refine Kc2 rfl ?_))
  rw [el]
  refine Zaa (fun m F σ' => ∃ i : Nat, F = fset 2 (some (.int .i64 (count : Nat))) (fset 3 (some (.bool nulls)) (fset 4 (some (.iptr (Zm2 n))) (fset 5 (some (.iptr (Zxu c))) (fset 9 (some (.iptr [.int .i64 (hereN c : Nat)])) (fset 10 (some (.iptr (Z1ry n.t.kind))) (fset 11 (some (.iptr (Zlo T))) (fset 74 (some (.slc 1 (c.ints.map (.int .i64)) false)) (fset 75 (some (.int .i64 (c.ints.length : Nat))) (fset 76 (some (.int .i64 i)) Z27))))))))) ∧ σ = σ' ∧ i ≤ c.ints.length ∧ m = c.ints.length - i) (n := c.ints.length)
    ⟨0, rfl, rfl, by omega, by omega⟩ ?_
  rintro m F σ' ⟨i, rfl, rfl, hi, rfl⟩
  (repeat (first | refine st_q rfl rfl rfl ?_ | (refine Z8y ?_; (repeat (first | refine Z9v rfl ?_ | refine Z9w ?_)); refine Z9u ?_) | refine awp_seq ?_ | refine Zbm (fun _ _ => rfl) ?_))
  refine Za3 (p := (i : Int) < (c.ints.length : Nat)) rfl (fun h3 => ?_) (fun h3 => ?_)
  · have hil : i < c.ints.length := by omega
    have hx := Zxw (f := Z0.int .i64) hil
    have hn := hNu i c.ints[i] (List.getElem?_eq_getElem hil)
    generalize c.ints[i] = v at hx hn
    (repeat (first | refine st_q rfl rfl rfl ?_ | refine awp_seq ?_ | refine Zbm (fun _ _ => rfl) ?_ | refine Z8h ?_ | refine Zbn (fun _ _ => rfl) ?_))
    refine Z93 rfl (by omega) hx ?_
    (repeat (first | refine st_q rfl rfl rfl ?_ | (refine Z8y ?_; (repeat (first | refine Z9v rfl ?_ | refine Z9w ?_)); refine Z9u ?_) | refine awp_seq ?_ | refine Zbm (fun _ _ => rfl) ?_))
    refine Za3 (p := n.t.kind = 9) rfl (fun k9 => ?_) (fun k9 => ?_)
    · have hin : i < c.ns.length := by
        rw [g3, if_pos k9]
        have hk : ¬ (Zmb n.t.kind = true ∨ n.t.kind = 10 ∨ n.t.kind = 11 ∨ n.t.kind = 12) := by rw [k9]; decide
        rw [if_neg hk] at g2
        omega
      have hy := Zxw (f := Z0.int .i64) hin
      rw [if_pos k9, List.getD_eq_getElem?_getD, List.getElem?_eq_getElem hin, Option.getD_some] at hn
      generalize c.ns[i] = y at hy hn
      (repeat (first | refine st_q rfl rfl rfl ?_ | refine Zbm (fun _ _ => rfl) ?_))
      refine Z93 rfl (by omega) hy ?_
      (repeat (first | refine st_q rfl rfl rfl ?_ | (refine Z8y ?_; (repeat (first | refine Z9v rfl ?_ | refine Z9w ?_)); refine Z9u ?_) | refine awp_seq ?_ | refine Zbm (fun _ _ => rfl) ?_))
      refine Z9t rfl (hn _) ?_
      (repeat (first | refine st_q rfl rfl rfl ?_ | (refine Z8y ?_; (repeat (first | refine Z9v rfl ?_ | refine Z9w ?_)); refine Z9u ?_) | refine Zbn (fun _ _ => rfl) ?_ | refine Kc2 rfl ?_))
      refine Zbp ?_
      (repeat (refine st_q rfl rfl rfl ?_))
      rw [Kwr i (by omega)]
      (refine Z8y ?_; (repeat (first | refine Z9v rfl ?_ | refine Z9w ?_)); refine Z9u ?_)
      exact ⟨_, c.ints.length - (i + 1), HSub.refl _, ⟨i + 1, rfl, rfl, by omega, rfl⟩, by omega⟩
    · rw [if_neg k9] at hn
      (repeat (first | refine st_q rfl rfl rfl ?_ | refine awp_seq ?_ | refine Zbm (fun _ _ => rfl) ?_ | refine Zbn (fun _ _ => rfl) ?_))
      refine Z9t rfl (hn _) ?_
      (repeat (first | refine st_q rfl rfl rfl ?_ | (refine Z8y ?_; (repeat (first | refine Z9v rfl ?_ | refine Z9w ?_)); refine Z9u ?_) | refine Zbn (fun _ _ => rfl) ?_ | refine Kc2 rfl ?_))
      refine Zbp ?_
      (repeat (refine st_q rfl rfl rfl ?_))
      rw [Kwr i (by omega)]
      (refine Z8y ?_; (repeat (first | refine Z9v rfl ?_ | refine Z9w ?_)); refine Z9u ?_)
      exact ⟨_, c.ints.length - (i + 1), HSub.refl _, ⟨i + 1, rfl, rfl, by omega, rfl⟩, by omega⟩
  (repeat (first | refine st_q rfl rfl rfl ?_ | (refine Z8y ?_; (repeat (first | refine Z9v rfl ?_ | refine Z9w ?_)); refine Z9u ?_) | refine awp_seq ?_ | refine Zbm (fun _ _ => rfl) ?_ | refine Z8h ?_ | refine Zbo (fun _ _ => rfl) ?_))
  rw [el]
  refine Zaa (fun m F σ' => ∃ i : Nat, F = fset 2 (some (.int .i64 (count : Nat))) (fset 3 (some (.bool nulls)) (fset 4 (some (.iptr (Zm2 n))) (fset 5 (some (.iptr (Zxu c))) (fset 9 (some (.iptr [.int .i64 (hereN c : Nat)])) (fset 10 (some (.iptr (Z1ry n.t.kind))) (fset 11 (some (.iptr (Zlo T))) (fset 95 (some (.slc 1 (c.texts.map fun b => Z0.slc 1 (bytes b) false) false)) (fset 96 (some (.int .i64 (c.texts.length : Nat))) (fset 97 (some (.int .i64 i)) Z27))))))))) ∧ σ = σ' ∧ i ≤ c.texts.length ∧ m = c.texts.length - i) (n := c.texts.length)
    ⟨0, rfl, rfl, by omega, by omega⟩ ?_
  rintro m F σ' ⟨i, rfl, rfl, hi, rfl⟩
  (repeat (first | refine st_q rfl rfl rfl ?_ | (refine Z8y ?_; (repeat (first | refine Z9v rfl ?_ | refine Z9w ?_)); refine Z9u ?_) | refine awp_seq ?_ | refine Zbm (fun _ _ => rfl) ?_))
  refine Za3 (p := (i : Int) < (c.texts.length : Nat)) rfl (fun h3 => ?_) (fun h3 => ?_)
  · have hil : i < c.texts.length := by omega
    have hx := Zxw (f := fun b => Z0.slc 1 (bytes b) false) hil
    have hn := hTx c.texts[i] (List.getElem_mem hil)
    generalize c.texts[i] = v at hx hn
    (repeat (first | refine awp_seq ?_ | refine Zbm (fun _ _ => rfl) ?_ | refine Z8h ?_ | refine Zbn (fun _ _ => rfl) ?_))
    refine Z93 rfl (by omega) hx ?_
    (repeat (first | refine st_q rfl rfl rfl ?_ | (refine Z8y ?_; (repeat (first | refine Z9v rfl ?_ | refine Z9w ?_)); refine Z9u ?_) | refine awp_seq ?_ | refine Zbm (fun _ _ => rfl) ?_))
    refine Z9t rfl (Z1q.args (by
      simp only [Zm6, Vl.null, Vl.i, Vl.n, Vl.b, Vl.kids, Zm5]
      (repeat (first | exact VRle.refl _ | exact Zc5 | refine Zc6 rfl rfl ?_ | refine Zc7 rfl ?_ | refine Zc4 ?_ ?_))) (hn _)) ?_
    (repeat (first | refine st_q rfl rfl rfl ?_ | (refine Z8y ?_; (repeat (first | refine Z9v rfl ?_ | refine Z9w ?_)); refine Z9u ?_) | refine Zbn (fun _ _ => rfl) ?_ | refine Kc2 rfl ?_))
    refine Zbp ?_
    (repeat (refine st_q rfl rfl rfl ?_))
    rw [Kwr i (by omega)]
    (refine Z8y ?_; (repeat (first | refine Z9v rfl ?_ | refine Z9w ?_)); refine Z9u ?_)
    exact ⟨_, c.texts.length - (i + 1), HSub.refl _, ⟨i + 1, rfl, rfl, by omega, rfl⟩, by omega⟩
  (repeat (first | refine st_q rfl rfl rfl ?_ | (refine Z8y ?_; (repeat (first | refine Z9v rfl ?_ | refine Z9w ?_)); refine Z9u ?_) | refine awp_seq ?_ | refine Zbm (fun _ _ => rfl) ?_ | refine Z8h ?_ | refine Zbo (fun _ _ => rfl) ?_))
  rw [el]
  refine Zaa (fun m F σ' => ∃ i : Nat, F = fset 2 (some (.int .i64 (count : Nat))) (fset 3 (some (.bool nulls)) (fset 4 (some (.iptr (Zm2 n))) (fset 5 (some (.iptr (Zxu c))) (fset 9 (some (.iptr [.int .i64 (hereN c : Nat)])) (fset 10 (some (.iptr (Z1ry n.t.kind))) (fset 108 (some (.slc 1 (c.lens.map (.int .i64)) false)) (fset 109 (some (.int .i64 (c.lens.length : Nat))) (fset 110 (some (.int .i64 i)) Z27)))))))) ∧ σ = σ' ∧ i ≤ c.lens.length ∧ m = c.lens.length - i) (n := c.lens.length)
    ⟨0, rfl, rfl, by omega, by omega⟩ ?_
  rintro m F σ' ⟨i, rfl, rfl, hi, rfl⟩
  (repeat (first | refine st_q rfl rfl rfl ?_ | (refine Z8y ?_; (repeat (first | refine Z9v rfl ?_ | refine Z9w ?_)); refine Z9u ?_) | refine awp_seq ?_ | refine Zbm (fun _ _ => rfl) ?_))
  refine Za3 (p := (i : Int) < (c.lens.length : Nat)) rfl (fun h3 => ?_) (fun h3 => ?_)
  · have hil : i < c.lens.length := by omega
    have hx := Zxw (f := Z0.int .i64) hil
    have hn := hlens c.lens[i] (List.getElem_mem hil)
    generalize c.lens[i] = v at hx hn
    (repeat (first | refine awp_seq ?_ | refine Zbm (fun _ _ => rfl) ?_ | refine Z8h ?_ | refine Zbn (fun _ _ => rfl) ?_))
    refine Z93 rfl (by omega) hx ?_
    (repeat (first | refine st_q rfl rfl rfl ?_ | (refine Z8y ?_; (repeat (first | refine Z9v rfl ?_ | refine Z9w ?_)); refine Z9u ?_) | refine awp_seq ?_ | refine Zbm (fun _ _ => rfl) ?_))
    (rw [decide_eq_false (p := v < 0) (by omega)])
    (repeat (first | refine Zbn (fun _ _ => rfl) ?_ | refine Kc2 rfl ?_))
    refine Zbp ?_
    (repeat (refine st_q rfl rfl rfl ?_))
    rw [Kwr i (by omega)]
    (refine Z8y ?_; (repeat (first | refine Z9v rfl ?_ | refine Z9w ?_)); refine Z9u ?_)
    exact ⟨_, c.lens.length - (i + 1), HSub.refl _, ⟨i + 1, rfl, rfl, by omega, rfl⟩, by omega⟩
  cases hl : lenF n.t.kind with
  | true =>
    have hs := hsum hl
    rw [Z1ry, hl]
    cases nulls with
    | true =>
      (repeat (first | refine st_q rfl rfl rfl ?_ | refine Z8v rfl (st_q rfl rfl rfl ?_) | refine Z8w rfl ?_ | (refine Z8y ?_; (repeat (first | refine Z9v rfl ?_ | refine Z9w ?_)); refine Z9u ?_) | refine awp_seq ?_ | refine Zbm (fun _ _ => rfl) ?_ | refine Z8h ?_ | refine Zbo (fun _ _ => rfl) ?_ | refine Kc2 rfl ?_))
      refine Z8v rfl (Z9t rfl (hAsk _) ?_)
      (repeat (first | refine st_q rfl rfl rfl ?_ | refine Z8v rfl (st_q rfl rfl rfl ?_) | (refine Z8y ?_; (repeat (first | refine Z9v rfl ?_ | refine Z9w ?_)); refine Z9u ?_)))
      (rw [decide_eq_false (p := (16384 : Int) < (askF n.t.kind c 0 : Nat)) (by omega)])
      (repeat (first | refine st_q rfl rfl rfl ?_ | (refine Z8y ?_; (repeat (first | refine Z9v rfl ?_ | refine Z9w ?_)); refine Z9u ?_) | refine awp_seq ?_ | refine Zbm (fun _ _ => rfl) ?_ | refine Zbn (fun _ _ => rfl) ?_ | refine Kc2 rfl ?_))
      refine Z8d ?_
      exact Kar rfl ⟨rfl, rfl⟩
    | false =>
      have hc := hnull rfl
      (repeat (first | refine st_q rfl rfl rfl ?_ | refine Z8v rfl (st_q rfl rfl rfl ?_) | (refine Z8y ?_; (repeat (first | refine Z9v rfl ?_ | refine Z9w ?_)); refine Z9u ?_) | refine awp_seq ?_ | refine Zbm (fun _ _ => rfl) ?_ | refine Z8h ?_ | refine Zbo (fun _ _ => rfl) ?_))
      (rw [decide_eq_false (p := ((hereN c : Nat) : Int) ≠ (count : Nat)) (by omega)])
      (repeat (first | refine st_q rfl rfl rfl ?_ | refine Z8v rfl (st_q rfl rfl rfl ?_) | refine awp_seq ?_ | refine Zbm (fun _ _ => rfl) ?_ | refine Kc2 rfl ?_))
      refine Z8v rfl (Z9t rfl (hAsk _) ?_)
      (repeat (first | refine st_q rfl rfl rfl ?_ | refine Z8v rfl (st_q rfl rfl rfl ?_) | (refine Z8y ?_; (repeat (first | refine Z9v rfl ?_ | refine Z9w ?_)); refine Z9u ?_)))
      (rw [decide_eq_false (p := (16384 : Int) < (askF n.t.kind c 0 : Nat)) (by omega)])
      (repeat (first | refine st_q rfl rfl rfl ?_ | (refine Z8y ?_; (repeat (first | refine Z9v rfl ?_ | refine Z9w ?_)); refine Z9u ?_) | refine awp_seq ?_ | refine Zbm (fun _ _ => rfl) ?_ | refine Zbn (fun _ _ => rfl) ?_ | refine Kc2 rfl ?_))
      refine Z8d ?_
      exact Kar rfl ⟨rfl, rfl⟩
  | false =>
    rw [Z1ry, hl]
    cases nulls with
    | true =>
      (repeat (first | refine st_q rfl rfl rfl ?_ | refine Z8w rfl ?_ | (refine Z8y ?_; (repeat (first | refine Z9v rfl ?_ | refine Z9w ?_)); refine Z9u ?_) | refine awp_seq ?_ | refine Zbm (fun _ _ => rfl) ?_ | refine Z8h ?_ | refine Zbn (fun _ _ => rfl) ?_ | refine Zbo (fun _ _ => rfl) ?_ | refine Kc2 rfl ?_))
      refine Z8d ?_
      exact Kar rfl ⟨rfl, rfl⟩
    | false =>
      have hc := hnull rfl
      (repeat (first | refine st_q rfl rfl rfl ?_ | refine Z8v rfl (st_q rfl rfl rfl ?_) | (refine Z8y ?_; (repeat (first | refine Z9v rfl ?_ | refine Z9w ?_)); refine Z9u ?_) | refine awp_seq ?_ | refine Zbm (fun _ _ => rfl) ?_ | refine Z8h ?_ | refine Zbo (fun _ _ => rfl) ?_))
      (rw [decide_eq_false (p := ((hereN c : Nat) : Int) ≠ (count : Nat)) (by omega)])
      (repeat (first | refine st_q rfl rfl rfl ?_ | refine Z8w rfl ?_ | (refine Z8y ?_; (repeat (first | refine Z9v rfl ?_ | refine Z9w ?_)); refine Z9u ?_) | refine awp_seq ?_ | refine Zbm (fun _ _ => rfl) ?_ | refine Zbn (fun _ _ => rfl) ?_ | refine Kc2 rfl ?_))
      refine Z8d ?_
      exact Kar rfl ⟨rfl, rfl⟩
end Go.Abs

