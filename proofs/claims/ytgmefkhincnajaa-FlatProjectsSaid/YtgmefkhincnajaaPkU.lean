/- Part U of a proof: merged by program. -/
import Derived.Test.YtgmefkhincnajaaPkT
import Derived.Test.YtgmefkhincnajaaProg
import Derived.KernelRfl
namespace Go.Abs
open Go
def Z1yp : List Z2a := [
  ⟨some 2,(.box 6),[.t 0],none⟩,⟨some 4,.mov,[.c (.slc 0 [] true)],none⟩,⟨some 5,.mov,[.c (.int .i64 0)],none⟩]
def Z1yq : List Z2a := [
  ⟨some 13,(.load true 6),[.t 2],none⟩,⟨some 14,(.call Ze2),[.t 13],none⟩,⟨some 6,.mov,[.t 14],none⟩]
def Z1yr : List Z2a := [
  ⟨some 15,.mov,[.t 6],none⟩,⟨some 16,(.bin .neq),[.t 15,.c (.int .i64 0)],none⟩]
def Z1ys : List Z2a := [
  ⟨some 17,.mov,[.t 6],none⟩,⟨some 4,.mov,[.c (.slc 0 [] true)],none⟩,⟨some 5,.mov,[.t 17],none⟩]
def Z1yt : List Z2a := [
  ⟨some 18,.mov,[.t 1],none⟩,⟨some 19,.lens,[.t 18],none⟩,⟨some 20,.mov,[.c (.int .i64 0)],none⟩]
def Z1yu : List Z2a := [
  ⟨some 21,(.bin .lss),[.t 20,.t 19],none⟩]
def Z1yv : List Z2a := [
  ⟨some 22,(.iad 5),[.t 18,.t 20],none⟩,⟨some 23,(.load true 5),[.t 22],none⟩,⟨some 8,(.alloc (.agg [(.bool false),(.int .i64 0),(.int .i64 0),(.slc 0 [] true),(.slc 0 [] true)])),[],none⟩,⟨none,(.store 5),[.t 8,.t 23],none⟩]
def Z1yw : List Z2a := [
  ⟨some 24,(.load true 6),[.t 2],none⟩,⟨some 25,(.load true 5),[.t 8],none⟩,⟨some 26,(.call Zet),[.t 24,.t 25],none⟩,⟨some 9,.mov,[.t 26],none⟩]
def Z1yx : List Z2a := [
  ⟨some 27,.mov,[.t 9],none⟩,⟨some 28,(.bin .neq),[.t 27,.c (.int .i64 0)],none⟩]
def Z1yy : List Z2a := [
  ⟨some 29,.mov,[.t 9],none⟩,⟨some 4,.mov,[.c (.slc 0 [] true)],none⟩,⟨some 5,.mov,[.t 29],none⟩]
def Z1yz : List Z2a := [
  ⟨some 30,(.fad 0),[.t 8],none⟩,⟨some 31,(.load false 1),[.t 30],none⟩]
def Z1z0 : List Z2a := [
  ⟨some 4,.mov,[.c (.slc 0 [] true)],none⟩,⟨some 5,.mov,[.c (.int .i64 1)],none⟩]
def Z1z1 : List Z2a := [
  ⟨some 32,(.bin .add),[.t 20,.c (.int .i64 1)],none⟩,⟨some 20,.mov,[.t 32],none⟩]
def Z1z2 : Z2b := (.seq (.region Z1yu [1,2,18,19,20,21]) (.seq (.cond (.t 21) .skip (.exit 0)) (.seq (.block 1 (.seq (.region Z1yv [1,2,8,18,19,20]) (.seq (.seq (.region Z1yw [1,2,8,9,18,19,20]) (.seq (.region Z1yx [1,2,8,9,18,19,20,28]) (.cond (.t 28) (.seq (.region Z1yy [4,5]) .ret) .skip))) (.seq (.region Z1yz [1,2,18,19,20,31]) (.cond (.t 31) (.seq (.region Z1z0 [4,5]) .ret) .skip))))) (.region Z1z1 [1,2,18,19,20]))))
def Z1z3 : List Z2a := [
  ⟨some 33,(.load true 6),[.t 2],none⟩,⟨some 34,(.call Zcs),[.t 33],none⟩,⟨some 35,(.bld [(.slc 0 [] true),(.slc 0 [] true)] [(0,1)]),[.t 34],none⟩,⟨some 36,(.box 2),[.t 35],none⟩,⟨some 10,.mov,[.t 36],none⟩]
def Z1z4 : List Z2a := [
  ⟨some 37,.mov,[.t 10],none⟩,⟨some 38,.mov,[.t 10],none⟩,⟨some 39,.nilc,[.t 38],none⟩,⟨some 40,(.fad 0),[.t 39],none⟩,⟨some 41,(.load false 1),[.t 40],none⟩,⟨some 42,.lens,[.t 41],none⟩,⟨some 43,(.mks 5 120 (.agg [(.slc 0 [] true),(.slc 0 [] true),(.slc 0 [] true),(.slc 0 [] true),(.slc 0 [] true)])),[.t 42,.t 42],none⟩,⟨some 44,.nilc,[.t 37],none⟩,⟨some 45,(.fad 1),[.t 44],none⟩,⟨none,(.store 1),[.t 45,.t 43],none⟩]
def Z1z5 : List Z2a := [
  ⟨some 46,.mov,[.t 1],none⟩,⟨some 47,.lens,[.t 46],none⟩,⟨some 48,.mov,[.c (.int .i64 0)],none⟩]
def Z1z6 : List Z2a := [
  ⟨some 49,(.bin .lss),[.t 48,.t 47],none⟩]
def Z1z7 : List Z2a := [
  ⟨some 50,(.iad 5),[.t 46,.t 48],none⟩,⟨some 51,(.load true 5),[.t 50],none⟩,⟨some 12,(.alloc (.agg [(.bool false),(.int .i64 0),(.int .i64 0),(.slc 0 [] true),(.slc 0 [] true)])),[],none⟩,⟨none,(.store 5),[.t 12,.t 51],none⟩]
def Z1z8 : List Z2a := [
  ⟨some 52,.mov,[.t 10],none⟩,⟨some 53,(.load true 5),[.t 12],none⟩,⟨some 54,(.call Zeu),[.t 52,.c (.int .i64 0),.t 53],none⟩,⟨some 55,.unot,[.t 54],none⟩]
def Z1z9 : List Z2a := [
  ⟨some 4,.mov,[.c (.slc 0 [] true)],none⟩,⟨some 5,.mov,[.c (.int .i64 4)],none⟩]
def Z1za : List Z2a := [
  ⟨some 56,(.bin .add),[.t 48,.c (.int .i64 1)],none⟩,⟨some 48,.mov,[.t 56],none⟩]
def Z1zb : Z2b := (.seq (.region Z1z6 [10,46,47,48,49]) (.seq (.cond (.t 49) .skip (.exit 2)) (.seq (.block 3 (.seq (.region Z1z7 [10,12,46,47,48]) (.seq (.region Z1z8 [10,46,47,48,55]) (.cond (.t 55) (.seq (.region Z1z9 [4,5]) .ret) .skip)))) (.region Z1za [10,46,47,48]))))
def Z1zc : List Z2a := [
  ⟨some 57,.mov,[.t 10],none⟩,⟨some 58,.nilc,[.t 57],none⟩,⟨some 59,(.fad 1),[.t 58],none⟩,⟨some 60,(.load false 1),[.t 59],none⟩,⟨some 4,.mov,[.t 60],none⟩,⟨some 5,.mov,[.c (.int .i64 0)],none⟩]
def Z1zd : Z2y := ⟨61,(.seq (.region Z1yp [1,2]) (.seq (.seq (.region Z1yq [1,2,6]) (.seq (.region Z1yr [1,2,6,16]) (.cond (.t 16) (.seq (.region Z1ys [4,5]) .ret) .skip))) (.seq (.seq (.region Z1yt [1,2,18,19,20]) (.block 0 (.loop Z1z2))) (.seq (.region Z1z3 [1,10]) (.seq (.region Z1z4 [1,10]) (.seq (.seq (.region Z1z5 [10,46,47,48]) (.block 2 (.loop Z1zb))) (.seq (.region Z1zc [4,5]) .ret))))))),[.t 4,.t 5]⟩
def Z1ze : List Z2a := [
  ⟨some 5,(.box 5),[.t 2],none⟩,⟨some 6,.mov,[.c (.bool false)],none⟩]
def Z1zf : List Z2a := [
  ⟨some 13,.mov,[.t 0],none⟩,⟨some 14,.nilc,[.t 13],none⟩,⟨some 15,(.fad 1),[.t 14],none⟩,⟨some 16,(.load false 1),[.t 15],none⟩,⟨some 17,.mov,[.t 1],none⟩,⟨some 18,(.iad 5),[.t 16,.t 17],none⟩,⟨some 19,.mov,[.t 0],none⟩,⟨some 20,.nilc,[.t 19],none⟩,⟨some 21,(.fad 0),[.t 20],none⟩,⟨some 22,(.load false 1),[.t 21],none⟩,⟨some 23,.mov,[.t 1],none⟩,⟨some 24,(.iad 8),[.t 22,.t 23],none⟩,⟨some 25,(.load true 8),[.t 24],none⟩,⟨some 8,(.alloc (.agg [(.int .i64 0),(.slc 0 [] true),(.slc 0 [] true),(.int .i64 0),(.int .i64 0),(.int .i64 0),(.int .i64 0),(.int .i64 0)])),[],none⟩,⟨some 7,.mov,[.t 18],none⟩,⟨none,(.store 8),[.t 8,.t 25],none⟩]
def Z1zg : List Z2a := [
  ⟨some 26,.mov,[.t 7],none⟩,⟨some 27,.nilc,[.t 26],none⟩,⟨some 28,(.fad 0),[.t 27],none⟩,⟨some 29,(.load false 1),[.t 28],none⟩,⟨some 30,.lens,[.t 29],none⟩,⟨some 31,(.bin .geq),[.t 30,.c (.int .i64 16384)],none⟩]
def Z1zh : List Z2a := [
  ⟨some 6,.mov,[.c (.bool false)],none⟩]
def Z1zi : List Z2a := [
  ⟨some 32,.mov,[.t 7],none⟩,⟨some 33,.mov,[.t 7],none⟩,⟨some 34,.nilc,[.t 33],none⟩,⟨some 35,(.fad 0),[.t 34],none⟩,⟨some 36,(.load false 1),[.t 35],none⟩,⟨some 37,(.fad 0),[.t 5],none⟩,⟨some 38,(.load false 1),[.t 37],none⟩,⟨some 39,.unot,[.t 38],none⟩,⟨some 40,(.bsl 1),[.t 39],none⟩,⟨some 41,(.app 1 1),[.t 36,.t 40],none⟩,⟨some 42,.nilc,[.t 32],none⟩,⟨some 43,(.fad 0),[.t 42],none⟩,⟨none,(.store 1),[.t 43,.t 41],none⟩]
def Z1zj : List Z2a := [
  ⟨some 44,(.fad 0),[.t 5],none⟩,⟨some 45,(.load false 1),[.t 44],none⟩]
def Z1zk : List Z2a := [
  ⟨some 6,.mov,[.c (.bool true)],none⟩]
def Z1zl : List Z2a := [
  ⟨some 46,(.fad 0),[.t 8],none⟩,⟨some 47,(.load false 1),[.t 46],none⟩,⟨some 48,(.call Zfx),[.t 47],none⟩,⟨some 9,(.alloc (.agg [(.bool false),(.bool false),(.bool false),(.bool false)])),[],none⟩,⟨none,(.store 4),[.t 9,.t 48],none⟩]
def Z1zm : List Z2a := [
  ⟨some 49,(.fad 0),[.t 9],none⟩,⟨some 50,(.load false 1),[.t 49],none⟩]
def Z1zn : List Z2a := [
  ⟨some 51,.mov,[.t 7],none⟩,⟨some 52,.mov,[.t 7],none⟩,⟨some 53,.nilc,[.t 52],none⟩,⟨some 54,(.fad 1),[.t 53],none⟩,⟨some 55,(.load false 1),[.t 54],none⟩,⟨some 56,(.fad 1),[.t 5],none⟩,⟨some 57,(.load false 1),[.t 56],none⟩,⟨some 58,(.bsl 1),[.t 57],none⟩,⟨some 59,(.app 1 8),[.t 55,.t 58],none⟩,⟨some 60,.nilc,[.t 51],none⟩,⟨some 61,(.fad 1),[.t 60],none⟩,⟨none,(.store 1),[.t 61,.t 59],none⟩]
def Z1zo : List Z2a := [
  ⟨some 62,(.fad 1),[.t 9],none⟩,⟨some 63,(.load false 1),[.t 62],none⟩]
def Z1zp : List Z2a := [
  ⟨some 64,.mov,[.t 7],none⟩,⟨some 65,.mov,[.t 7],none⟩,⟨some 66,.nilc,[.t 65],none⟩,⟨some 67,(.fad 2),[.t 66],none⟩,⟨some 68,(.load false 1),[.t 67],none⟩,⟨some 69,(.fad 2),[.t 5],none⟩,⟨some 70,(.load false 1),[.t 69],none⟩,⟨some 71,(.bsl 1),[.t 70],none⟩,⟨some 72,(.app 1 8),[.t 68,.t 71],none⟩,⟨some 73,.nilc,[.t 64],none⟩,⟨some 74,(.fad 2),[.t 73],none⟩,⟨none,(.store 1),[.t 74,.t 72],none⟩]
def Z1zq : List Z2a := [
  ⟨some 75,(.fad 2),[.t 9],none⟩,⟨some 76,(.load false 1),[.t 75],none⟩]
def Z1zr : List Z2a := [
  ⟨some 77,.mov,[.t 7],none⟩,⟨some 78,.mov,[.t 7],none⟩,⟨some 79,.nilc,[.t 78],none⟩,⟨some 80,(.fad 3),[.t 79],none⟩,⟨some 81,(.load false 1),[.t 80],none⟩,⟨some 82,(.fad 3),[.t 5],none⟩,⟨some 83,(.load false 1),[.t 82],none⟩,⟨some 84,(.callp Zfq),[.t 83],none⟩,⟨some 85,(.callp Zfp),[.t 84],none⟩,⟨some 86,(.bsl 1),[.t 85],none⟩,⟨some 87,(.app 1 24),[.t 81,.t 86],none⟩,⟨some 88,.nilc,[.t 77],none⟩,⟨some 89,(.fad 3),[.t 88],none⟩,⟨none,(.store 1),[.t 89,.t 87],none⟩]
def Z1zs : List Z2a := [
  ⟨some 90,(.fad 3),[.t 9],none⟩,⟨some 91,(.load false 1),[.t 90],none⟩]
def Z1zt : List Z2a := [
  ⟨some 92,.mov,[.t 7],none⟩,⟨some 93,.mov,[.t 7],none⟩,⟨some 94,.nilc,[.t 93],none⟩,⟨some 95,(.fad 4),[.t 94],none⟩,⟨some 96,(.load false 1),[.t 95],none⟩,⟨some 97,(.fad 4),[.t 5],none⟩,⟨some 98,(.load false 1),[.t 97],none⟩,⟨some 99,.lens,[.t 98],none⟩,⟨some 100,(.fad 1),[.t 8],none⟩,⟨some 101,(.load false 1),[.t 100],none⟩,⟨some 102,.lens,[.t 101],none⟩,⟨some 103,(.bin .quo),[.t 99,.t 102],none⟩,⟨some 104,(.bsl 1),[.t 103],none⟩,⟨some 105,(.app 1 8),[.t 96,.t 104],none⟩,⟨some 106,.nilc,[.t 92],none⟩,⟨some 107,(.fad 4),[.t 106],none⟩,⟨none,(.store 1),[.t 107,.t 105],none⟩]
def Z1zu : List Z2a := [
  ⟨some 108,(.fad 4),[.t 5],none⟩,⟨some 109,(.load false 1),[.t 108],none⟩,⟨some 110,.lens,[.t 109],none⟩,⟨some 111,.mov,[.c (.int .i64 0)],none⟩]
def Z1zv : List Z2a := [
  ⟨some 112,(.bin .lss),[.t 111,.t 110],none⟩]
def Z1zw : List Z2a := [
  ⟨some 113,.mov,[.t 111],none⟩,⟨some 114,(.iad 5),[.t 109,.t 111],none⟩,⟨some 115,(.load true 5),[.t 114],none⟩,⟨some 11,(.alloc (.agg [(.bool false),(.int .i64 0),(.int .i64 0),(.slc 0 [] true),(.slc 0 [] true)])),[],none⟩,⟨some 10,.mov,[.t 113],none⟩,⟨none,(.store 5),[.t 11,.t 115],none⟩]
def Z1zx : List Z2a := [
  ⟨some 116,.mov,[.t 10],none⟩,⟨some 12,.mov,[.t 116],none⟩]
def Z1zy : List Z2a := [
  ⟨some 117,(.fad 0),[.t 8],none⟩,⟨some 118,(.load false 1),[.t 117],none⟩]
def Z1zz : List Z2a := [
  ⟨some 120,(.bin .eql),[.t 118,.c (.int .i64 10)],none⟩,⟨some 119,.mov,[.t 120],none⟩]
def Z200 : List Z2a := [
  ⟨some 12,.mov,[.c (.int .i64 0)],none⟩]
def Z201 : List Z2a := [
  ⟨some 122,(.bin .eql),[.t 118,.c (.int .i64 11)],none⟩,⟨some 121,.mov,[.t 122],none⟩]
def Z202 : List Z2a := [
  ⟨some 123,.mov,[.t 10],none⟩,⟨some 124,(.bin .rem),[.t 123,.c (.int .i64 2)],none⟩,⟨some 12,.mov,[.t 124],none⟩]
def Z203 : List Z2a := [
  ⟨some 126,(.bin .eql),[.t 118,.c (.int .i64 13)],none⟩,⟨some 125,.mov,[.t 126],none⟩]
def Z204 : List Z2a := [
  ⟨some 127,(.fad 1),[.t 5],none⟩,⟨some 128,(.load false 1),[.t 127],none⟩,⟨some 12,.mov,[.t 128],none⟩]
def Z205 : List Z2a := [
  ⟨some 129,.mov,[.t 0],none⟩,⟨some 130,(.fad 1),[.t 8],none⟩,⟨some 131,(.load false 1),[.t 130],none⟩,⟨some 132,.mov,[.t 12],none⟩,⟨some 133,(.iad 1),[.t 131,.t 132],none⟩,⟨some 134,(.load false 1),[.t 133],none⟩,⟨some 135,(.load true 5),[.t 11],none⟩,⟨some 136,(.call Zeu),[.t 129,.t 134,.t 135],none⟩,⟨some 137,.unot,[.t 136],none⟩]
def Z206 : List Z2a := [
  ⟨some 6,.mov,[.c (.bool false)],none⟩]
def Z207 : List Z2a := [
  ⟨some 138,(.bin .add),[.t 111,.c (.int .i64 1)],none⟩,⟨some 111,.mov,[.t 138],none⟩]
def Z208 : Z2b := (.seq (.region Z1zv [0,5,8,109,110,111,112]) (.seq (.cond (.t 112) .skip (.exit 0)) (.seq (.block 1 (.seq (.region Z1zw [0,5,8,10,11,109,110,111]) (.seq (.region Z1zx [0,5,8,10,11,12,109,110,111]) (.seq (.seq (.region Z1zy [0,5,8,10,11,12,109,110,111,118]) (.block 2 (.seq (.region Z1zz [0,5,8,10,11,12,109,110,111,118,119]) (.cond (.t 119) (.region Z200 [0,5,8,11,12,109,110,111]) (.seq (.region Z201 [0,5,8,10,11,12,109,110,111,118,121]) (.cond (.t 121) (.region Z202 [0,5,8,11,12,109,110,111]) (.seq (.region Z203 [0,5,8,11,12,109,110,111,125]) (.cond (.t 125) (.region Z204 [0,5,8,11,12,109,110,111]) .skip)))))))) (.seq (.region Z205 [0,5,8,109,110,111,137]) (.cond (.t 137) (.seq (.region Z206 [6]) .ret) .skip)))))) (.region Z207 [0,5,8,109,110,111]))))
def Z209 : List Z2a := [
  ⟨some 6,.mov,[.c (.bool true)],none⟩]
def Z20a : Z2y := ⟨139,(.seq (.region Z1ze [0,1,5]) (.seq (.region Z1zf [0,5,7,8]) (.seq (.seq (.region Z1zg [0,5,7,8,31]) (.cond (.t 31) (.seq (.region Z1zh [6]) .ret) .skip)) (.seq (.region Z1zi [0,5,7,8]) (.seq (.seq (.region Z1zj [0,5,7,8,45]) (.cond (.t 45) (.seq (.region Z1zk [6]) .ret) .skip)) (.seq (.region Z1zl [0,5,7,8,9]) (.seq (.seq (.region Z1zm [0,5,7,8,9,50]) (.cond (.t 50) (.region Z1zn [0,5,7,8,9]) .skip)) (.seq (.seq (.region Z1zo [0,5,7,8,9,63]) (.cond (.t 63) (.region Z1zp [0,5,7,8,9]) .skip)) (.seq (.seq (.region Z1zq [0,5,7,8,9,76]) (.cond (.t 76) (.region Z1zr [0,5,7,8,9]) .skip)) (.seq (.seq (.region Z1zs [0,5,7,8,91]) (.cond (.t 91) (.region Z1zt [0,5,8]) .skip)) (.seq (.seq (.region Z1zu [0,5,8,109,110,111]) (.block 0 (.loop Z208))) (.seq (.region Z209 [6]) .ret)))))))))))),[.t 6]⟩
def Z254 : List Z2a := [
  ⟨some 3,(.box 6),[.t 0],none⟩,⟨some 6,.mov,[.c (.bool false)],none⟩]
def Z255 : List Z2a := [
  ⟨some 17,(.call Zdi),[],none⟩,⟨some 18,.unot,[.t 17],none⟩]
def Z256 : List Z2a := [
  ⟨some 6,.mov,[.c (.bool false)],none⟩]
def Z257 : List Z2a := [
  ⟨some 19,(.load true 6),[.t 3],none⟩,⟨some 20,.mov,[.t 1],none⟩,⟨some 21,(.call Zcp),[.t 19,.t 20],none⟩,⟨some 22,.unot,[.t 21],none⟩,⟨some 23,.mov,[.t 22],none⟩,⟨some 24,.mov,[.t 2],some (23,false)⟩,⟨some 25,.lens,[.t 24],some (23,false)⟩,⟨some 26,(.bin .eql),[.t 25,.c (.int .i64 0)],some (23,false)⟩,⟨some 27,.pick,[.t 23,.c (.bool true),.t 26],none⟩,⟨some 28,.mov,[.t 27],none⟩,⟨some 29,.mov,[.t 2],some (28,false)⟩,⟨some 30,.lens,[.t 29],some (28,false)⟩,⟨some 31,(.bin .gtr),[.t 30,.c (.int .i64 20)],some (28,false)⟩,⟨some 32,.pick,[.t 28,.c (.bool true),.t 31],none⟩,⟨some 33,.mov,[.t 32],none⟩,⟨some 34,(.load true 6),[.t 3],some (33,false)⟩,⟨some 35,(.call Zd7),[.t 34],some (33,false)⟩,⟨some 36,(.bin .neq),[.t 35,.c (.int .i64 0)],some (33,false)⟩,⟨some 37,.pick,[.t 33,.c (.bool true),.t 36],none⟩]
def Z258 : List Z2a := [
  ⟨some 6,.mov,[.c (.bool true)],none⟩]
def Z259 : List Z2a := [
  ⟨some 38,(.load true 6),[.t 3],none⟩,⟨some 39,(.call Zcr),[.t 38],none⟩,⟨some 7,.mov,[.t 39],none⟩]
def Z25a : List Z2a := [
  ⟨some 41,.mov,[.t 7],none⟩,⟨some 42,.mov,[.t 2],none⟩,⟨some 43,(.call Zdu),[.t 41,.t 42],none⟩,⟨some 40,.mov,[.t 43],none⟩,⟨some 44,(.ext 0),[.t 40],none⟩,⟨some 45,(.ext 1),[.t 40],none⟩,⟨some 8,.mov,[.t 44],none⟩,⟨some 9,.mov,[.t 45],none⟩]
def Z25b : List Z2a := [
  ⟨some 47,(.load true 6),[.t 3],none⟩,⟨some 48,.mov,[.t 1],none⟩,⟨some 49,(.call Zcq),[.t 47,.t 48],none⟩,⟨some 46,.mov,[.t 49],none⟩,⟨some 50,(.ext 0),[.t 46],none⟩,⟨some 51,(.ext 1),[.t 46],none⟩,⟨some 10,.mov,[.t 50],none⟩,⟨some 11,.mov,[.t 51],none⟩]
def Z25c : List Z2a := [
  ⟨some 52,.mov,[.t 9],none⟩,⟨some 53,(.bin .neq),[.t 52,.c (.int .i64 0)],none⟩,⟨some 54,.mov,[.t 53],none⟩,⟨some 55,.mov,[.t 11],some (54,false)⟩,⟨some 56,(.bin .neq),[.t 55,.c (.int .i64 0)],some (54,false)⟩,⟨some 57,.pick,[.t 54,.c (.bool true),.t 56],none⟩]
def Z25d : List Z2a := [
  ⟨some 6,.mov,[.c (.bool true)],none⟩]
def Z25e : List Z2a := [
  ⟨some 12,.mov,[.c (.slc 0 [] true)],none⟩]
def Z25f : List Z2a := [
  ⟨some 13,.mov,[.c (.int .i64 0)],none⟩]
def Z25g : List Z2a := [
  ⟨some 58,.mov,[.t 13],none⟩,⟨some 59,.mov,[.t 10],none⟩,⟨some 60,.lens,[.t 59],none⟩,⟨some 61,(.bin .lss),[.t 58,.t 60],none⟩]
def Z25h : List Z2a := [
  ⟨some 64,.mov,[.t 8],none⟩,⟨some 65,.mov,[.t 13],none⟩,⟨some 66,(.iad 1),[.t 64,.t 65],none⟩,⟨some 67,(.load false 1),[.t 66],none⟩]
def Z25i : List Z2a := [
  ⟨some 68,.mov,[.t 12],none⟩,⟨some 69,.mov,[.t 10],none⟩,⟨some 70,.mov,[.t 13],none⟩,⟨some 71,(.iad 5),[.t 69,.t 70],none⟩,⟨some 72,(.load true 5),[.t 71],none⟩,⟨some 73,(.call Zcu),[.t 72],none⟩,⟨some 74,(.bsl 5),[.t 73],none⟩,⟨some 75,(.app 5 120),[.t 68,.t 74],none⟩,⟨some 12,.mov,[.t 75],none⟩]
def Z25j : List Z2a := [
  ⟨some 76,.mov,[.t 12],none⟩,⟨some 77,(.bsl 1),[.c (.int .i64 1)],none⟩,⟨some 78,(.bld [(.slc 0 [] true),(.slc 0 [] true),(.slc 0 [] true),(.slc 0 [] true),(.slc 0 [] true)] [(1,1)]),[.t 77],none⟩,⟨some 79,(.bsl 5),[.t 78],none⟩,⟨some 80,(.app 5 120),[.t 76,.t 79],none⟩,⟨some 12,.mov,[.t 80],none⟩]
def Z25k : List Z2a := [
  ⟨some 62,.mov,[.t 13],none⟩,⟨some 63,(.bin .add),[.t 62,.c (.int .i64 1)],none⟩,⟨some 13,.mov,[.t 63],none⟩]
def Z25l : Z2b := (.seq (.seq (.region Z25g [1,3,7,8,10,12,13,61]) (.cond (.t 61) .skip (.exit 0))) (.seq (.block 1 (.seq (.region Z25h [1,3,7,8,10,12,13,67]) (.cond (.t 67) (.region Z25i [1,3,7,8,10,12,13]) (.region Z25j [1,3,7,8,10,12,13])))) (.region Z25k [1,3,7,8,10,12,13])))
def Z25m : List Z2a := [
  ⟨some 82,(.load true 6),[.t 3],none⟩,⟨some 83,.mov,[.t 12],none⟩,⟨some 84,.mov,[.t 1],none⟩,⟨some 85,.lens,[.t 84],none⟩,⟨some 86,.mov,[.t 8],none⟩,⟨some 87,(.call Zdp),[.t 82,.t 83,.t 85,.t 86],none⟩,⟨some 81,.mov,[.t 87],none⟩,⟨some 88,(.ext 0),[.t 81],none⟩,⟨some 89,(.ext 1),[.t 81],none⟩,⟨some 14,.mov,[.t 88],none⟩,⟨some 15,.mov,[.t 89],none⟩]
def Z25n : List Z2a := [
  ⟨some 90,.mov,[.t 15],none⟩,⟨some 91,(.bin .neq),[.t 90,.c (.int .i64 0)],none⟩,⟨some 92,.mov,[.t 91],none⟩,⟨some 93,.mov,[.t 14],some (92,false)⟩,⟨some 94,.lens,[.t 93],some (92,false)⟩,⟨some 95,.mov,[.t 1],some (92,false)⟩,⟨some 96,.lens,[.t 95],some (92,false)⟩,⟨some 97,(.bin .neq),[.t 94,.t 96],some (92,false)⟩,⟨some 98,.pick,[.t 92,.c (.bool true),.t 97],none⟩]
def Z25o : List Z2a := [
  ⟨some 6,.mov,[.c (.bool false)],none⟩]
def Z25p : List Z2a := [
  ⟨some 16,.mov,[.c (.int .i64 0)],none⟩]
def Z25q : List Z2a := [
  ⟨some 99,.mov,[.t 16],none⟩,⟨some 100,.mov,[.t 14],none⟩,⟨some 101,.lens,[.t 100],none⟩,⟨some 102,(.bin .lss),[.t 99,.t 101],none⟩]
def Z25r : List Z2a := [
  ⟨some 105,.mov,[.t 14],none⟩,⟨some 106,.mov,[.t 16],none⟩,⟨some 107,(.iad 5),[.t 105,.t 106],none⟩,⟨some 108,(.load true 5),[.t 107],none⟩,⟨some 109,.mov,[.t 7],none⟩,⟨some 110,.mov,[.t 8],none⟩,⟨some 111,.mov,[.t 1],none⟩,⟨some 112,.mov,[.t 16],none⟩,⟨some 113,(.iad 5),[.t 111,.t 112],none⟩,⟨some 114,(.load true 5),[.t 113],none⟩,⟨some 115,(.callp Zdw),[.t 109,.t 110,.c (.int .i64 0),.t 114],none⟩,⟨some 116,(.call Zd2),[.t 108,.t 115],none⟩,⟨some 117,.unot,[.t 116],none⟩]
def Z25s : List Z2a := [
  ⟨some 6,.mov,[.c (.bool false)],none⟩]
def Z25t : List Z2a := [
  ⟨some 103,.mov,[.t 16],none⟩,⟨some 104,(.bin .add),[.t 103,.c (.int .i64 1)],none⟩,⟨some 16,.mov,[.t 104],none⟩]
def Z25u : Z2b := (.seq (.seq (.region Z25q [1,7,8,14,16,102]) (.cond (.t 102) .skip (.exit 2))) (.seq (.block 3 (.seq (.region Z25r [1,7,8,14,16,117]) (.cond (.t 117) (.seq (.region Z25s [6]) .ret) .skip))) (.region Z25t [1,7,8,14,16])))
def Z25v : List Z2a := [
  ⟨some 6,.mov,[.c (.bool true)],none⟩]
def Z25w : Z2y := ⟨118,(.seq (.region Z254 [1,2,3]) (.seq (.seq (.region Z255 [1,2,3,18]) (.cond (.t 18) (.seq (.region Z256 [6]) .ret) .skip)) (.seq (.seq (.region Z257 [1,2,3,37]) (.cond (.t 37) (.seq (.region Z258 [6]) .ret) .skip)) (.seq (.region Z259 [1,2,3,7]) (.seq (.region Z25a [1,3,7,8,9]) (.seq (.region Z25b [1,3,7,8,9,10,11]) (.seq (.seq (.region Z25c [1,3,7,8,10,57]) (.cond (.t 57) (.seq (.region Z25d [6]) .ret) .skip)) (.seq (.region Z25e [1,3,7,8,10,12]) (.seq (.seq (.region Z25f [1,3,7,8,10,12,13]) (.block 0 (.loop Z25l))) (.seq (.region Z25m [1,7,8,14,15]) (.seq (.seq (.region Z25n [1,7,8,14,98]) (.cond (.t 98) (.seq (.region Z25o [6]) .ret) .skip)) (.seq (.seq (.region Z25p [1,7,8,14,16]) (.block 2 (.loop Z25u))) (.seq (.region Z25v [6]) .ret))))))))))))),[.t 6]⟩
def Z25x : List Z2a := [
  ⟨some 1,(.box 5),[.t 0],none⟩,⟨some 2,(.alloc (.agg [(.slc 0 [] true),(.slc 0 [] true),(.slc 0 [] true),(.slc 0 [] true),(.slc 0 [] true)])),[],none⟩]
def Z25y : List Z2a := [
  ⟨some 3,(.fad 0),[.t 1],none⟩,⟨some 4,(.load false 1),[.t 3],none⟩,⟨some 5,(.fad 1),[.t 1],none⟩,⟨some 6,(.load false 1),[.t 5],none⟩,⟨some 7,(.fad 2),[.t 1],none⟩,⟨some 8,(.load false 1),[.t 7],none⟩,⟨some 9,(.fad 3),[.t 1],none⟩,⟨some 10,(.load false 1),[.t 9],none⟩,⟨some 11,(.fad 4),[.t 1],none⟩,⟨some 12,(.load false 1),[.t 11],none⟩,⟨some 13,(.bld [(.slc 0 [] true),(.slc 0 [] true),(.slc 0 [] true),(.slc 0 [] true),(.slc 0 [] true)] [(0,1),(1,1),(2,1),(3,1),(4,1)]),[.t 4,.t 6,.t 8,.t 10,.t 12],none⟩,⟨none,(.store 5),[.t 2,.t 13],none⟩]
def Z25z : Z2y := ⟨14,(.seq (.region Z25x [1,2]) (.seq (.region Z25y [2]) .ret)),[.cell 2 true 5]⟩
def Z20y : List Z2a := [
  ⟨some 0,.mov,[.c (.bool false)],none⟩]
def Z20z : List Z2a := [
  ⟨some 8,(.bsl 1),[.c (.str [97])],none⟩,⟨some 9,(.bld [(.int .i64 0),(.slc 0 [] true),(.slc 0 [] true),(.int .i64 0),(.int .i64 0),(.int .i64 0)] [(0,1)]),[.c (.int .i64 3)],none⟩,⟨some 10,(.bsl 6),[.t 9],none⟩,⟨some 11,(.bld [(.int .i64 0),(.slc 0 [] true),(.slc 0 [] true),(.int .i64 0),(.int .i64 0),(.int .i64 0)] [(0,1),(2,1)]),[.c (.int .i64 10),.t 10],none⟩,⟨some 12,(.bsl 6),[.t 11],none⟩,⟨some 13,(.bld [(.int .i64 0),(.slc 0 [] true),(.slc 0 [] true),(.int .i64 0),(.int .i64 0),(.int .i64 0)] [(0,1),(1,1),(2,1)]),[.c (.int .i64 12),.t 8,.t 12],none⟩,⟨some 1,(.alloc (.agg [(.int .i64 0),(.slc 0 [] true),(.slc 0 [] true),(.int .i64 0),(.int .i64 0),(.int .i64 0)])),[],none⟩,⟨none,(.store 6),[.t 1,.t 13],none⟩]
def Z210 : List Z2a := [
  ⟨some 14,(.bld [(.bool false),(.int .i64 0),(.int .i64 0),(.slc 0 [] true),(.slc 0 [] true)] [(1,1)]),[.c (.int .i64 1)],none⟩,⟨some 15,(.bld [(.bool false),(.int .i64 0),(.int .i64 0),(.slc 0 [] true),(.slc 0 [] true)] [(0,1)]),[.c (.bool true)],none⟩,⟨some 16,(.bsl 5),[.t 14,.t 15],none⟩,⟨some 17,(.bld [(.bool false),(.int .i64 0),(.int .i64 0),(.slc 0 [] true),(.slc 0 [] true)] [(4,1)]),[.t 16],none⟩,⟨some 18,(.bsl 5),[.t 17],none⟩,⟨some 19,(.bld [(.bool false),(.int .i64 0),(.int .i64 0),(.slc 0 [] true),(.slc 0 [] true)] [(4,1)]),[.t 18],none⟩,⟨some 20,(.bld [(.bool false),(.int .i64 0),(.int .i64 0),(.slc 0 [] true),(.slc 0 [] true)] [(0,1)]),[.c (.bool true)],none⟩,⟨some 21,(.bsl 5),[.t 20],none⟩,⟨some 22,(.bld [(.bool false),(.int .i64 0),(.int .i64 0),(.slc 0 [] true),(.slc 0 [] true)] [(4,1)]),[.t 21],none⟩,⟨some 23,(.bsl 5),[.t 19,.t 22],none⟩,⟨some 2,.mov,[.t 23],none⟩]
def Z211 : List Z2a := [
  ⟨some 25,(.load true 6),[.t 1],none⟩,⟨some 26,.mov,[.t 2],none⟩,⟨some 27,(.call Zdj),[.t 25,.t 26],none⟩,⟨some 24,.mov,[.t 27],none⟩,⟨some 28,(.ext 0),[.t 24],none⟩,⟨some 29,(.ext 1),[.t 24],none⟩,⟨some 3,.mov,[.t 28],none⟩,⟨some 4,.mov,[.t 29],none⟩]
def Z212 : List Z2a := [
  ⟨some 30,.mov,[.t 4],none⟩,⟨some 31,(.bin .neq),[.t 30,.c (.int .i64 0)],none⟩,⟨some 32,.mov,[.t 31],none⟩,⟨some 33,.mov,[.t 3],some (32,false)⟩,⟨some 34,.lens,[.t 33],some (32,false)⟩,⟨some 35,(.bin .neq),[.t 34,.c (.int .i64 3)],some (32,false)⟩,⟨some 36,.pick,[.t 32,.c (.bool true),.t 35],none⟩]
def Z213 : List Z2a := [
  ⟨some 0,.mov,[.c (.bool false)],none⟩]
def Z214 : List Z2a := [
  ⟨some 38,(.load true 6),[.t 1],none⟩,⟨some 39,.mov,[.t 3],none⟩,⟨some 40,(.call Zdp),[.t 38,.t 39,.c (.int .i64 2),.c (.slc 0 [] true)],none⟩,⟨some 37,.mov,[.t 40],none⟩,⟨some 41,(.ext 0),[.t 37],none⟩,⟨some 42,(.ext 1),[.t 37],none⟩,⟨some 5,.mov,[.t 41],none⟩,⟨some 6,.mov,[.t 42],none⟩]
def Z215 : List Z2a := [
  ⟨some 43,(.load true 6),[.t 1],none⟩,⟨some 44,(.call Zcs),[.t 43],none⟩,⟨some 45,.mov,[.t 3],none⟩,⟨some 46,(.call Zdn),[.t 44,.t 45,.c (.int .i64 2)],none⟩,⟨some 7,.mov,[.t 46],none⟩]
def Z216 : List Z2a := [
  ⟨some 47,.mov,[.t 6],none⟩,⟨some 48,(.bin .eql),[.t 47,.c (.int .i64 0)],none⟩,⟨some 49,.mov,[.t 48],none⟩,⟨some 50,.mov,[.t 5],some (49,true)⟩,⟨some 51,.lens,[.t 50],some (49,true)⟩,⟨some 52,(.bin .eql),[.t 51,.c (.int .i64 2)],some (49,true)⟩,⟨some 53,.pick,[.t 49,.t 52,.c (.bool false)],none⟩,⟨some 54,.mov,[.t 53],none⟩,⟨some 55,.mov,[.t 5],some (54,true)⟩,⟨some 56,(.iad 5),[.t 55,.c (.int .i64 0)],some (54,true)⟩,⟨some 57,(.load true 5),[.t 56],some (54,true)⟩,⟨some 58,.mov,[.t 2],some (54,true)⟩,⟨some 59,(.iad 5),[.t 58,.c (.int .i64 0)],some (54,true)⟩,⟨some 60,(.load true 5),[.t 59],some (54,true)⟩,⟨some 61,(.call Zd2),[.t 57,.t 60],some (54,true)⟩,⟨some 62,.pick,[.t 54,.t 61,.c (.bool false)],none⟩,⟨some 63,.mov,[.t 62],none⟩,⟨some 64,.mov,[.t 5],some (63,true)⟩,⟨some 65,(.iad 5),[.t 64,.c (.int .i64 1)],some (63,true)⟩,⟨some 66,(.load true 5),[.t 65],some (63,true)⟩,⟨some 67,.mov,[.t 2],some (63,true)⟩,⟨some 68,(.iad 5),[.t 67,.c (.int .i64 1)],some (63,true)⟩,⟨some 69,(.load true 5),[.t 68],some (63,true)⟩,⟨some 70,(.call Zd2),[.t 66,.t 69],some (63,true)⟩,⟨some 71,.pick,[.t 63,.t 70,.c (.bool false)],none⟩,⟨some 72,.mov,[.t 71],none⟩,⟨some 73,.mov,[.t 7],some (72,true)⟩,⟨some 74,.lens,[.t 73],some (72,true)⟩,⟨some 75,(.bin .eql),[.t 74,.c (.int .i64 3)],some (72,true)⟩,⟨some 76,.pick,[.t 72,.t 75,.c (.bool false)],none⟩,⟨some 77,.mov,[.t 76],none⟩,⟨some 78,.mov,[.t 7],some (77,true)⟩,⟨some 79,(.iad 1),[.t 78,.c (.int .i64 2)],some (77,true)⟩,⟨some 80,(.load false 1),[.t 79],some (77,true)⟩,⟨some 81,(.bin .eql),[.t 80,.c (.int .i64 2)],some (77,true)⟩,⟨some 82,.pick,[.t 77,.t 81,.c (.bool false)],none⟩,⟨some 83,.mov,[.t 82],none⟩,⟨some 84,.mov,[.t 3],some (83,true)⟩,⟨some 85,(.iad 5),[.t 84,.c (.int .i64 1)],some (83,true)⟩,⟨some 86,(.load true 5),[.t 85],some (83,true)⟩,⟨some 87,(.call Zdl),[.t 86],some (83,true)⟩,⟨some 88,.pick,[.t 83,.t 87,.c (.bool false)],none⟩,⟨some 89,.mov,[.t 88],none⟩,⟨some 90,.mov,[.t 3],some (89,true)⟩,⟨some 91,(.iad 5),[.t 90,.c (.int .i64 0)],some (89,true)⟩,⟨some 92,(.load true 5),[.t 91],some (89,true)⟩,⟨some 93,(.call Zdl),[.t 92],some (89,true)⟩,⟨some 94,.unot,[.t 93],some (89,true)⟩,⟨some 95,.pick,[.t 89,.t 94,.c (.bool false)],none⟩,⟨some 96,.mov,[.t 95],none⟩,⟨some 97,.mov,[.t 3],some (96,true)⟩,⟨some 98,(.iad 5),[.t 97,.c (.int .i64 2)],some (96,true)⟩,⟨some 99,(.fad 1),[.t 98],some (96,true)⟩,⟨some 100,(.load false 1),[.t 99],some (96,true)⟩,⟨some 101,.lens,[.t 100],some (96,true)⟩,⟨some 102,(.bin .eql),[.t 101,.c (.int .i64 1)],some (96,true)⟩,⟨some 103,.pick,[.t 96,.t 102,.c (.bool false)],none⟩,⟨some 0,.mov,[.t 103],none⟩]
def Z217 : Z2y := ⟨104,(.seq (.region Z20y []) (.seq (.region Z20z [1]) (.seq (.region Z210 [1,2]) (.seq (.region Z211 [1,2,3,4]) (.seq (.seq (.region Z212 [1,2,3,36]) (.cond (.t 36) (.seq (.region Z213 [0]) .ret) .skip)) (.seq (.region Z214 [1,2,3,5,6]) (.seq (.region Z215 [2,3,5,6,7]) (.seq (.region Z216 [0]) .ret)))))))),[.t 0]⟩
end Go.Abs
namespace Go.Abs
open Go Go.Proofs
theorem Z218 : Z2z Try.prog [] Zdj = some Z1zd.erase := by kernel_rfl
theorem Z219 : Z2z Try.prog [(13, 8), (13, 7)] Zeu = some Z20a.erase := by kernel_rfl
theorem Z260 : Z2z Try.prog [(23, 10)] Zcj = some Z25w.erase := by kernel_rfl
theorem Z261 : Z2z Try.prog [] Zcu = some Z25z.erase := by kernel_rfl
theorem Z21b : Z2z Try.prog [] Zdi = some Z217.erase := by kernel_rfl
end Go.Abs
namespace Go.Abs
open Go Go.Proofs
set_option linter.unusedVariables false
set_option linter.unusedSimpArgs false
set_option maxHeartbeats 4000000
attribute [local irreducible] AWp aops KP
theorem Z21c {c : Z2b} {R R' : Z87} (hR : ∀ F σ, R .normal F σ = AWp Try.prog Z20a.n c R' F σ) (b at_ : Nat) (ws : List Z0) (w : Z0) (hw : ws[at_]? = some w) (C : Col) (β : Zc) (hG : ColG w C β) (hl : C.here.length ≤ 16384)
    (v : Vl) (W M : Z0) (ρ : Zc)
    (h : ∀ w' β', ColG w' (Zyg (!v.null) C) β' → AWp Try.prog Z20a.n c R' (fset 0 (some W) (fset 5 (some (.iptr (Zm6 v))) (fset 7 (some (.ptr b at_ 0)) (fset 8 (some M) Z27)))) ((b, .cells 5 (ws.set at_ w')) :: (β' ++ ρ))) :
    AWp Try.prog Z20a.n (.region Z1zi [0, 5, 7, 8]) R (fset 0 (some W) (fset 5 (some (.iptr (Zm6 v))) (fset 7 (some (.ptr b at_ 0)) (fset 8 (some M) Z27)))) ((b, .cells 5 ws) :: (β ++ ρ)) := by
  obtain ⟨v1, v2, v3, v4, v5, β1, β2, β3, β4, β5, rfl, g1, g2, g3, g4, g5, rfl⟩ := hG
  refine Z8a (FSub.refl _) (show HSub (β1 ++ ((b, .cells 5 ws) :: (([]) ++ (β2 ++ (β3 ++ (β4 ++ (β5 ++ (ρ)))))))) ((b, .cells 5 ws) :: ((β1 ++ (β2 ++ (β3 ++ (β4 ++ β5)))) ++ ρ)) from by
    have := @Zyo b (.cells 5 ws) ([]) β1 (β2 ++ (β3 ++ (β4 ++ (β5 ++ (ρ)))))
    simpa [List.append_assoc] using this) ?_
  refine Z89 fun nd => ?_
  refine Zbm hR ?_
  (repeat (refine st_q rfl rfl rfl ?_))
  refine Z92 rfl (Zyd nd) hw rfl ?_
  (repeat (refine st_q rfl rfl rfl ?_))
  refine Zbs g1 rfl (ys := [.bool (!v.null)]) rfl (by rw [List.length_singleton]; simp only [Zy8, List.length_map]; omega) fun b' hb' => ?_
  have hne : b' ≠ b := fun e => hb' (by rw [e]; simp [Zh])
  (repeat (refine st_q rfl rfl rfl ?_))
  refine Z9a rfl (Z90 hne Z8z) hw (by decide) (Kfi rfl) (fun h => by cases h) (Z9c hne Z9b) ?_
  (refine Z8y ?_; (repeat (first | refine Z9v rfl ?_ | refine Z9w ?_)); refine Z9u ?_)
  have e : List.map Z0.bool (C.here) ++ [.bool (!v.null)] = List.map Z0.bool ((Zyg (!v.null) C).here) := by simp [Zyg]
  rw [e]
  refine Z8a (FSub.refl _) (show HSub ((b, .cells 5 (ws.set at_ (.agg [(.arr 1 b' 0 (List.map Z0.bool ((Zyg (!v.null) C).here)).length), v2, v3, v4, v5]))) :: (([(b', .cells 1 (List.map Z0.bool ((Zyg (!v.null) C).here)))] ++ (β2 ++ (β3 ++ (β4 ++ β5)))) ++ ρ)) ((b', .cells 1 (List.map Z0.bool ((Zyg (!v.null) C).here))) :: (b, .cells 5 (ws.set at_ (.agg [(.arr 1 b' 0 (List.map Z0.bool ((Zyg (!v.null) C).here)).length), v2, v3, v4, v5]))) :: (([]) ++ (β2 ++ (β3 ++ (β4 ++ (β5 ++ (ρ))))))) from by
    have := @Zyp b (.cells 5 (ws.set at_ (.agg [(.arr 1 b' 0 (List.map Z0.bool ((Zyg (!v.null) C).here)).length), v2, v3, v4, v5]))) ([]) [(b', .cells 1 (List.map Z0.bool ((Zyg (!v.null) C).here)))] (β2 ++ (β3 ++ (β4 ++ (β5 ++ (ρ)))))
    simpa [List.append_assoc] using this) ?_
  exact h _ _ ⟨_, _, _, _, _, [(b', .cells 1 (List.map Z0.bool ((Zyg (!v.null) C).here)))], β2, β3, β4, β5, rfl, Zbr.mk, g2, g3, g4, g5, rfl⟩
theorem Z21d {c : Z2b} {R R' : Z87} (hR : ∀ F σ, R .normal F σ = AWp Try.prog Z20a.n c R' F σ) (b at_ : Nat) (ws : List Z0) (w : Z0) (hw : ws[at_]? = some w) (C : Col) (β : Zc) (hG : ColG w C β) (hl : C.ints.length ≤ 16384)
    (v : Vl) (W M H : Z0) (ρ : Zc)
    (h : ∀ w' β', ColG w' ({ C with ints := C.ints ++ [v.i] }) β' → AWp Try.prog Z20a.n c R' (fset 0 (some W) (fset 5 (some (.iptr (Zm6 v))) (fset 7 (some (.ptr b at_ 0)) (fset 8 (some M) (fset 9 (some H) Z27))))) ((b, .cells 5 (ws.set at_ w')) :: (β' ++ ρ))) :
    AWp Try.prog Z20a.n (.region Z1zn [0, 5, 7, 8, 9]) R (fset 0 (some W) (fset 5 (some (.iptr (Zm6 v))) (fset 7 (some (.ptr b at_ 0)) (fset 8 (some M) (fset 9 (some H) Z27))))) ((b, .cells 5 ws) :: (β ++ ρ)) := by
  obtain ⟨v1, v2, v3, v4, v5, β1, β2, β3, β4, β5, rfl, g1, g2, g3, g4, g5, rfl⟩ := hG
  refine Z8a (FSub.refl _) (show HSub (β2 ++ ((b, .cells 5 ws) :: ((β1) ++ (β3 ++ (β4 ++ (β5 ++ (ρ))))))) ((b, .cells 5 ws) :: ((β1 ++ (β2 ++ (β3 ++ (β4 ++ β5)))) ++ ρ)) from by
    have := @Zyo b (.cells 5 ws) (β1) β2 (β3 ++ (β4 ++ (β5 ++ (ρ))))
    simpa [List.append_assoc] using this) ?_
  refine Z89 fun nd => ?_
  refine Zbm hR ?_
  (repeat (refine st_q rfl rfl rfl ?_))
  refine Z92 rfl (Zyd nd) hw rfl ?_
  (repeat (refine st_q rfl rfl rfl ?_))
  refine Zbs g2 rfl (ys := [.int .i64 v.i]) rfl (by rw [List.length_singleton]; simp only [Zy8, List.length_map]; omega) fun b' hb' => ?_
  have hne : b' ≠ b := fun e => hb' (by rw [e]; simp [Zh])
  (repeat (refine st_q rfl rfl rfl ?_))
  refine Z9a rfl (Z90 hne Z8z) hw (by decide) (Kfi rfl) (fun h => by cases h) (Z9c hne Z9b) ?_
  (refine Z8y ?_; (repeat (first | refine Z9v rfl ?_ | refine Z9w ?_)); refine Z9u ?_)
  have e : List.map (Z0.int .i64) (C.ints) ++ [.int .i64 v.i] = List.map (Z0.int .i64) ({ C with ints := C.ints ++ [v.i] }.ints) := by simp
  rw [e]
  refine Z8a (FSub.refl _) (show HSub ((b, .cells 5 (ws.set at_ (.agg [v1, (.arr 1 b' 0 (List.map (Z0.int .i64) ({ C with ints := C.ints ++ [v.i] }.ints)).length), v3, v4, v5]))) :: ((β1 ++ ([(b', .cells 1 (List.map (Z0.int .i64) ({ C with ints := C.ints ++ [v.i] }.ints)))] ++ (β3 ++ (β4 ++ β5)))) ++ ρ)) ((b', .cells 1 (List.map (Z0.int .i64) ({ C with ints := C.ints ++ [v.i] }.ints))) :: (b, .cells 5 (ws.set at_ (.agg [v1, (.arr 1 b' 0 (List.map (Z0.int .i64) ({ C with ints := C.ints ++ [v.i] }.ints)).length), v3, v4, v5]))) :: ((β1) ++ (β3 ++ (β4 ++ (β5 ++ (ρ)))))) from by
    have := @Zyp b (.cells 5 (ws.set at_ (.agg [v1, (.arr 1 b' 0 (List.map (Z0.int .i64) ({ C with ints := C.ints ++ [v.i] }.ints)).length), v3, v4, v5]))) (β1) [(b', .cells 1 (List.map (Z0.int .i64) ({ C with ints := C.ints ++ [v.i] }.ints)))] (β3 ++ (β4 ++ (β5 ++ (ρ))))
    simpa [List.append_assoc] using this) ?_
  exact h _ _ ⟨_, _, _, _, _, β1, [(b', .cells 1 (List.map (Z0.int .i64) ({ C with ints := C.ints ++ [v.i] }.ints)))], β3, β4, β5, rfl, g1, Zbr.mk, g3, g4, g5, rfl⟩
theorem Z21e {c : Z2b} {R R' : Z87} (hR : ∀ F σ, R .normal F σ = AWp Try.prog Z20a.n c R' F σ) (b at_ : Nat) (ws : List Z0) (w : Z0) (hw : ws[at_]? = some w) (C : Col) (β : Zc) (hG : ColG w C β) (hl : C.ns.length ≤ 16384)
    (v : Vl) (W M H : Z0) (ρ : Zc)
    (h : ∀ w' β', ColG w' ({ C with ns := C.ns ++ [v.n] }) β' → AWp Try.prog Z20a.n c R' (fset 0 (some W) (fset 5 (some (.iptr (Zm6 v))) (fset 7 (some (.ptr b at_ 0)) (fset 8 (some M) (fset 9 (some H) Z27))))) ((b, .cells 5 (ws.set at_ w')) :: (β' ++ ρ))) :
    AWp Try.prog Z20a.n (.region Z1zp [0, 5, 7, 8, 9]) R (fset 0 (some W) (fset 5 (some (.iptr (Zm6 v))) (fset 7 (some (.ptr b at_ 0)) (fset 8 (some M) (fset 9 (some H) Z27))))) ((b, .cells 5 ws) :: (β ++ ρ)) := by
  obtain ⟨v1, v2, v3, v4, v5, β1, β2, β3, β4, β5, rfl, g1, g2, g3, g4, g5, rfl⟩ := hG
  refine Z8a (FSub.refl _) (show HSub (β3 ++ ((b, .cells 5 ws) :: ((β1 ++ β2) ++ (β4 ++ (β5 ++ (ρ)))))) ((b, .cells 5 ws) :: ((β1 ++ (β2 ++ (β3 ++ (β4 ++ β5)))) ++ ρ)) from by
    have := @Zyo b (.cells 5 ws) (β1 ++ β2) β3 (β4 ++ (β5 ++ (ρ)))
    simpa [List.append_assoc] using this) ?_
  refine Z89 fun nd => ?_
  refine Zbm hR ?_
  (repeat (refine st_q rfl rfl rfl ?_))
  refine Z92 rfl (Zyd nd) hw rfl ?_
  (repeat (refine st_q rfl rfl rfl ?_))
  refine Zbs g3 rfl (ys := [.int .i64 v.n]) rfl (by rw [List.length_singleton]; simp only [Zy8, List.length_map]; omega) fun b' hb' => ?_
  have hne : b' ≠ b := fun e => hb' (by rw [e]; simp [Zh])
  (repeat (refine st_q rfl rfl rfl ?_))
  refine Z9a rfl (Z90 hne Z8z) hw (by decide) (Kfi rfl) (fun h => by cases h) (Z9c hne Z9b) ?_
  (refine Z8y ?_; (repeat (first | refine Z9v rfl ?_ | refine Z9w ?_)); refine Z9u ?_)
  have e : List.map (Z0.int .i64) (C.ns) ++ [.int .i64 v.n] = List.map (Z0.int .i64) ({ C with ns := C.ns ++ [v.n] }.ns) := by simp
  rw [e]
  refine Z8a (FSub.refl _) (show HSub ((b, .cells 5 (ws.set at_ (.agg [v1, v2, (.arr 1 b' 0 (List.map (Z0.int .i64) ({ C with ns := C.ns ++ [v.n] }.ns)).length), v4, v5]))) :: ((β1 ++ (β2 ++ ([(b', .cells 1 (List.map (Z0.int .i64) ({ C with ns := C.ns ++ [v.n] }.ns)))] ++ (β4 ++ β5)))) ++ ρ)) ((b', .cells 1 (List.map (Z0.int .i64) ({ C with ns := C.ns ++ [v.n] }.ns))) :: (b, .cells 5 (ws.set at_ (.agg [v1, v2, (.arr 1 b' 0 (List.map (Z0.int .i64) ({ C with ns := C.ns ++ [v.n] }.ns)).length), v4, v5]))) :: ((β1 ++ β2) ++ (β4 ++ (β5 ++ (ρ))))) from by
    have := @Zyp b (.cells 5 (ws.set at_ (.agg [v1, v2, (.arr 1 b' 0 (List.map (Z0.int .i64) ({ C with ns := C.ns ++ [v.n] }.ns)).length), v4, v5]))) (β1 ++ β2) [(b', .cells 1 (List.map (Z0.int .i64) ({ C with ns := C.ns ++ [v.n] }.ns)))] (β4 ++ (β5 ++ (ρ)))
    simpa [List.append_assoc] using this) ?_
  exact h _ _ ⟨_, _, _, _, _, β1, β2, [(b', .cells 1 (List.map (Z0.int .i64) ({ C with ns := C.ns ++ [v.n] }.ns)))], β4, β5, rfl, g1, g2, Zbr.mk, g4, g5, rfl⟩
theorem Z21f {c : Z2b} {R R' : Z87} (hR : ∀ F σ, R .normal F σ = AWp Try.prog Z20a.n c R' F σ) (b at_ : Nat) (ws : List Z0) (w : Z0) (hw : ws[at_]? = some w) (C : Col) (β : Zc) (hG : ColG w C β) (hl : C.texts.length ≤ 16384)
    (v : Vl) (hb : v.b.length ≤ 4096) (W M H : Z0) (ρ : Zc)
    (h : ∀ w' β', ColG w' ({ C with texts := C.texts ++ [v.b] }) β' → AWp Try.prog Z20a.n c R' (fset 0 (some W) (fset 5 (some (.iptr (Zm6 v))) (fset 7 (some (.ptr b at_ 0)) (fset 8 (some M) (fset 9 (some H) Z27))))) ((b, .cells 5 (ws.set at_ w')) :: (β' ++ ρ))) :
    AWp Try.prog Z20a.n (.region Z1zr [0, 5, 7, 8, 9]) R (fset 0 (some W) (fset 5 (some (.iptr (Zm6 v))) (fset 7 (some (.ptr b at_ 0)) (fset 8 (some M) (fset 9 (some H) Z27))))) ((b, .cells 5 ws) :: (β ++ ρ)) := by
  obtain ⟨v1, v2, v3, v4, v5, β1, β2, β3, β4, β5, rfl, g1, g2, g3, g4, g5, rfl⟩ := hG
  refine Z8a (FSub.refl _) (show HSub (β4 ++ ((b, .cells 5 ws) :: ((β1 ++ β2 ++ β3) ++ (β5 ++ (ρ))))) ((b, .cells 5 ws) :: ((β1 ++ (β2 ++ (β3 ++ (β4 ++ β5)))) ++ ρ)) from by
    have := @Zyo b (.cells 5 ws) (β1 ++ β2 ++ β3) β4 (β5 ++ (ρ))
    simpa [List.append_assoc] using this) ?_
  refine Z89 fun nd => ?_
  refine Zbm hR ?_
  (repeat (refine st_q rfl rfl rfl ?_))
  refine Z92 rfl (Zyd nd) hw rfl ?_
  (repeat (refine st_q rfl rfl rfl ?_))
  refine Zbw rfl (Zue (bytes v.b) false (fun x hx => by obtain ⟨y, _, rfl⟩ := List.mem_map.1 hx; exact ⟨rfl, by simp [Zx, Z0.cells, Z0.one]⟩) (by rw [Zam]; omega)) ?_
  refine Zbw rfl (fun σ => Z21.le (Zua (bytes v.b) false σ) VRle.full) ?_
  (repeat (refine st_q rfl rfl rfl ?_))
  refine Zbs g4 rfl (ys := [.slc 1 (bytes v.b) false]) rfl (by rw [List.length_singleton]; simp only [Zy8, List.length_map]; omega) fun b' hb' => ?_
  have hne : b' ≠ b := fun e => hb' (by rw [e]; simp [Zh])
  (repeat (refine st_q rfl rfl rfl ?_))
  refine Z9a rfl (Z90 hne Z8z) hw (by decide) (Kfi rfl) (fun h => by cases h) (Z9c hne Z9b) ?_
  (refine Z8y ?_; (repeat (first | refine Z9v rfl ?_ | refine Z9w ?_)); refine Z9u ?_)
  have e : Zy8 (C.texts) ++ [.slc 1 (bytes v.b) false] = Zy8 ({ C with texts := C.texts ++ [v.b] }.texts) := by simp [Zy8]
  rw [e]
  refine Z8a (FSub.refl _) (show HSub ((b, .cells 5 (ws.set at_ (.agg [v1, v2, v3, (.arr 1 b' 0 (Zy8 ({ C with texts := C.texts ++ [v.b] }.texts)).length), v5]))) :: ((β1 ++ (β2 ++ (β3 ++ ([(b', .cells 1 (Zy8 ({ C with texts := C.texts ++ [v.b] }.texts)))] ++ β5)))) ++ ρ)) ((b', .cells 1 (Zy8 ({ C with texts := C.texts ++ [v.b] }.texts))) :: (b, .cells 5 (ws.set at_ (.agg [v1, v2, v3, (.arr 1 b' 0 (Zy8 ({ C with texts := C.texts ++ [v.b] }.texts)).length), v5]))) :: ((β1 ++ β2 ++ β3) ++ (β5 ++ (ρ)))) from by
    have := @Zyp b (.cells 5 (ws.set at_ (.agg [v1, v2, v3, (.arr 1 b' 0 (Zy8 ({ C with texts := C.texts ++ [v.b] }.texts)).length), v5]))) (β1 ++ β2 ++ β3) [(b', .cells 1 (Zy8 ({ C with texts := C.texts ++ [v.b] }.texts)))] (β5 ++ (ρ))
    simpa [List.append_assoc] using this) ?_
  exact h _ _ ⟨_, _, _, _, _, β1, β2, β3, [(b', .cells 1 (Zy8 ({ C with texts := C.texts ++ [v.b] }.texts)))], β5, rfl, g1, g2, g3, Zbr.mk, g5, rfl⟩
theorem Z21g {c : Z2b} {R R' : Z87} (hR : ∀ F σ, R .normal F σ = AWp Try.prog Z20a.n c R' F σ) (b at_ : Nat) (ws : List Z0) (w : Z0) (hw : ws[at_]? = some w) (C : Col) (β : Zc) (hG : ColG w C β) (hl : C.lens.length ≤ 16384)
    (v : Vl) (hk : v.kids.length ≤ 9223372036854775807) (k1 n0 n2 n3 n4 n5 n6 n7 : Z0) (W : Z0) (ρ : Zc)
    (h : ∀ w' β', ColG w' ({ C with lens := C.lens ++ [(v.kids.length : Int)] }) β' → AWp Try.prog Z20a.n c R' (fset 0 (some W) (fset 5 (some (.iptr (Zm6 v))) (fset 8 (some (.iptr [n0, .slc 1 [k1] true, n2, n3, n4, n5, n6, n7])) Z27))) ((b, .cells 5 (ws.set at_ w')) :: (β' ++ ρ))) :
    AWp Try.prog Z20a.n (.region Z1zt [0, 5, 8]) R (fset 0 (some W) (fset 5 (some (.iptr (Zm6 v))) (fset 7 (some (.ptr b at_ 0)) (fset 8 (some (.iptr [n0, .slc 1 [k1] true, n2, n3, n4, n5, n6, n7])) Z27)))) ((b, .cells 5 ws) :: (β ++ ρ)) := by
  obtain ⟨v1, v2, v3, v4, v5, β1, β2, β3, β4, β5, rfl, g1, g2, g3, g4, g5, rfl⟩ := hG
  refine Z8a (FSub.refl _) (show HSub (β5 ++ ((b, .cells 5 ws) :: ((β1 ++ β2 ++ β3 ++ β4) ++ (ρ)))) ((b, .cells 5 ws) :: ((β1 ++ (β2 ++ (β3 ++ (β4 ++ β5)))) ++ ρ)) from by
    have := @Zyo b (.cells 5 ws) (β1 ++ β2 ++ β3 ++ β4) β5 (ρ)
    simpa [List.append_assoc] using this) ?_
  refine Z89 fun nd => ?_
  refine Zbm hR ?_
  (repeat (refine st_q rfl rfl rfl ?_))
  refine Z92 rfl (Zyd nd) hw rfl ?_
  (repeat (refine st_q rfl rfl rfl ?_))
  refine Zbs g5 rfl (ys := [.int .i64 (IntKind.wrap .i64 (((Zm5 v.kids).length : Int).tdiv 1))]) rfl (by rw [List.length_singleton]; simp only [Zy8, List.length_map]; omega) fun b' hb' => ?_
  have hne : b' ≠ b := fun e => hb' (by rw [e]; simp [Zh])
  (repeat (refine st_q rfl rfl rfl ?_))
  refine Z9a rfl (Z90 hne Z8z) hw (by decide) (Kfi rfl) (fun h => by cases h) (Z9c hne Z9b) ?_
  (refine Z8y ?_; (repeat (first | refine Z9v rfl ?_ | refine Z9w ?_)); refine Z9u ?_)
  have e : List.map (Z0.int .i64) (C.lens) ++ [.int .i64 (IntKind.wrap .i64 (((Zm5 v.kids).length : Int).tdiv 1))] = List.map (Z0.int .i64) ({ C with lens := C.lens ++ [(v.kids.length : Int)] }.lens) := by rw [Zm9, show IntKind.wrap .i64 ((v.kids.length : Int).tdiv 1) = (v.kids.length : Int) by rw [Int.tdiv_one, w64 _ (by omega) (by omega)]]; simp
  rw [e]
  refine Z8a (FSub.refl _) (show HSub ((b, .cells 5 (ws.set at_ (.agg [v1, v2, v3, v4, (.arr 1 b' 0 (List.map (Z0.int .i64) ({ C with lens := C.lens ++ [(v.kids.length : Int)] }.lens)).length)]))) :: ((β1 ++ (β2 ++ (β3 ++ (β4 ++ [(b', .cells 1 (List.map (Z0.int .i64) ({ C with lens := C.lens ++ [(v.kids.length : Int)] }.lens)))])))) ++ ρ)) ((b', .cells 1 (List.map (Z0.int .i64) ({ C with lens := C.lens ++ [(v.kids.length : Int)] }.lens))) :: (b, .cells 5 (ws.set at_ (.agg [v1, v2, v3, v4, (.arr 1 b' 0 (List.map (Z0.int .i64) ({ C with lens := C.lens ++ [(v.kids.length : Int)] }.lens)).length)]))) :: ((β1 ++ β2 ++ β3 ++ β4) ++ (ρ))) from by
    have := @Zyp b (.cells 5 (ws.set at_ (.agg [v1, v2, v3, v4, (.arr 1 b' 0 (List.map (Z0.int .i64) ({ C with lens := C.lens ++ [(v.kids.length : Int)] }.lens)).length)]))) (β1 ++ β2 ++ β3 ++ β4) [(b', .cells 1 (List.map (Z0.int .i64) ({ C with lens := C.lens ++ [(v.kids.length : Int)] }.lens)))] (ρ)
    simpa [List.append_assoc] using this) ?_
  exact h _ _ ⟨_, _, _, _, _, β1, β2, β3, β4, [(b', .cells 1 (List.map (Z0.int .i64) ({ C with lens := C.lens ++ [(v.kids.length : Int)] }.lens)))], rfl, g1, g2, g3, g4, Zbr.mk, rfl⟩
theorem Z21h {c : Z2b} {R R' : Z87} (hR : ∀ F σ, R .normal F σ = AWp Try.prog Z20a.n c R' F σ) (b at_ : Nat) (ws : List Z0) (w : Z0) (hw : ws[at_]? = some w) (C : Col) (β : Zc) (hG : ColG w C β) (hl : C.lens.length ≤ 16384)
    (v : Vl) (hk : v.kids.length ≤ 9223372036854775807) (k1 k2 n0 n2 n3 n4 n5 n6 n7 : Z0) (W : Z0) (ρ : Zc)
    (h : ∀ w' β', ColG w' ({ C with lens := C.lens ++ [((v.kids.length / 2 : Nat) : Int)] }) β' → AWp Try.prog Z20a.n c R' (fset 0 (some W) (fset 5 (some (.iptr (Zm6 v))) (fset 8 (some (.iptr [n0, .slc 1 [k1, k2] true, n2, n3, n4, n5, n6, n7])) Z27))) ((b, .cells 5 (ws.set at_ w')) :: (β' ++ ρ))) :
    AWp Try.prog Z20a.n (.region Z1zt [0, 5, 8]) R (fset 0 (some W) (fset 5 (some (.iptr (Zm6 v))) (fset 7 (some (.ptr b at_ 0)) (fset 8 (some (.iptr [n0, .slc 1 [k1, k2] true, n2, n3, n4, n5, n6, n7])) Z27)))) ((b, .cells 5 ws) :: (β ++ ρ)) := by
  obtain ⟨v1, v2, v3, v4, v5, β1, β2, β3, β4, β5, rfl, g1, g2, g3, g4, g5, rfl⟩ := hG
  refine Z8a (FSub.refl _) (show HSub (β5 ++ ((b, .cells 5 ws) :: ((β1 ++ β2 ++ β3 ++ β4) ++ (ρ)))) ((b, .cells 5 ws) :: ((β1 ++ (β2 ++ (β3 ++ (β4 ++ β5)))) ++ ρ)) from by
    have := @Zyo b (.cells 5 ws) (β1 ++ β2 ++ β3 ++ β4) β5 (ρ)
    simpa [List.append_assoc] using this) ?_
  refine Z89 fun nd => ?_
  refine Zbm hR ?_
  (repeat (refine st_q rfl rfl rfl ?_))
  refine Z92 rfl (Zyd nd) hw rfl ?_
  (repeat (refine st_q rfl rfl rfl ?_))
  refine Zbs g5 rfl (ys := [.int .i64 (IntKind.wrap .i64 (((Zm5 v.kids).length : Int).tdiv 2))]) rfl (by rw [List.length_singleton]; simp only [Zy8, List.length_map]; omega) fun b' hb' => ?_
  have hne : b' ≠ b := fun e => hb' (by rw [e]; simp [Zh])
  (repeat (refine st_q rfl rfl rfl ?_))
  refine Z9a rfl (Z90 hne Z8z) hw (by decide) (Kfi rfl) (fun h => by cases h) (Z9c hne Z9b) ?_
  (refine Z8y ?_; (repeat (first | refine Z9v rfl ?_ | refine Z9w ?_)); refine Z9u ?_)
  have e : List.map (Z0.int .i64) (C.lens) ++ [.int .i64 (IntKind.wrap .i64 (((Zm5 v.kids).length : Int).tdiv 2))] = List.map (Z0.int .i64) ({ C with lens := C.lens ++ [((v.kids.length / 2 : Nat) : Int)] }.lens) := by rw [Zm9, quo2 _ hk]; simp
  rw [e]
  refine Z8a (FSub.refl _) (show HSub ((b, .cells 5 (ws.set at_ (.agg [v1, v2, v3, v4, (.arr 1 b' 0 (List.map (Z0.int .i64) ({ C with lens := C.lens ++ [((v.kids.length / 2 : Nat) : Int)] }.lens)).length)]))) :: ((β1 ++ (β2 ++ (β3 ++ (β4 ++ [(b', .cells 1 (List.map (Z0.int .i64) ({ C with lens := C.lens ++ [((v.kids.length / 2 : Nat) : Int)] }.lens)))])))) ++ ρ)) ((b', .cells 1 (List.map (Z0.int .i64) ({ C with lens := C.lens ++ [((v.kids.length / 2 : Nat) : Int)] }.lens))) :: (b, .cells 5 (ws.set at_ (.agg [v1, v2, v3, v4, (.arr 1 b' 0 (List.map (Z0.int .i64) ({ C with lens := C.lens ++ [((v.kids.length / 2 : Nat) : Int)] }.lens)).length)]))) :: ((β1 ++ β2 ++ β3 ++ β4) ++ (ρ))) from by
    have := @Zyp b (.cells 5 (ws.set at_ (.agg [v1, v2, v3, v4, (.arr 1 b' 0 (List.map (Z0.int .i64) ({ C with lens := C.lens ++ [((v.kids.length / 2 : Nat) : Int)] }.lens)).length)]))) (β1 ++ β2 ++ β3 ++ β4) [(b', .cells 1 (List.map (Z0.int .i64) ({ C with lens := C.lens ++ [((v.kids.length / 2 : Nat) : Int)] }.lens)))] (ρ)
    simpa [List.append_assoc] using this) ?_
  exact h _ _ ⟨_, _, _, _, _, β1, β2, β3, β4, [(b', .cells 1 (List.map (Z0.int .i64) ({ C with lens := C.lens ++ [((v.kids.length / 2 : Nat) : Int)] }.lens)))], rfl, g1, g2, g3, g4, Zbr.mk, rfl⟩
end Go.Abs
namespace Go.Abs
open Go Go.Proofs
set_option linter.unusedVariables false
set_option linter.unusedSimpArgs false
set_option maxHeartbeats 4000000
attribute [local irreducible] AWp aops KP
theorem Z21i (l : List Nd) : ∀ (v : Vl), v.Fit → ∀ (t : Ty) (at_ : Nat), At l at_ t → t.Ok → vchk t v = 0 → ∀ (ws : List Z0) (cs : List Col) (β : Zc) (b : Nat) (σ : Zc), Zy9 ws cs β → cs.length = l.length → cs.length ≤ 1000 → (∀ c ∈ cs, c.Sm) →
    Z1q Try.prog Zeu [.iptr [.slc 8 (l.map encN) true, .arr 5 b 0 cs.length], .int .i64 (at_ : Int), encV v] ((b, .cells 5 ws) :: (β ++ σ)) fun r σ' => ∃ ws' β', Zy9 ws' (putF l at_ v cs).1 β' ∧ r = .bool (putF l at_ v cs).2 ∧ σ' = (b, .cells 5 ws') :: (β' ++ σ) := by
  refine Vl.ind fun nu i n bs vks ih hfit t at_ hAt hok hchk ws cs β b σ hG hlen h1000 hSm => ?_
  cases hfit with
  | mk hi hbl hkl hkids =>
  have hatl := hAt.lt
  cases hAt with
  | @mk _ _ nd hnd ht hkn hkds =>
  have hat : at_ < cs.length := by omega
  have hwl : at_ < ws.length := by rw [hG.len]; exact hat
  obtain ⟨w, hw⟩ : ∃ w, ws[at_]? = some w := ⟨_, List.getElem?_eq_getElem hwl⟩
  obtain ⟨c, hc⟩ : ∃ c, cs[at_]? = some c := ⟨_, List.getElem?_eq_getElem hat⟩
  have hcSm := hSm c (List.mem_of_getElem? hc)
  have hcD : cs.getD at_ col0 = c := by rw [List.getD_eq_getElem?_getD, hc, Option.getD_some]
  have hnd' : (l.map encN)[((at_ : Nat) : Int).toNat]? = some (encN nd) := by rw [Int.toNat_natCast, List.getElem?_map, hnd]; rfl
  obtain ⟨β1, γ, hC, hperm, hback⟩ := hG.pick at_ w c hw hc
  rw [Zm7]
  generalize hX : putF l at_ (.mk nu i n bs vks) cs = X
  rw [putF, hcD] at hX
  refine Z8t rfl Z219 (Nat.le_of_ble_eq_true rfl) ?_
  refine Z9z ?_
  refine Z9j rfl (Kfi rfl) fun b7 hb7 => ?_
  (repeat (refine st_q rfl rfl rfl ?_))
  (refine Z8y ?_; (repeat (first | refine Z9v rfl ?_ | refine Z9w ?_)); refine Z9u ?_)
  refine Zb3 (d := 5) (cs := Zm6 (.mk nu i n bs vks)) rfl ?_
  refine Z9z ?_
  (repeat (refine st_q rfl rfl rfl ?_))
  refine Z94 rfl ⟨by omega, by omega⟩ ?_
  rw [show 0 + ((at_ : Nat) : Int).toNat = at_ from by simp]
  (repeat (refine st_q rfl rfl rfl ?_))
  refine Z93 rfl (by omega) hnd' ?_
  (repeat (refine st_q rfl rfl rfl ?_))
  refine Z9k (by simp [Z0.cells, Z0.one]) fun b8 hb8 => ?_
  (repeat (refine st_q rfl rfl rfl ?_))
  (first | refine Z9a rfl Z8z rfl (by decide) (Kfi rfl) (fun h => by cases h) Z9b ?_ | refine Z8v rfl (Z9a rfl Z8z rfl (by decide) (Kfi rfl) (fun h => by cases h) Z9b ?_))
  (refine Z8y ?_; (repeat (first | refine Z9v rfl ?_ | refine Z9w ?_)); refine Z9u ?_)
  refine Zb3 (d := 8) (cs := Zm2 nd) rfl ?_
  (refine Z9y (keep := [0, 5, 7, 8]) ?_; ((repeat (first | refine Z9v rfl ?_ | refine Z9w ?_)); refine Z9u ?_))
  have hp1 : HSub ((b, .cells 5 ws) :: (β1 ++ (γ ++ σ))) ((b, .cells 5 ws) :: (β ++ σ)) := HSub.of_perm (List.Perm.cons _ (by rw [← List.append_assoc]; exact (hperm.symm).append_right σ))
  have hp2 : HSub ((b, .cells 5 ws) :: (β ++ σ)) ((b, .cells 5 ws) :: (β1 ++ (γ ++ σ))) := HSub.of_perm (List.Perm.cons _ (by rw [← List.append_assoc]; exact hperm.append_right σ))
  refine Z8a (FSub.refl _) hp1 ?_
  have hC' := hC
  obtain ⟨v1, v2, v3, v4, v5, α1, α2, α3, α4, α5, rfl, g1, g2, g3, g4, g5, rfl⟩ := hC'
  refine awp_seq ?_
  refine awp_seq ?_
  refine Zbm (fun _ _ => rfl) ?_
  (repeat (refine st_q rfl rfl rfl ?_))
  refine Z92 rfl Z8z hw rfl ?_
  refine st_q rfl g1.lens rfl ?_
  (repeat (refine st_q rfl rfl rfl ?_))
  (refine Z8y ?_; (repeat (first | refine Z9v rfl ?_ | refine Z9w ?_)); refine Z9u ?_)
  rw [List.length_map]
  refine Za3 (p := (c.here.length : Int) ≥ 16384) rfl (fun h3 => ?_) (fun h3 => ?_)
  · rw [if_pos (by omega)] at hX
    subst hX
    (repeat (first | refine st_q rfl rfl rfl ?_ | (refine Z8y ?_; (repeat (first | refine Z9v rfl ?_ | refine Z9w ?_)); refine Z9u ?_) | refine awp_seq ?_ | refine Zbm (fun _ _ => rfl) ?_))
    refine Z8d ?_
    exact ares rfl hp2 ⟨ws, β, hG, rfl, rfl⟩
  rw [if_neg (by omega)] at hX
  refine Zbn (fun _ _ => rfl) ?_
  refine awp_seq ?_
  (refine Z9y (keep := [0, 5, 7, 8]) ?_; ((repeat (first | refine Z9v rfl ?_ | refine Z9w ?_)); refine Z9u ?_))
  refine Z21c (fun _ _ => rfl) b at_ ws _ hw c _ hC (by omega) (.mk nu i n bs vks) _ _ (γ ++ σ) fun w1 β2 hC1 => ?_
  have hp3 : ∀ {x : Zb} {δ β' : Zc}, δ.Perm (β' ++ γ) → HSub ((b, x) :: (δ ++ σ)) ((b, x) :: (β' ++ (γ ++ σ))) := fun k => HSub.of_perm (List.Perm.cons _ (by rw [← List.append_assoc]; exact k.append_right σ))
  cases nu with
  | true =>
    rw [if_pos rfl] at hX
    subst hX
    (repeat (first | refine st_q rfl rfl rfl ?_ | (refine Z8y ?_; (repeat (first | refine Z9v rfl ?_ | refine Z9w ?_)); refine Z9u ?_) | refine awp_seq ?_ | refine Zbm (fun _ _ => rfl) ?_ | refine Kc1 rfl ?_))
    refine Z8d ?_
    obtain ⟨δ, k1, k2⟩ := hback w1 _ β2 hC1
    exact ares rfl (hp3 k2) ⟨_, δ, k1, rfl, rfl⟩
  | false =>
    rw [if_neg (by simp)] at hX
    have hown : ownV t i n bs vks.length = 0 ∧ Zmg t i 0 vks = 0 := by
      rw [vchk, if_neg (by simp)] at hchk
      split at hchk
      · omega
      · exact ⟨by omega, hchk⟩
    have hbs : bs.length ≤ 4096 := by
      have h1' := hown.1
      unfold ownV at h1'
      split at h1'
      · omega
      · split at h1'
        · omega
        · rename_i h2
          omega
    have hkind : Zyh l at_ = t.kind := by rw [Zyh, hnd]; exact congrArg Ty.kind ht
    have htk : nd.t.kind = t.kind := congrArg Ty.kind ht
    rw [hkind] at hX
    have hC1 : ColG w1 (Zyg true c) β2 := hC1
    have b1 := hcSm.texts
    have b2 := hcSm.here
    have b3 := hcSm.lens
    have b4 := hcSm.ints
    have b5 := hcSm.ns
    have hw1 : ∀ w', (ws.set at_ w')[at_]? = some w' := fun w' => by rw [List.getElem?_set_self hwl]
    have fin : ∀ w3 β4, ColG w3 (addC t.kind (.mk false i n bs vks) c) β4 → AWp Try.prog Z20a.n (Z20a.code.snd 10) (ARet Z20a.res fun r σ' => ∃ ws' β', Zy9 ws' X.fst β' ∧ r = Z0.bool X.snd ∧ σ' = (b, Zb.cells 5 ws') :: (β' ++ σ))
        (fset 0 (some (.iptr [.slc 8 (l.map encN) true, .arr 5 b 0 cs.length])) (fset 5 (some (.iptr (Zm6 (.mk false i n bs vks)))) (fset 8 (some (.iptr (Zm2 nd))) Z27))) ((b, .cells 5 (ws.set at_ w3)) :: (β4 ++ (γ ++ σ))) := by
      intro w3 β4 hC3
      obtain ⟨δ, k1, k2⟩ := hback w3 _ β4 hC3
      refine Z8a (FSub.refl _) (hp3 k2) ?_
      have hCs : ∀ x ∈ cs.set at_ (addC t.kind (.mk false i n bs vks) c), x.Sm := Z1i2 hSm (Z1i1 _ _ hcSm (by omega))
      have hevl : (Zm5 (Vl.mk false i n bs vks).kids).length = vks.length := Zm9 _
      (repeat (first | refine st_q rfl rfl rfl ?_ | (refine Z8y ?_; (repeat (first | refine Z9v rfl ?_ | refine Z9w ?_)); refine Z9u ?_) | refine awp_seq ?_ | refine Zbm (fun _ _ => rfl) ?_ | refine Z8h ?_))
      rw [hevl]
      obtain ⟨I, hI⟩ : ∃ I : Nat → Z26 → Zc → Prop, I = fun m F σ' => ∃ (j : Nat) (ws' : List Z0) (cs' : List Col) (β' : Zc), F = fset 0 (some (.iptr [.slc 8 (l.map encN) true, .arr 5 b 0 cs.length])) (fset 5 (some (.iptr (Zm6 (.mk false i n bs vks)))) (fset 8 (some (.iptr (Zm2 nd))) (fset 109 (some (.slc 5 (Zm5 vks) false)) (fset 110 (some (.int .i64 (vks.length : Nat))) (fset 111 (some (.int .i64 (j : Int))) Z27))))) ∧
        (b, Zb.cells 5 ws') :: (β' ++ σ) = σ' ∧ Zy9 ws' cs' β' ∧ cs'.length = cs.length ∧ (∀ x ∈ cs', x.Sm) ∧ j ≤ vks.length ∧ putL l at_ i j (vks.drop j) cs' = X ∧ Zmg t i j (vks.drop j) = 0 ∧ m = vks.length - j := ⟨_, rfl⟩
      refine Zaa I (n := vks.length)
        (by rw [hI]; exact ⟨0, _, _, δ, rfl, rfl, k1, List.length_set, hCs, by omega, hX, hown.2, rfl⟩) ?_
      intro m F σ' hIm
      rw [hI] at hIm
      obtain ⟨j, ws', cs', β', rfl, rfl, hG', hl', hS', hj, hXj, hvj, rfl⟩ := hIm
      have hkl' : vks.length ≤ 9223372036854775807 := hkl
      (repeat (first | refine st_q rfl rfl rfl ?_ | (refine Z8y ?_; (repeat (first | refine Z9v rfl ?_ | refine Z9w ?_)); refine Z9u ?_) | refine awp_seq ?_ | refine Zbm (fun _ _ => rfl) ?_))
      refine Za3 (p := (j : Int) < (vks.length : Int)) rfl (fun h5 => ?_) (fun h5 => ?_)
      · have hjl : j < vks.length := by omega
        have Zd : vks[j]? = some vks[j] := List.getElem?_eq_getElem hjl
        obtain ⟨hka, hi0⟩ := Ztv hok hown.1 hjl
        rw [List.drop_eq_getElem_cons hjl, Zmg] at hvj
        rw [List.drop_eq_getElem_cons hjl, putL] at hXj
        have hv0 : vchk (kidT t i j) vks[j] = 0 ∧ Zmg t i (j + 1) (vks.drop (j + 1)) = 0 := by
          split at hvj
          · omega
          · split at hvj
            · omega
            · exact ⟨by omega, hvj⟩
        have hleaf : Zlt t.kind = false := by
          cases e : Zlt t.kind with
          | false => rfl
          | true =>
            have := hown.1
            rw [ownV, if_pos (.inr (.inr ⟨by omega, e⟩))] at this
            omega
        have hkl2 : Zmf t.kind i j < nd.kids.length := by omega
        obtain ⟨kx, hkx⟩ : ∃ kx, nd.kids[Zmf t.kind i j]? = some kx := ⟨_, List.getElem?_eq_getElem hkl2⟩
        have hAtk : At l kx (kidT t i j) := hkds _ _ _ hkx (by rw [kidT, List.getD_eq_getElem?_getD, List.getElem?_eq_getElem hka]; rfl)
        have hkC : kidC l at_ t.kind i j = kx := by
          rw [kidC, hnd]
          show nd.kids.getD _ 0 = kx
          rw [List.getD_eq_getElem?_getD, hkx, Option.getD_some]
        rw [hkind, hkC] at hXj
        have hcall := ih vks[j] (List.getElem_mem hjl) (hkids _ (List.getElem_mem hjl)) (kidT t i j) kx hAtk (Ztw hok hka) hv0.1 ws' cs' β' b σ hG' (by omega) (by omega) hS'
        rw [hl'] at hcall
        have hxv : (Zm5 vks)[((j : Nat) : Int).toNat]? = some (encV vks[j]) := Zma (by rw [Int.toNat_natCast, Zd])
        have hxk : (ints nd.kids)[((Zmf t.kind i j : Nat) : Int).toNat]? = some (.int .i64 (kx : Int)) := by rw [Int.toNat_natCast]; simp [ints, hkx]
        rw [Zm7] at hcall hxv
        have hvnull : ∀ (u : Vl), Zm6 u = [.bool u.null, .int .i64 u.i, .int .i64 u.n, .slc 1 (bytes u.b) false, .slc 5 (Zm5 u.kids) false] := fun u => rfl
        generalize vks[j] = vj at hXj hcall hxv hv0
        have tail : AWp Try.prog Z20a.n (.seq (.region Z205 [0, 5, 8, 109, 110, 111, 137]) (.cond (.t 137) (.seq (.region Z206 [6]) .ret) .skip)) (Z8g 1 (Z8e Try.prog Z20a.n (.region Z207 [0, 5, 8, 109, 110, 111]) (Za9 I (vks.length - j) (Z8g 0 (Z8e Try.prog Z20a.n (Z20a.code.snd 11) (ARet Z20a.res fun r σ' => ∃ ws' β', Zy9 ws' X.fst β' ∧ r = Z0.bool X.snd ∧ σ' = (b, Zb.cells 5 ws') :: (β' ++ σ)))))))
            (fset 0 (some (.iptr [.slc 8 (l.map encN) true, .arr 5 b 0 cs.length])) (fset 5 (some (.iptr (Zm6 (.mk false i n bs vks)))) (fset 8 (some (.iptr (Zm2 nd))) (fset 11 (some (.iptr (Zm6 vj))) (fset 12 (some (.int .i64 (Zmf t.kind i j : Int))) (fset 109 (some (.slc 5 (Zm5 vks) false)) (fset 110 (some (.int .i64 (vks.length : Nat))) (fset 111 (some (.int .i64 (j : Int))) Z27)))))))) ((b, .cells 5 ws') :: (β' ++ σ)) := by
          refine Z9z ?_
          (repeat (refine st_q rfl rfl rfl ?_))
          refine Z93 rfl (by omega) hxk ?_
          (repeat (refine st_q rfl rfl rfl ?_))
          obtain ⟨wsx, βx, hx⟩ := Zy9.ex (putF l kx vj cs').1
          refine Z9s rfl hcall ⟨_, _, wsx, βx, hx, rfl, rfl⟩ ?_
          rintro r σ2 ⟨ws2, β5, hG2, rfl, rfl⟩
          (repeat (refine st_q rfl rfl rfl ?_))
          (refine Z8y ?_; (repeat (first | refine Z9v rfl ?_ | refine Z9w ?_)); refine Z9u ?_)
          have hlen2 := Z1i3 l vj kx cs'
          have hSm2 := Z1i4 l vj kx cs' hS'
          generalize putF l kx vj cs' = pr at hXj hG2 hlen2 hSm2
          obtain ⟨cs2, ok⟩ := pr
          cases ok with
          | true =>
            rw [if_pos rfl] at hXj
            (repeat (first | refine Zbn (fun _ _ => rfl) ?_ | refine Kc2 rfl ?_))
            refine Zbp ?_
            (repeat (refine st_q rfl rfl rfl ?_))
            rw [Kwr j (by omega)]
            (refine Z8y ?_; (repeat (first | refine Z9v rfl ?_ | refine Z9w ?_)); refine Z9u ?_)
            refine ⟨_, vks.length - (j + 1), HSub.refl _, ?_, by omega⟩
            rw [hI]
            exact ⟨j + 1, ws2, cs2, β5, rfl, rfl, hG2, by rw [← hl', ← hlen2], hSm2, by omega, hXj, hv0.2, rfl⟩
          | false =>
            rw [if_neg (by simp)] at hXj
            subst hXj
            (repeat (first | refine st_q rfl rfl rfl ?_ | (refine Z8y ?_; (repeat (first | refine Z9v rfl ?_ | refine Z9w ?_)); refine Z9u ?_) | refine awp_seq ?_ | refine Zbm (fun _ _ => rfl) ?_ | refine Kc1 rfl ?_))
            refine Z8d ?_
            exact Kar rfl ⟨ws2, β5, hG2, rfl, rfl⟩
        refine Zbn (fun _ _ => rfl) ?_
        refine awp_seq ?_
        refine Z8h ?_
        refine Z9z ?_
        (repeat (refine st_q rfl rfl rfl ?_))
        refine Z93 rfl (by omega) hxv ?_
        (repeat (refine st_q rfl rfl rfl ?_))
        refine Z9k (by simp [Z0.cells, Z0.one]) fun b11 hb11 => ?_
        (repeat (refine st_q rfl rfl rfl ?_))
        (first | refine Z9a rfl Z8z rfl (by decide) (Kfi rfl) (fun h => by cases h) Z9b ?_ | refine Z8v rfl (Z9a rfl Z8z rfl (by decide) (Kfi rfl) (fun h => by cases h) Z9b ?_))
        (refine Z8y ?_; (repeat (first | refine Z9v rfl ?_ | refine Z9w ?_)); refine Z9u ?_)
        refine Zb3 (d := 11) (cs := Zm6 vj) rfl ?_
        (refine Z9y (keep := [0, 5, 8, 10, 11, 109, 110, 111]) ?_; ((repeat (first | refine Z9v rfl ?_ | refine Z9w ?_)); refine Z9u ?_))
        refine Z9z ?_
        (repeat (refine st_q rfl rfl rfl ?_))
        (refine Z8y ?_; (repeat (first | refine Z9v rfl ?_ | refine Z9w ?_)); refine Z9u ?_)
        refine awp_seq ?_
        refine awp_seq ?_
        refine Zbm (fun _ _ => rfl) ?_
        (repeat (refine st_q rfl rfl rfl ?_))
        (refine Z8y ?_; (repeat (first | refine Z9v rfl ?_ | refine Z9w ?_)); refine Z9u ?_)
        refine Z8h ?_
        refine Z9z ?_
        (repeat (refine st_q rfl rfl rfl ?_))
        (refine Z8y ?_; (repeat (first | refine Z9v rfl ?_ | refine Z9w ?_)); refine Z9u ?_)
        rw [htk]
        refine Za3 (p := t.kind = 10) rfl (fun k10 => ?_) (fun k10 => ?_)
        · refine Zbm (fun _ _ => rfl) ?_
          (repeat (refine st_q rfl rfl rfl ?_))
          (refine Z8y ?_; (repeat (first | refine Z9v rfl ?_ | refine Z9w ?_)); refine Z9u ?_)
          have e : Zmf t.kind i j = 0 := by simp [Zmf, k10]
          rw [e] at tail
          exact tail
        refine Z9z ?_
        (repeat (refine st_q rfl rfl rfl ?_))
        (refine Z8y ?_; (repeat (first | refine Z9v rfl ?_ | refine Z9w ?_)); refine Z9u ?_)
        refine Za3 (p := t.kind = 11) rfl (fun k11 => ?_) (fun k11 => ?_)
        · refine Zbm (fun _ _ => rfl) ?_
          (repeat (refine st_q rfl rfl rfl ?_))
          (refine Z8y ?_; (repeat (first | refine Z9v rfl ?_ | refine Z9w ?_)); refine Z9u ?_)
          have e : ((Zmf t.kind i j : Nat) : Int) = (j : Int).tmod 2 := by
            rw [Int.tmod_eq_emod_of_nonneg (by omega)]
            simp [Zmf, k11]
          rw [e] at tail
          exact tail
        refine Z9z ?_
        (repeat (refine st_q rfl rfl rfl ?_))
        (refine Z8y ?_; (repeat (first | refine Z9v rfl ?_ | refine Z9w ?_)); refine Z9u ?_)
        refine Za3 (p := t.kind = 13) rfl (fun k13 => ?_) (fun k13 => ?_)
        · refine Zbm (fun _ _ => rfl) ?_
          (repeat (refine st_q rfl rfl rfl ?_))
          (refine Z8y ?_; (repeat (first | refine Z9v rfl ?_ | refine Z9w ?_)); refine Z9u ?_)
          have e : ((Zmf t.kind i j : Nat) : Int) = i := by
            have := hi0 k13
            simp [Zmf, k13]
            omega
          rw [e] at tail
          exact tail
        · refine Zbn (fun _ _ => rfl) ?_
          (refine Z9y (keep := [0, 5, 8, 11, 12, 109, 110, 111]) ?_; ((repeat (first | refine Z9v rfl ?_ | refine Z9w ?_)); refine Z9u ?_))
          have e : Zmf t.kind i j = j := by simp [Zmf, k10, k11, k13]
          rw [e] at tail
          exact tail
      · rw [List.drop_of_length_le (by omega), putL] at hXj
        subst hXj
        (repeat (first | refine st_q rfl rfl rfl ?_ | (refine Z8y ?_; (repeat (first | refine Z9v rfl ?_ | refine Z9w ?_)); refine Z9u ?_) | refine awp_seq ?_ | refine Zbm (fun _ _ => rfl) ?_ | refine Zbo (fun _ _ => rfl) ?_))
        refine Z8d ?_
        exact Kar rfl ⟨ws', β', hG', rfl, rfl⟩
    refine awp_seq ?_
    refine awp_seq ?_
    refine Zbm (fun _ _ => rfl) ?_
    (repeat (refine st_q rfl rfl rfl ?_))
    (refine Z8y ?_; (repeat (first | refine Z9v rfl ?_ | refine Z9w ?_)); refine Z9u ?_)
    refine Kc2 rfl ?_
    refine Zbn (fun _ _ => rfl) ?_
    (refine Z9y (keep := [0, 5, 7, 8]) ?_; ((repeat (first | refine Z9v rfl ?_ | refine Z9w ?_)); refine Z9u ?_))
    refine Z9z ?_
    (repeat (refine st_q rfl rfl rfl ?_))
    rw [htk]
    refine Z9t rfl (c_of t.kind _) ?_
    refine Z9k (by simp [Z0.cells, Z0.one]) fun b9 hb9 => ?_
    (repeat (refine st_q rfl rfl rfl ?_))
    (first | refine Z9a rfl Z8z rfl (by decide) (Kfi rfl) (fun h => by cases h) Z9b ?_ | refine Z8v rfl (Z9a rfl Z8z rfl (by decide) (Kfi rfl) (fun h => by cases h) Z9b ?_))
    (refine Z8y ?_; (repeat (first | refine Z9v rfl ?_ | refine Z9w ?_)); refine Z9u ?_)
    refine Zb3 (d := 9) (cs := Z1ry t.kind) rfl ?_
    (refine Z9y (keep := [0, 5, 7, 8, 9]) ?_; ((repeat (first | refine Z9v rfl ?_ | refine Z9w ?_)); refine Z9u ?_))
    rw [Z1ry]
    cases hT : Zmb t.kind with
    | true =>
      have hk := Z1jz hT
      rw [show intF t.kind = false by simp [intF, hT], show decide (t.kind = 9) = false from decide_eq_false (by omega), show lenF t.kind = false by simp [lenF]; omega]
      refine awp_seq ?_
      refine awp_seq ?_
      refine Zbm (fun _ _ => rfl) ?_
      (repeat (refine st_q rfl rfl rfl ?_))
      (refine Z8y ?_; (repeat (first | refine Z9v rfl ?_ | refine Z9w ?_)); refine Z9u ?_)
      refine Kc2 rfl ?_
      refine Zbn (fun _ _ => rfl) ?_
      (refine Z9y (keep := [0, 5, 7, 8, 9]) ?_; ((repeat (first | refine Z9v rfl ?_ | refine Z9w ?_)); refine Z9u ?_))
      refine awp_seq ?_
      refine awp_seq ?_
      refine Zbm (fun _ _ => rfl) ?_
      (repeat (refine st_q rfl rfl rfl ?_))
      (refine Z8y ?_; (repeat (first | refine Z9v rfl ?_ | refine Z9w ?_)); refine Z9u ?_)
      refine Kc2 rfl ?_
      refine Zbn (fun _ _ => rfl) ?_
      (refine Z9y (keep := [0, 5, 7, 8, 9]) ?_; ((repeat (first | refine Z9v rfl ?_ | refine Z9w ?_)); refine Z9u ?_))
      refine awp_seq ?_
      refine awp_seq ?_
      refine Zbm (fun _ _ => rfl) ?_
      (repeat (refine st_q rfl rfl rfl ?_))
      (refine Z8y ?_; (repeat (first | refine Z9v rfl ?_ | refine Z9w ?_)); refine Z9u ?_)
      refine Kc1 rfl ?_
      (refine Z9y (keep := [0, 5, 7, 8, 9]) ?_; ((repeat (first | refine Z9v rfl ?_ | refine Z9w ?_)); refine Z9u ?_))
      refine Z21f (fun _ _ => rfl) b at_ _ w1 (hw1 w1) (Zyg true c) β2 hC1 (show c.texts.length ≤ 16384 by omega) (.mk false i n bs vks) hbs _ _ _ (γ ++ σ) fun w' β' hC2 => ?_
      rw [List.set_set]
      refine awp_seq ?_
      refine awp_seq ?_
      refine Zbm (fun _ _ => rfl) ?_
      (repeat (refine st_q rfl rfl rfl ?_))
      (refine Z8y ?_; (repeat (first | refine Z9v rfl ?_ | refine Z9w ?_)); refine Z9u ?_)
      refine Kc2 rfl ?_
      refine Zbn (fun _ _ => rfl) ?_
      (refine Z9y (keep := [0, 5, 8]) ?_; ((repeat (first | refine Z9v rfl ?_ | refine Z9w ?_)); refine Z9u ?_))
      refine fin w' β' ?_
      rw [addC, Zyf, if_neg (by omega), Zye, if_pos hT]
      exact hC2
    | false =>
    by_cases k10 : t.kind = 10
    · rw [show intF t.kind = false by simp [intF, k10], show decide (t.kind = 9) = false from decide_eq_false (by omega), show lenF t.kind = true by simp [lenF, k10]]
      refine awp_seq ?_
      refine awp_seq ?_
      refine Zbm (fun _ _ => rfl) ?_
      (repeat (refine st_q rfl rfl rfl ?_))
      (refine Z8y ?_; (repeat (first | refine Z9v rfl ?_ | refine Z9w ?_)); refine Z9u ?_)
      refine Kc2 rfl ?_
      refine Zbn (fun _ _ => rfl) ?_
      (refine Z9y (keep := [0, 5, 7, 8, 9]) ?_; ((repeat (first | refine Z9v rfl ?_ | refine Z9w ?_)); refine Z9u ?_))
      refine awp_seq ?_
      refine awp_seq ?_
      refine Zbm (fun _ _ => rfl) ?_
      (repeat (refine st_q rfl rfl rfl ?_))
      (refine Z8y ?_; (repeat (first | refine Z9v rfl ?_ | refine Z9w ?_)); refine Z9u ?_)
      refine Kc2 rfl ?_
      refine Zbn (fun _ _ => rfl) ?_
      (refine Z9y (keep := [0, 5, 7, 8, 9]) ?_; ((repeat (first | refine Z9v rfl ?_ | refine Z9w ?_)); refine Z9u ?_))
      refine awp_seq ?_
      refine awp_seq ?_
      refine Zbm (fun _ _ => rfl) ?_
      (repeat (refine st_q rfl rfl rfl ?_))
      (refine Z8y ?_; (repeat (first | refine Z9v rfl ?_ | refine Z9w ?_)); refine Z9u ?_)
      refine Kc2 rfl ?_
      refine Zbn (fun _ _ => rfl) ?_
      (refine Z9y (keep := [0, 5, 7, 8, 9]) ?_; ((repeat (first | refine Z9v rfl ?_ | refine Z9w ?_)); refine Z9u ?_))
      refine awp_seq ?_
      refine awp_seq ?_
      refine Zbm (fun _ _ => rfl) ?_
      (repeat (refine st_q rfl rfl rfl ?_))
      (refine Z8y ?_; (repeat (first | refine Z9v rfl ?_ | refine Z9w ?_)); refine Z9u ?_)
      refine Kc1 rfl ?_
      (refine Z9y (keep := [0, 5, 7, 8]) ?_; ((repeat (first | refine Z9v rfl ?_ | refine Z9w ?_)); refine Z9u ?_))
      have hkl3 : nd.kids.length = 1 := by
        have := hok.kinds.1
        rw [Zlv] at this
        simp [k10] at this
        omega
      obtain ⟨x1, hx1⟩ : ∃ x1, nd.kids = [x1] := List.length_eq_one_iff.1 hkl3
      have fin' := fin
      rw [Zm2, hx1] at fin' ⊢
      refine Z21g (fun _ _ => rfl) b at_ _ w1 (hw1 w1) (Zyg true c) β2 hC1 (show c.lens.length ≤ 16384 by omega) (.mk false i n bs vks) hkl _ _ _ _ _ _ _ _ _ (γ ++ σ) fun w' β' hC2 => ?_
      rw [List.set_set]
      refine fin' w' β' ?_
      rw [addC, Zyf, if_neg (by omega), Zye, if_neg (by simp [hT]), if_pos k10]
      exact hC2
    by_cases k11 : t.kind = 11
    · rw [show intF t.kind = false by simp [intF, k11], show decide (t.kind = 9) = false from decide_eq_false (by omega), show lenF t.kind = true by simp [lenF, k11]]
      refine awp_seq ?_
      refine awp_seq ?_
      refine Zbm (fun _ _ => rfl) ?_
      (repeat (refine st_q rfl rfl rfl ?_))
      (refine Z8y ?_; (repeat (first | refine Z9v rfl ?_ | refine Z9w ?_)); refine Z9u ?_)
      refine Kc2 rfl ?_
      refine Zbn (fun _ _ => rfl) ?_
      (refine Z9y (keep := [0, 5, 7, 8, 9]) ?_; ((repeat (first | refine Z9v rfl ?_ | refine Z9w ?_)); refine Z9u ?_))
      refine awp_seq ?_
      refine awp_seq ?_
      refine Zbm (fun _ _ => rfl) ?_
      (repeat (refine st_q rfl rfl rfl ?_))
      (refine Z8y ?_; (repeat (first | refine Z9v rfl ?_ | refine Z9w ?_)); refine Z9u ?_)
      refine Kc2 rfl ?_
      refine Zbn (fun _ _ => rfl) ?_
      (refine Z9y (keep := [0, 5, 7, 8, 9]) ?_; ((repeat (first | refine Z9v rfl ?_ | refine Z9w ?_)); refine Z9u ?_))
      refine awp_seq ?_
      refine awp_seq ?_
      refine Zbm (fun _ _ => rfl) ?_
      (repeat (refine st_q rfl rfl rfl ?_))
      (refine Z8y ?_; (repeat (first | refine Z9v rfl ?_ | refine Z9w ?_)); refine Z9u ?_)
      refine Kc2 rfl ?_
      refine Zbn (fun _ _ => rfl) ?_
      (refine Z9y (keep := [0, 5, 7, 8, 9]) ?_; ((repeat (first | refine Z9v rfl ?_ | refine Z9w ?_)); refine Z9u ?_))
      refine awp_seq ?_
      refine awp_seq ?_
      refine Zbm (fun _ _ => rfl) ?_
      (repeat (refine st_q rfl rfl rfl ?_))
      (refine Z8y ?_; (repeat (first | refine Z9v rfl ?_ | refine Z9w ?_)); refine Z9u ?_)
      refine Kc1 rfl ?_
      (refine Z9y (keep := [0, 5, 7, 8]) ?_; ((repeat (first | refine Z9v rfl ?_ | refine Z9w ?_)); refine Z9u ?_))
      have hkl3 : nd.kids.length = 2 := by
        have := hok.kinds.1
        rw [Zlv] at this
        simp [k11] at this
        omega
      obtain ⟨x1, x2, hx1⟩ : ∃ x1 x2, nd.kids = [x1, x2] := by
        match nd.kids, hkl3 with
        | [a, b], _ => exact ⟨a, b, rfl⟩
      have fin' := fin
      rw [Zm2, hx1] at fin' ⊢
      refine Z21h (fun _ _ => rfl) b at_ _ w1 (hw1 w1) (Zyg true c) β2 hC1 (show c.lens.length ≤ 16384 by omega) (.mk false i n bs vks) hkl _ _ _ _ _ _ _ _ _ _ (γ ++ σ) fun w' β' hC2 => ?_
      rw [List.set_set]
      refine fin' w' β' ?_
      rw [addC, Zyf, if_neg (by omega), Zye, if_neg (by simp [hT]), if_neg (by omega), if_pos k11]
      exact hC2
    by_cases k12 : t.kind = 12
    · rw [show intF t.kind = false by simp [intF, k12], show decide (t.kind = 9) = false from decide_eq_false (by omega), show lenF t.kind = false by simp [lenF, k12]]
      refine awp_seq ?_
      refine awp_seq ?_
      refine Zbm (fun _ _ => rfl) ?_
      (repeat (refine st_q rfl rfl rfl ?_))
      (refine Z8y ?_; (repeat (first | refine Z9v rfl ?_ | refine Z9w ?_)); refine Z9u ?_)
      refine Kc2 rfl ?_
      refine Zbn (fun _ _ => rfl) ?_
      (refine Z9y (keep := [0, 5, 7, 8, 9]) ?_; ((repeat (first | refine Z9v rfl ?_ | refine Z9w ?_)); refine Z9u ?_))
      refine awp_seq ?_
      refine awp_seq ?_
      refine Zbm (fun _ _ => rfl) ?_
      (repeat (refine st_q rfl rfl rfl ?_))
      (refine Z8y ?_; (repeat (first | refine Z9v rfl ?_ | refine Z9w ?_)); refine Z9u ?_)
      refine Kc2 rfl ?_
      refine Zbn (fun _ _ => rfl) ?_
      (refine Z9y (keep := [0, 5, 7, 8, 9]) ?_; ((repeat (first | refine Z9v rfl ?_ | refine Z9w ?_)); refine Z9u ?_))
      refine awp_seq ?_
      refine awp_seq ?_
      refine Zbm (fun _ _ => rfl) ?_
      (repeat (refine st_q rfl rfl rfl ?_))
      (refine Z8y ?_; (repeat (first | refine Z9v rfl ?_ | refine Z9w ?_)); refine Z9u ?_)
      refine Kc2 rfl ?_
      refine Zbn (fun _ _ => rfl) ?_
      (refine Z9y (keep := [0, 5, 7, 8, 9]) ?_; ((repeat (first | refine Z9v rfl ?_ | refine Z9w ?_)); refine Z9u ?_))
      refine awp_seq ?_
      refine awp_seq ?_
      refine Zbm (fun _ _ => rfl) ?_
      (repeat (refine st_q rfl rfl rfl ?_))
      (refine Z8y ?_; (repeat (first | refine Z9v rfl ?_ | refine Z9w ?_)); refine Z9u ?_)
      refine Kc2 rfl ?_
      refine Zbn (fun _ _ => rfl) ?_
      (refine Z9y (keep := [0, 5, 8]) ?_; ((repeat (first | refine Z9v rfl ?_ | refine Z9w ?_)); refine Z9u ?_))
      refine fin w1 β2 ?_
      rw [addC, Zyf, if_neg (by omega), Zye, if_neg (by simp [hT]), if_neg k10, if_neg k11, if_neg (by omega)]
      exact hC1
    by_cases k9 : t.kind = 9
    · rw [show intF t.kind = true by simp [intF, hT, k10, k11, k12], show decide (t.kind = 9) = true from decide_eq_true k9, show lenF t.kind = false by simp [lenF, k10, k11]]
      refine awp_seq ?_
      refine awp_seq ?_
      refine Zbm (fun _ _ => rfl) ?_
      (repeat (refine st_q rfl rfl rfl ?_))
      (refine Z8y ?_; (repeat (first | refine Z9v rfl ?_ | refine Z9w ?_)); refine Z9u ?_)
      refine Kc1 rfl ?_
      (refine Z9y (keep := [0, 5, 7, 8, 9]) ?_; ((repeat (first | refine Z9v rfl ?_ | refine Z9w ?_)); refine Z9u ?_))
      refine Z21d (fun _ _ => rfl) b at_ _ w1 (hw1 w1) (Zyg true c) β2 hC1 (show c.ints.length ≤ 16384 by omega) (.mk false i n bs vks) _ _ _ (γ ++ σ) fun w2 β3 hC2 => ?_
      rw [List.set_set]
      refine awp_seq ?_
      refine awp_seq ?_
      refine Zbm (fun _ _ => rfl) ?_
      (repeat (refine st_q rfl rfl rfl ?_))
      (refine Z8y ?_; (repeat (first | refine Z9v rfl ?_ | refine Z9w ?_)); refine Z9u ?_)
      refine Kc1 rfl ?_
      (refine Z9y (keep := [0, 5, 7, 8, 9]) ?_; ((repeat (first | refine Z9v rfl ?_ | refine Z9w ?_)); refine Z9u ?_))
      refine Z21e (fun _ _ => rfl) b at_ _ w2 (hw1 w2) _ β3 hC2 (show c.ns.length ≤ 16384 by omega) (.mk false i n bs vks) _ _ _ (γ ++ σ) fun w' β' hC3 => ?_
      rw [List.set_set]
      refine awp_seq ?_
      refine awp_seq ?_
      refine Zbm (fun _ _ => rfl) ?_
      (repeat (refine st_q rfl rfl rfl ?_))
      (refine Z8y ?_; (repeat (first | refine Z9v rfl ?_ | refine Z9w ?_)); refine Z9u ?_)
      refine Kc2 rfl ?_
      refine Zbn (fun _ _ => rfl) ?_
      (refine Z9y (keep := [0, 5, 7, 8, 9]) ?_; ((repeat (first | refine Z9v rfl ?_ | refine Z9w ?_)); refine Z9u ?_))
      refine awp_seq ?_
      refine awp_seq ?_
      refine Zbm (fun _ _ => rfl) ?_
      (repeat (refine st_q rfl rfl rfl ?_))
      (refine Z8y ?_; (repeat (first | refine Z9v rfl ?_ | refine Z9w ?_)); refine Z9u ?_)
      refine Kc2 rfl ?_
      refine Zbn (fun _ _ => rfl) ?_
      (refine Z9y (keep := [0, 5, 8]) ?_; ((repeat (first | refine Z9v rfl ?_ | refine Z9w ?_)); refine Z9u ?_))
      refine fin w' β' ?_
      rw [addC, Zyf, if_pos k9, Zye, if_neg (by simp [hT]), if_neg k10, if_neg k11, if_pos k12]
      exact hC3
    · rw [show intF t.kind = true by simp [intF, hT, k10, k11, k12], show decide (t.kind = 9) = false from decide_eq_false k9, show lenF t.kind = false by simp [lenF, k10, k11]]
      refine awp_seq ?_
      refine awp_seq ?_
      refine Zbm (fun _ _ => rfl) ?_
      (repeat (refine st_q rfl rfl rfl ?_))
      (refine Z8y ?_; (repeat (first | refine Z9v rfl ?_ | refine Z9w ?_)); refine Z9u ?_)
      refine Kc1 rfl ?_
      (refine Z9y (keep := [0, 5, 7, 8, 9]) ?_; ((repeat (first | refine Z9v rfl ?_ | refine Z9w ?_)); refine Z9u ?_))
      refine Z21d (fun _ _ => rfl) b at_ _ w1 (hw1 w1) (Zyg true c) β2 hC1 (show c.ints.length ≤ 16384 by omega) (.mk false i n bs vks) _ _ _ (γ ++ σ) fun w' β' hC2 => ?_
      rw [List.set_set]
      refine awp_seq ?_
      refine awp_seq ?_
      refine Zbm (fun _ _ => rfl) ?_
      (repeat (refine st_q rfl rfl rfl ?_))
      (refine Z8y ?_; (repeat (first | refine Z9v rfl ?_ | refine Z9w ?_)); refine Z9u ?_)
      refine Kc2 rfl ?_
      refine Zbn (fun _ _ => rfl) ?_
      (refine Z9y (keep := [0, 5, 7, 8, 9]) ?_; ((repeat (first | refine Z9v rfl ?_ | refine Z9w ?_)); refine Z9u ?_))
      refine awp_seq ?_
      refine awp_seq ?_
      refine Zbm (fun _ _ => rfl) ?_
      (repeat (refine st_q rfl rfl rfl ?_))
      (refine Z8y ?_; (repeat (first | refine Z9v rfl ?_ | refine Z9w ?_)); refine Z9u ?_)
      refine Kc2 rfl ?_
      refine Zbn (fun _ _ => rfl) ?_
      (refine Z9y (keep := [0, 5, 7, 8, 9]) ?_; ((repeat (first | refine Z9v rfl ?_ | refine Z9w ?_)); refine Z9u ?_))
      refine awp_seq ?_
      refine awp_seq ?_
      refine Zbm (fun _ _ => rfl) ?_
      (repeat (refine st_q rfl rfl rfl ?_))
      (refine Z8y ?_; (repeat (first | refine Z9v rfl ?_ | refine Z9w ?_)); refine Z9u ?_)
      refine Kc2 rfl ?_
      refine Zbn (fun _ _ => rfl) ?_
      (refine Z9y (keep := [0, 5, 8]) ?_; ((repeat (first | refine Z9v rfl ?_ | refine Z9w ?_)); refine Z9u ?_))
      refine fin w' β' ?_
      rw [addC, Zyf, if_neg k9, Zye, if_neg (by simp [hT]), if_neg k10, if_neg k11, if_pos k12]
      exact hC2
end Go.Abs
namespace Go.Abs
open Go Go.Proofs
set_option linter.unusedVariables false
set_option linter.unusedSimpArgs false
set_option maxHeartbeats 4000000
attribute [local irreducible] AWp aops KP
theorem Z21j (t : Ty) (ht : t.Fit) (rows : List Vl) (hr : ∀ v ∈ rows, v.Fit) (hl : rows.length ≤ 140737488355328) (σ : Zc) :
    Z1q Try.prog Zdj [encT t, .slc 5 (Zm5 rows) false] σ fun r σ' => r = .tup [.slc 5 ((Z1i6 t rows).1.map encC) false, .int .i64 ((Z1i6 t rows).2 : Int)] ∧ σ' = σ := by
  have hcT := Zn1 t ht
  have hfl := Znk t ht
  have hrl := Zm9 rows
  generalize hX : Z1i6 t rows = X
  rw [Zlp] at hcT hfl ⊢
  refine Z8t rfl Z218 (Nat.le_of_ble_eq_true rfl) ?_
  refine Z9z ?_
  refine Z9j rfl (Kfi rfl) fun b2 hb2 => ?_
  (repeat (refine st_q rfl rfl rfl ?_))
  (refine Z8y ?_; (repeat (first | refine Z9v rfl ?_ | refine Z9w ?_)); refine Z9u ?_)
  refine Zb3 (d := 2) (cs := Zlo t) rfl ?_
  (repeat (first | refine st_q rfl rfl rfl ?_ | refine awp_seq ?_ | refine Zbm (fun _ _ => rfl) ?_))
  refine Z9t rfl (hcT _) ?_
  by_cases h0 : Zlx t = 0
  rotate_left
  · rw [Z1i6, if_pos h0] at hX
    subst hX
    (repeat (first | refine st_q rfl rfl rfl ?_ | (refine Z8y ?_; (repeat (first | refine Z9v rfl ?_ | refine Z9w ?_)); refine Z9u ?_) | refine awp_seq ?_ | refine Zbm (fun _ _ => rfl) ?_))
    (rw [decide_eq_true (p := (Zlx t : Int) ≠ 0) (by omega)])
    (repeat (first | refine st_q rfl rfl rfl ?_ | (refine Z8y ?_; (repeat (first | refine Z9v rfl ?_ | refine Z9w ?_)); refine Z9u ?_) | refine awp_seq ?_ | refine Zbm (fun _ _ => rfl) ?_ | refine Kc1 rfl ?_))
    refine Z8d ?_
    exact Zau rfl (VRle.tup (VRle.cons (VRle.nilF _ _) (VRle.refl _))) (HSub.refl _) ⟨rfl, rfl⟩
  have hTok : t.Ok := Ztu t _ _ h0
  rw [Z1i6, if_neg (by omega)] at hX
  (repeat (first | refine st_q rfl rfl rfl ?_ | (refine Z8y ?_; (repeat (first | refine Z9v rfl ?_ | refine Z9w ?_)); refine Z9u ?_) | refine awp_seq ?_ | refine Zbm (fun _ _ => rfl) ?_))
  (rw [decide_eq_false (p := (Zlx t : Int) ≠ 0) (by omega)])
  (repeat (first | refine st_q rfl rfl rfl ?_ | (refine Z8y ?_; (repeat (first | refine Z9v rfl ?_ | refine Z9w ?_)); refine Z9u ?_) | refine awp_seq ?_ | refine Zbm (fun _ _ => rfl) ?_ | refine Z8h ?_ | refine Zbn (fun _ _ => rfl) ?_ | refine Kc2 rfl ?_))
  rw [hrl]
  refine Zaa (fun m F σ' => ∃ (j : Nat), F = fset 1 (some (.slc 5 (Zm5 rows) false)) (fset 2 (some (.iptr (Zlo t))) (fset 18 (some (.slc 5 (Zm5 rows) false)) (fset 19 (some (.int .i64 (rows.length : Nat))) (fset 20 (some (.int .i64 (j : Int))) Z27)))) ∧
    σ = σ' ∧ j ≤ rows.length ∧ rowsE t (rows.drop j) = rowsE t rows ∧ m = rows.length - j) (n := rows.length) ⟨0, rfl, rfl, by omega, rfl, rfl⟩ ?_
  rintro m F σ' ⟨j, rfl, rfl, hj, hE, rfl⟩
  (repeat (first | refine st_q rfl rfl rfl ?_ | (refine Z8y ?_; (repeat (first | refine Z9v rfl ?_ | refine Z9w ?_)); refine Z9u ?_) | refine awp_seq ?_ | refine Zbm (fun _ _ => rfl) ?_))
  refine Za3 (p := (j : Int) < (rows.length : Nat)) rfl (fun h5 => ?_) (fun h5 => ?_)
  · have hjl : j < rows.length := by omega
    have hxv : (Zm5 rows)[((j : Nat) : Int).toNat]? = some (encV rows[j]) := Zma (by rw [Int.toNat_natCast, List.getElem?_eq_getElem hjl])
    have hcv := Z138 rows[j] (hr _ (List.getElem_mem hjl)) t hTok
    rw [Z1i7 t hjl, rowE] at hE
    generalize rows[j] = v at hxv hcv hE
    rw [Zm7] at hxv
    simp only [Zm7, Zlp] at hcv
    (repeat (first | refine awp_seq ?_ | refine Zbm (fun _ _ => rfl) ?_ | refine Z8h ?_ | refine Zbn (fun _ _ => rfl) ?_))
    refine Z93 rfl (by omega) hxv ?_
    (repeat (refine st_q rfl rfl rfl ?_))
    refine Z9k (by simp [Z0.cells, Z0.one]) fun b8 hb8 => ?_
    (first | refine Z9a rfl Z8z rfl (by decide) (Kfi rfl) (fun h => by cases h) Z9b ?_ | refine Z8v rfl (Z9a rfl Z8z rfl (by decide) (Kfi rfl) (fun h => by cases h) Z9b ?_))
    (refine Z8y ?_; (repeat (first | refine Z9v rfl ?_ | refine Z9w ?_)); refine Z9u ?_)
    refine Zb3 (d := 8) (cs := Zm6 v) rfl ?_
    (refine Z9y (keep := [1, 2, 8, 18, 19, 20]) ?_; ((repeat (first | refine Z9v rfl ?_ | refine Z9w ?_)); refine Z9u ?_))
    (repeat (first | refine st_q rfl rfl rfl ?_ | refine awp_seq ?_ | refine Zbm (fun _ _ => rfl) ?_))
    refine Z9t rfl (hcv _) ?_
    generalize vchk t v = x at hE
    by_cases hx : x = 0
    · subst hx
      (repeat (first | refine st_q rfl rfl rfl ?_ | (refine Z8y ?_; (repeat (first | refine Z9v rfl ?_ | refine Z9w ?_)); refine Z9u ?_) | refine awp_seq ?_ | refine Zbm (fun _ _ => rfl) ?_ | refine Zbn (fun _ _ => rfl) ?_ | refine Kc2 rfl ?_))
      cases hn : v.null with
      | true =>
        rw [hn] at hE
        simp at hE
        rw [← hE, if_pos (by decide)] at hX
        subst hX
        (repeat (first | refine st_q rfl rfl rfl ?_ | (refine Z8y ?_; (repeat (first | refine Z9v rfl ?_ | refine Z9w ?_)); refine Z9u ?_) | refine awp_seq ?_ | refine Zbm (fun _ _ => rfl) ?_ | refine Kc1 rfl ?_))
        refine Z8d ?_
        exact Zau rfl (VRle.tup (VRle.cons (VRle.nilF _ _) (VRle.refl _))) (HSub.refl _) ⟨rfl, rfl⟩
      | false =>
        rw [hn] at hE
        simp at hE
        (repeat (first | refine Zbn (fun _ _ => rfl) ?_ | refine Kc2 rfl ?_))
        refine Zbp ?_
        (repeat (refine st_q rfl rfl rfl ?_))
        rw [Kwr j (by omega)]
        (refine Z8y ?_; (repeat (first | refine Z9v rfl ?_ | refine Z9w ?_)); refine Z9u ?_)
        exact ⟨_, rows.length - (j + 1), HSub.refl _, ⟨j + 1, rfl, rfl, by omega, hE, rfl⟩, by omega⟩
    · have hx2 : ¬ (x = 0 ∧ v.null = true) := fun h => hx h.1
      rw [if_neg hx2, if_pos hx] at hE
      rw [← hE, if_pos hx] at hX
      subst hX
      (repeat (first | refine st_q rfl rfl rfl ?_ | (refine Z8y ?_; (repeat (first | refine Z9v rfl ?_ | refine Z9w ?_)); refine Z9u ?_) | refine awp_seq ?_ | refine Zbm (fun _ _ => rfl) ?_))
      (rw [decide_eq_true (p := ((x : Nat) : Int) ≠ 0) (by omega)])
      (repeat (first | refine st_q rfl rfl rfl ?_ | (refine Z8y ?_; (repeat (first | refine Z9v rfl ?_ | refine Z9w ?_)); refine Z9u ?_) | refine awp_seq ?_ | refine Zbm (fun _ _ => rfl) ?_ | refine Kc1 rfl ?_))
      refine Z8d ?_
      exact Zau rfl (VRle.tup (VRle.cons (VRle.nilF _ _) (VRle.refl _))) (HSub.refl _) ⟨rfl, rfl⟩
  rw [List.drop_of_length_le (by omega), rowsE] at hE
  rw [if_neg (by omega)] at hX
  have hok := Z1i8 hE.symm
  have hat := Zym t h0
  have hn100 : (Zm4 t).length ≤ 100 := by
    rw [Zm4, if_pos h0, Zm1]
    have := (Znd t _ _ h0).2.2
    omega
  generalize Zm4 t = l at *
  have hll : (l.map encN).length = l.length := List.length_map ..
  (repeat (first | refine st_q rfl rfl rfl ?_ | refine awp_seq ?_ | refine Zbm (fun _ _ => rfl) ?_ | refine Zbo (fun _ _ => rfl) ?_))
  refine Z9t rfl (hfl _) ?_
  (repeat (refine st_q rfl rfl rfl ?_))
  refine Z9j rfl (Kfi rfl) fun bw hbw => ?_
  (repeat (refine st_q rfl rfl rfl ?_))
  (refine Z8y ?_; (repeat (first | refine Z9v rfl ?_ | refine Z9w ?_)); refine Z9u ?_)
  refine Z9z ?_
  (repeat (refine st_q rfl rfl rfl ?_))
  refine Z92 rfl Z8z rfl rfl ?_
  (repeat (refine st_q rfl rfl rfl ?_))
  rw [hll]
  refine Z9l rfl (Kfi rfl) (by omega) (by omega) (by omega) (by omega) fun b hb => ?_
  rw [Int.toNat_natCast]
  have hne : b ≠ bw := fun e => hb (by rw [e]; simp [Zh])
  (repeat (refine st_q rfl rfl rfl ?_))
  refine Z9a rfl (Z90 hne Z8z) rfl (by decide) (Kfi rfl) (fun h => by cases h) (Z9c hne Z9b) ?_
  (refine Z8y ?_; (repeat (first | refine Z9v rfl ?_ | refine Z9w ?_)); refine Z9u ?_)
  refine Z8a (FSub.refl _) (HSub.swap _ _ _) ?_
  refine Zb3 (d := 10) (cs := [.slc 8 (l.map encN) true, .arr 5 b 0 l.length]) rfl ?_
  (refine Z9y (keep := [1, 10]) ?_; ((repeat (first | refine Z9v rfl ?_ | refine Z9w ?_)); refine Z9u ?_))
  (repeat (first | refine st_q rfl rfl rfl ?_ | (refine Z8y ?_; (repeat (first | refine Z9v rfl ?_ | refine Z9w ?_)); refine Z9u ?_) | refine awp_seq ?_ | refine Zbm (fun _ _ => rfl) ?_ | refine Z8h ?_))
  rw [hrl]
  generalize hY : Z1i5 l rows (List.replicate l.length col0) = Y at hX
  have hz : ∀ x ∈ List.replicate l.length col0, x.Sm := fun x hx => by
    rw [List.eq_of_mem_replicate hx]
    exact ⟨by simp [col0], by simp [col0], by simp [col0], by simp [col0], by simp [col0]⟩
  refine Zaa (fun m F σ' => ∃ (j : Nat) (ws : List Z0) (cs : List Col) (β : Zc), F = fset 10 (some (.iptr [.slc 8 (l.map encN) true, .arr 5 b 0 l.length])) (fset 46 (some (.slc 5 (Zm5 rows) false)) (fset 47 (some (.int .i64 (rows.length : Nat))) (fset 48 (some (.int .i64 (j : Int))) Z27))) ∧
    (b, Zb.cells 5 ws) :: (β ++ σ) = σ' ∧ Zy9 ws cs β ∧ cs.length = l.length ∧ (∀ x ∈ cs, x.Sm) ∧ j ≤ rows.length ∧ Z1i5 l (rows.drop j) cs = Y ∧ m = rows.length - j) (n := rows.length)
    ⟨0, _, _, [], rfl, rfl, Zy9.nil l.length, List.length_replicate, hz, by omega, hY, rfl⟩ ?_
  rintro m F σ' ⟨j, ws, cs, β, rfl, rfl, hG, hcl, hS, hj, hYj, rfl⟩
  (repeat (first | refine st_q rfl rfl rfl ?_ | (refine Z8y ?_; (repeat (first | refine Z9v rfl ?_ | refine Z9w ?_)); refine Z9u ?_) | refine awp_seq ?_ | refine Zbm (fun _ _ => rfl) ?_))
  refine Za3 (p := (j : Int) < (rows.length : Int)) rfl (fun h5 => ?_) (fun h5 => ?_)
  · have hjl : j < rows.length := by omega
    have hm := List.getElem_mem hjl
    have hxv : (Zm5 rows)[((j : Nat) : Int).toNat]? = some (encV rows[j]) := Zma (by rw [Int.toNat_natCast, List.getElem?_eq_getElem hjl])
    have hput := Z21i l rows[j] (hr _ hm) t 0 hat hTok (hok _ hm).1 ws cs β b σ hG hcl (by omega) hS
    rw [List.drop_eq_getElem_cons hjl, Z1i5] at hYj
    generalize rows[j] = v at hxv hput hYj
    rw [Zm7] at hxv
    rw [Zm7, hcl] at hput
    (repeat (first | refine awp_seq ?_ | refine Zbm (fun _ _ => rfl) ?_ | refine Z8h ?_ | refine Zbn (fun _ _ => rfl) ?_))
    refine Z93 rfl (by omega) hxv ?_
    (repeat (refine st_q rfl rfl rfl ?_))
    refine Z9k (by simp [Z0.cells, Z0.one]) fun b12 hb12 => ?_
    (first | refine Z9a rfl Z8z rfl (by decide) (Kfi rfl) (fun h => by cases h) Z9b ?_ | refine Z8v rfl (Z9a rfl Z8z rfl (by decide) (Kfi rfl) (fun h => by cases h) Z9b ?_))
    (refine Z8y ?_; (repeat (first | refine Z9v rfl ?_ | refine Z9w ?_)); refine Z9u ?_)
    refine Zb3 (d := 12) (cs := Zm6 v) rfl ?_
    (refine Z9y (keep := [10, 12, 46, 47, 48]) ?_; ((repeat (first | refine Z9v rfl ?_ | refine Z9w ?_)); refine Z9u ?_))
    refine Z9z ?_
    (repeat (refine st_q rfl rfl rfl ?_))
    obtain ⟨wsx, βx, hx⟩ := Zy9.ex (putF l 0 v cs).1
    refine Z9s rfl hput ⟨_, _, wsx, βx, hx, rfl, rfl⟩ ?_
    rintro r σ2 ⟨ws2, β5, hG2, rfl, rfl⟩
    (repeat (refine st_q rfl rfl rfl ?_))
    (refine Z8y ?_; (repeat (first | refine Z9v rfl ?_ | refine Z9w ?_)); refine Z9u ?_)
    have hlen2 := Z1i3 l v 0 cs
    have hSm2 := Z1i4 l v 0 cs hS
    generalize putF l 0 v cs = pr at hYj hG2 hlen2 hSm2
    obtain ⟨cs2, ok⟩ := pr
    cases ok with
    | true =>
      rw [if_pos rfl] at hYj
      (repeat (first | refine Zbn (fun _ _ => rfl) ?_ | refine Kc2 rfl ?_))
      refine Zbp ?_
      (repeat (refine st_q rfl rfl rfl ?_))
      rw [Kwr j (by omega)]
      (refine Z8y ?_; (repeat (first | refine Z9v rfl ?_ | refine Z9w ?_)); refine Z9u ?_)
      exact ⟨_, rows.length - (j + 1), HSub.refl _, ⟨j + 1, ws2, cs2, β5, rfl, rfl, hG2, by rw [← hcl, ← hlen2], hSm2, by omega, hYj, rfl⟩, by omega⟩
    | false =>
      rw [if_neg (by simp)] at hYj
      subst hYj
      rw [if_neg (by simp)] at hX
      subst hX
      (repeat (first | refine st_q rfl rfl rfl ?_ | (refine Z8y ?_; (repeat (first | refine Z9v rfl ?_ | refine Z9w ?_)); refine Z9u ?_) | refine awp_seq ?_ | refine Zbm (fun _ _ => rfl) ?_ | refine Kc1 rfl ?_))
      refine Z8d ?_
      exact Zau rfl (VRle.tup (VRle.cons (VRle.nilF _ _) (VRle.refl _))) (HSub.of_sublist (List.Sublist.cons _ (List.sublist_append_right _ _))) ⟨rfl, rfl⟩
  · rw [List.drop_of_length_le (by omega), Z1i5] at hYj
    subst hYj
    rw [if_pos rfl] at hX
    subst hX
    (repeat (first | refine st_q rfl rfl rfl ?_ | (refine Z8y ?_; (repeat (first | refine Z9v rfl ?_ | refine Z9w ?_)); refine Z9u ?_) | refine awp_seq ?_ | refine Zbm (fun _ _ => rfl) ?_ | refine Zbo (fun _ _ => rfl) ?_))
    refine Zby (by simpa using hG.freeze [] (by simp) b σ) ?_
    have e : l.length = (cs.map encC).length := by simp [hcl]
    rw [e]
    refine Zb1 (d := 4) rfl ?_
    refine Z8d ?_
    exact Kar rfl ⟨rfl, rfl⟩
end Go.Abs
namespace Go.Abs
open Go Go.Proofs
set_option linter.unusedVariables false
set_option linter.unusedSimpArgs false
set_option maxHeartbeats 4000000
attribute [local irreducible] AWp aops KP
def tI5 : Ty := .mk 3 [] [] 0 0 0
def tL5 : Ty := .mk 10 [] [tI5] 0 0 0
def tK5 : Ty := .mk 12 [[97]] [tL5] 0 0 0
def rowA5 : Vl := .mk false 0 0 [] [.mk false 0 0 [] [.mk false 1 0 [] [], .mk true 0 0 [] []]]
def rowB5 : Vl := .mk false 0 0 [] [.mk true 0 0 [] []]
def Z21k : List Col := [⟨[true, true], [], [], [], []⟩, ⟨[true, false], [], [], [], [2]⟩, ⟨[true, false], [1], [], [], []⟩]
def Z21l : List Nd := [⟨tK5, [1], -1, 1⟩, ⟨tL5, [2], 0, 2⟩, ⟨tI5, [], 1, 3⟩]
theorem Z21m : Zlx tK5 = 0 := by decide
theorem Z21n : Zm4 tK5 = Z21l := by rfl
theorem Z21o : Z1i6 tK5 [rowA5, rowB5] = (Z21k, 0) := by rfl
theorem Z21p : takeR Z21k [true, true, true] tK5 2 ⟨[0, 0, 0], [0, 0, 0]⟩ = some ([rowA5, rowB5], ⟨[2, 2, 2], [2, 1, 1]⟩) := by rfl
theorem Z21q : Z1va Z21l Z21k 2 = [2, 2, 2] := by rfl
theorem Z21r : tI5.Fit := .mk (by simp [tI5, Ty.kids]) (by simp [tI5, Ty.names]) (by simp [tI5, Ty.names]) (by simp [tI5, Ty.kids])
theorem Z21s : tL5.Fit := .mk (by simp [tL5, Ty.kids]) (by simp [tL5, Ty.names]) (by simp [tL5, Ty.names]) fun u hu => by
  simp only [tL5, Ty.kids, List.mem_singleton] at hu
  subst hu
  exact Z21r
theorem Z21t : tK5.Fit := .mk (by simp [tK5, Ty.kids]) (by simp [tK5, Ty.names]) (by simp [tK5, Ty.names, maxLen]) fun u hu => by
  simp only [tK5, Ty.kids, List.mem_singleton] at hu
  subst hu
  exact Z21s
theorem Z21u : ∀ v ∈ [rowA5, rowB5], v.Fit := by
  intro v hv
  simp only [List.mem_cons, List.not_mem_nil, or_false] at hv
  rcases hv with rfl | rfl
  · refine Z1rw _ (.mk (by simp [Vl.i]) (by simp [Vl.b]) (by simp [Vl.kids]) fun k hk => ?_)
    simp only [Vl.kids, List.mem_cons, List.not_mem_nil, or_false] at hk
    rcases hk with rfl | rfl
    · exact Z1rv _ _ (by omega)
    · exact Z1rv _ _ (by omega)
  · exact Z1rw _ (Z1rv _ _ (by omega))
theorem Z21v : ColsT Z21l Z21k [true, true, true] := by
  have h : ∀ i c, Z21k[i]? = some c → c ∈ Z21k := fun i c h => List.mem_of_getElem? h
  refine ⟨rfl, fun i c hc _ => ?_, fun i c hc _ => ?_, fun i c hc _ => ?_⟩
  all_goals
    have := h i c hc
    simp only [Z21k, List.mem_cons, List.not_mem_nil, or_false] at this
    rcases this with rfl | rfl | rfl
    all_goals first | (constructor <;> simp) | simp
theorem Z21w : Whole Z21l [true, true, true] := by
  intro i n hn x hx
  match i, hn with
  | 0, hn => cases hn; simp at hx; subst hx; exact ⟨fun _ => rfl, fun _ => .inl rfl⟩
  | 1, hn => cases hn; simp at hx; subst hx; exact ⟨fun _ => rfl, fun _ => .inl rfl⟩
  | 2, hn => cases hn; simp at hx
  | k + 3, hn => simp [Z21l] at hn
theorem Z21x : tK5.Ok := Ztu _ _ _ Z21m
theorem Z21y : tL5.Ok := by
  have := Z21x
  cases this with
  | mk _ h => exact h tL5 (by simp [tK5, Ty.kids])
theorem Z21z : tI5.Ok := by
  have := Z21y
  cases this with
  | mk _ h => exact h tI5 (by simp [tL5, Ty.kids])
theorem Z220 : Asks Z21l Z21k [true, true, true] 2 (fun _ => 2) (fun i => i == 0) := by
  refine ⟨rfl, rfl, fun i nd hn _ j x hx => ?_, fun i nd hn _ => ?_⟩
  · match i, hn with
    | 0, hn =>
      cases hn
      match j, hx with
      | 0, hx => cases hx; exact ⟨rfl, rfl⟩
      | k + 1, hx => simp at hx
    | 1, hn =>
      cases hn
      match j, hx with
      | 0, hx => cases hx; exact ⟨rfl, rfl⟩
      | k + 1, hx => simp at hx
    | 2, hn => cases hn; simp at hx
    | k + 3, hn => simp [Z21l] at hn
  · match i, hn with
    | 0, hn =>
      cases hn
      refine ⟨by constructor <;> simp [Z21k], by constructor <;> simp [Z21k], by constructor <;> rfl, rfl, by simp, Z21x, rfl, by simp [Z21k], by simp [Z21k], by simp [Z21k], fun _ => rfl, fun h => by cases h⟩
    | 1, hn =>
      cases hn
      refine ⟨by constructor <;> simp [Z21k], by constructor <;> simp [Z21k], by constructor <;> rfl, rfl, by simp, Z21y, rfl, by simp [Z21k], by simp [Z21k], by simp [Z21k], (fun h => by cases h), fun h => by decide⟩
    | 2, hn =>
      cases hn
      refine ⟨by constructor <;> simp [Z21k], by constructor <;> simp [Z21k], by constructor <;> rfl, rfl, by simp, Z21z, rfl, fun i v hv => ?_, by simp [Z21k], by simp [Z21k], (fun h => by cases h), fun h => by cases h⟩
      match i, hv with
      | 0, hv => cases hv; rfl
      | k + 1, hv => simp [Z21k] at hv
    | k + 3, hn => simp [Z21l] at hn
theorem Z221 (σ : Zc) : Z1q Try.prog Zdi [] σ fun r σ' => r = .bool true ∧ σ' = σ := by
  have hS := Z21j tK5 Z21t [rowA5, rowB5] Z21u (by simp)
  rw [Z21o, Zlp] at hS
  have hFl := Znk tK5 Z21t
  rw [Z21n, Zlp] at hFl
  have hB := fun f σ => Z1yo tK5 Z21t Z21m Z21k 2 (by omega) [] [true, true, true] (.inl ⟨rfl, rfl⟩) rfl rfl (by rw [Z21n]; exact Z21v) (by rw [Z21n]; exact Z21w) _ _ (by rw [Z21n]; exact Z220) _ _ (by rw [Z21n]; exact Z21p) false f σ
  rw [Zlp] at hB
  have hC := Z1vd Z21l (by rw [← Z21n]; exact Z1yn _) (by decide) Z21k rfl (fun c hc => by obtain ⟨i, hi⟩ := List.getElem?_of_mem hc; exact Z21v.sm i c hi (by match i, hi with | 0, _ => rfl | 1, _ => rfl | 2, _ => rfl | k + 3, hi => simp [Z21k] at hi)) 2 true false
  rw [Z21q] at hC
  refine Z8t rfl Z21b (Nat.le_of_ble_eq_true rfl) ?_
  refine Z9z ?_
  (repeat (refine st_q rfl rfl rfl ?_))
  (refine Z8y ?_; (repeat (first | refine Z9v rfl ?_ | refine Z9w ?_)); refine Z9u ?_)
  refine Z9z ?_
  (repeat (refine st_q rfl rfl rfl ?_))
  refine Z9k (by simp [Z0.cells, Z0.one]) fun b1 hb1 => ?_
  (first | refine Z9a rfl Z8z rfl (by decide) (Kfi rfl) (fun h => by cases h) Z9b ?_ | refine Z8v rfl (Z9a rfl Z8z rfl (by decide) (Kfi rfl) (fun h => by cases h) Z9b ?_))
  (refine Z8y ?_; (repeat (first | refine Z9v rfl ?_ | refine Z9w ?_)); refine Z9u ?_)
  refine Zby (Zbx.view (ys := [.agg (Zlo tK5)]) rfl rfl (by
    simp only [Zlo, tK5, tL5, tI5, Ty.kind, Ty.names, Ty.kids, Ty.len, Ty.prec, Ty.scale, Zln, encT, List.map_cons, List.map_nil]
    (repeat (first | exact VRle.refl _ | exact Zc5 | refine Zc6 rfl rfl ?_ | refine Zc7 rfl ?_ | refine Zc4 ?_ ?_)))) ?_
  refine Zb3 (d := 1) (cs := Zlo tK5) rfl ?_
  have hfb := Z21u rowA5 (by simp)
  have hfc := Z21u rowB5 (by simp)
  have hsA := Z1b3 rowA5 hfb rowA5
  have hsB := Z1b3 rowB5 hfc rowB5
  rw [Z1b1, Zm7] at hsA hsB
  refine Z9z ?_
  (repeat (refine st_q rfl rfl rfl ?_))
  (refine Z8y ?_; (repeat (first | refine Z9v rfl ?_ | refine Z9w ?_)); refine Z9u ?_)
  refine Zbt (d := 2) (v' := .slc 5 (Zm5 [rowA5, rowB5]) false) rfl (Zb6.le (by
    simp only [Zm5, encV, rowA5, rowB5, bytes, List.map_nil]
    (repeat (first | exact VRle.refl _ | exact Zc5 | refine Zc6 rfl rfl ?_ | refine Zc7 rfl ?_ | refine Zc4 ?_ ?_))) (HSub.refl _)) ?_
  (repeat (first | refine st_q rfl rfl rfl ?_ | refine awp_seq ?_ | refine Zbm (fun _ _ => rfl) ?_))
  refine Z9t rfl (hS _) ?_
  (repeat (first | refine st_q rfl rfl rfl ?_ | refine Z8v rfl (st_q rfl rfl rfl ?_) | (refine Z8y ?_; (repeat (first | refine Z9v rfl ?_ | refine Z9w ?_)); refine Z9u ?_) | refine awp_seq ?_ | refine Zbm (fun _ _ => rfl) ?_ | refine Zbn (fun _ _ => rfl) ?_ | refine Kc2 rfl ?_))
  refine Z9t rfl (Z1q.args (VRle.cons (VRle.refl _) (VRle.cons (VRle.refl _) (VRle.cons (VRle.refl _) (VRle.nil_slc 0 1 true)))) (hB true _)) ?_
  (repeat (first | refine st_q rfl rfl rfl ?_ | (refine Z8y ?_; (repeat (first | refine Z9v rfl ?_ | refine Z9w ?_)); refine Z9u ?_) | refine awp_seq ?_ | refine Zbm (fun _ _ => rfl) ?_))
  refine Z9t rfl (hFl _) ?_
  (repeat refine st_q rfl rfl rfl ?_)
  refine Z9t rfl (hC _) ?_
  (repeat (first | refine st_q rfl rfl rfl ?_ | refine Z8v rfl (st_q rfl rfl rfl ?_) | (refine Z8y ?_; (repeat (first | refine Z9v rfl ?_ | refine Z9w ?_)); refine Z9u ?_) | refine awp_seq ?_ | refine Zbm (fun _ _ => rfl) ?_))
  refine Z8v rfl (Z9t rfl (hsA _) ?_)
  (repeat (first | refine st_q rfl rfl rfl ?_ | refine Z8v rfl (st_q rfl rfl rfl ?_)))
  refine Z8v rfl (Z9t rfl (hsB _) ?_)
  (repeat (first | refine st_q rfl rfl rfl ?_ | refine Z8v rfl (st_q rfl rfl rfl ?_)))
  refine Z8v rfl (Z9t rfl (Zxz ⟨[true, false], [], [], [], [2]⟩ (by simp) _) ?_)
  (repeat (first | refine st_q rfl rfl rfl ?_ | refine Z8v rfl (st_q rfl rfl rfl ?_)))
  refine Z8v rfl (Z9t rfl (Zxz ⟨[true, true], [], [], [], []⟩ (by simp) _) ?_)
  (repeat (first | refine st_q rfl rfl rfl ?_ | refine Z8v rfl (st_q rfl rfl rfl ?_) | (refine Z8y ?_; (repeat (first | refine Z9v rfl ?_ | refine Z9w ?_)); refine Z9u ?_)))
  refine Z8d ?_
  exact Kar rfl ⟨rfl, rfl⟩
end Go.Abs
namespace Go.Abs
open Go Go.Proofs
set_option linter.unusedVariables false
set_option linter.unusedSimpArgs false
set_option maxHeartbeats 4000000
attribute [local irreducible] AWp aops KP
theorem c_To (c : Col) (σ : Zc) : Z1q Try.prog Zcu [encC c] σ fun r σ' => r = encC c ∧ σ' = σ := by
  refine Z8t rfl Z261 (Nat.le_of_ble_eq_true rfl) ?_
  refine Z9z ?_
  refine Z9j rfl (Kfi rfl) fun b1 hb1 => ?_
  refine Z9k (by simp [Z0.cells, Z0.one]) fun b2 hb2 => ?_
  (refine Z8y ?_; (repeat (first | refine Z9v rfl ?_ | refine Z9w ?_)); refine Z9u ?_)
  refine Zb4 (β := [(b2, _)]) (γ := [(b1, _)]) ?_
  refine Zb3 (d := 1) (cs := Zxu c) rfl ?_
  (refine Z9y (keep := [1, 2]) ?_; ((repeat (first | refine Z9v rfl ?_ | refine Z9w ?_)); refine Z9u ?_))
  refine Z9z ?_
  (repeat (refine st_q rfl rfl rfl ?_))
  refine Z9a rfl Z8z rfl (by decide) (Kfi rfl) (fun h => by cases h) Z9b ?_
  (refine Z8y ?_; (repeat (first | refine Z9v rfl ?_ | refine Z9w ?_)); refine Z9u ?_)
  refine Z8d ?_
  exact Zau (Zy4 rfl Z8z rfl) (VRle.refl _) (HSub.tail _ _) ⟨rfl, rfl⟩
def jk15 : Col := ⟨[], [1], [], [], []⟩
theorem Z262 {b : Nat} {A : List Col} {cs : List Z0} {c : Col} {σ : Zc} (h : VRle cs (Zxu c)) : Zbx ((b, .cells 5 (A.map encC ++ [.agg cs])) :: σ) ((b, .cells 5 ((A ++ [c]).map encC)) :: σ) := by
  have e : (A ++ [c]).map encC = A.map encC ++ [.agg (Zxu c)] := by rw [List.map_append]; rfl
  rw [e]
  refine Zbx.content (by simp) (fun y hy => ?_) ?_
  · rcases List.mem_append.1 hy with hy | hy
    · obtain ⟨w, _, rfl⟩ := List.mem_map.1 hy
      exact Z0.fit_iff.1 rfl
    · rw [List.mem_singleton.1 hy]
      exact Z0.fit_iff.1 rfl
  · rw [Z4, Z4]
    refine VRle.app (VRle.refl _) ?_
    simp only [Z3, Z2, Z0.cells, List.append_nil]
    exact h
theorem Z263 (t : Ty) (rows : List Vl) (cols : List Int) (hr : ∀ v ∈ rows, v.Fit) (σ : Zc) : Z1q Try.prog Zcj [encT t, .slc 5 (Zm5 rows) false, .slc 1 (cols.map (.int .i64)) false] σ fun r σ' => r = .bool true := by
  have hFew := Z1fl t rows false
  have hrl := Zm9 rows
  have hmc : (cols.map (Z0.int .i64)).length = cols.length := List.length_map ..
  rw [Zlp] at hFew ⊢
  refine Z8t rfl Z260 (Nat.le_of_ble_eq_true rfl) ?_
  refine Z9z ?_
  refine Z9j rfl (Kfi rfl) fun b2 hb2 => ?_
  (repeat (refine st_q rfl rfl rfl ?_))
  (refine Z8y ?_; (repeat (first | refine Z9v rfl ?_ | refine Z9w ?_)); refine Z9u ?_)
  refine Zb3 (d := 3) (cs := Zlo t) rfl ?_
  (repeat (first | refine awp_seq ?_ | refine Zbm (fun _ _ => rfl) ?_))
  refine Z9t rfl (Z221 _) ?_
  (repeat (first | refine st_q rfl rfl rfl ?_ | (refine Z8y ?_; (repeat (first | refine Z9v rfl ?_ | refine Z9w ?_)); refine Z9u ?_) | refine awp_seq ?_ | refine Zbm (fun _ _ => rfl) ?_ | refine Zbn (fun _ _ => rfl) ?_ | refine Kc2 rfl ?_))
  refine Z9t rfl (hFew _) ?_
  cases hfw : few15 t rows with
  | false =>
    (repeat (first | refine st_q rfl rfl rfl ?_ | refine Z8w rfl ?_ | (refine Z8y ?_; (repeat (first | refine Z9v rfl ?_ | refine Z9w ?_)); refine Z9u ?_) | refine awp_seq ?_ | refine Zbm (fun _ _ => rfl) ?_ | refine Kc1 rfl ?_))
    refine Z8d ?_
    exact Kar rfl rfl
  | true =>
  obtain ⟨hfit, hlen⟩ := Z229 hfw
  (repeat (first | refine st_q rfl rfl rfl ?_ | refine Z8v rfl (st_q rfl rfl rfl ?_)))
  rw [hmc]
  by_cases hc0 : cols.length = 0
  · (rw [decide_eq_true (p := (cols.length : Int) = 0) (by omega)])
    (repeat (first | refine st_q rfl rfl rfl ?_ | refine Z8w rfl ?_ | (refine Z8y ?_; (repeat (first | refine Z9v rfl ?_ | refine Z9w ?_)); refine Z9u ?_) | refine awp_seq ?_ | refine Zbm (fun _ _ => rfl) ?_ | refine Kc1 rfl ?_))
    refine Z8d ?_
    exact Kar rfl rfl
  (rw [decide_eq_false (p := (cols.length : Int) = 0) (by omega)])
  (repeat (first | refine st_q rfl rfl rfl ?_ | refine Z8v rfl (st_q rfl rfl rfl ?_)))
  rw [hmc]
  by_cases hc20 : 20 < cols.length
  · (rw [decide_eq_true (p := (20 : Int) < (cols.length : Int)) (by omega)])
    (repeat (first | refine st_q rfl rfl rfl ?_ | refine Z8w rfl ?_ | (refine Z8y ?_; (repeat (first | refine Z9v rfl ?_ | refine Z9w ?_)); refine Z9u ?_) | refine awp_seq ?_ | refine Zbm (fun _ _ => rfl) ?_ | refine Kc1 rfl ?_))
    refine Z8d ?_
    exact Kar rfl rfl
  (rw [decide_eq_false (p := (20 : Int) < (cols.length : Int)) (by omega)])
  have hRC := Zn4 t hfit
  have hRF := Zno t (Zn4 t hfit)
  have hS := Z1i9 t hfit rows hr (by omega)
  rw [Zlp] at hRC hRF hS
  (repeat refine Z8v rfl (st_q rfl rfl rfl ?_))
  refine Z8v rfl (Z9t rfl (hRC _) ?_)
  (repeat (first | refine st_q rfl rfl rfl ?_ | refine Z8v rfl (st_q rfl rfl rfl ?_)))
  by_cases hck : Zlx t = 0
  rotate_left
  · (rw [decide_eq_true (p := (Zlx t : Int) ≠ 0) (by omega)])
    (repeat (first | refine st_q rfl rfl rfl ?_ | (refine Z8y ?_; (repeat (first | refine Z9v rfl ?_ | refine Z9w ?_)); refine Z9u ?_) | refine awp_seq ?_ | refine Zbm (fun _ _ => rfl) ?_ | refine Kc1 rfl ?_))
    refine Z8d ?_
    exact Kar rfl rfl
  (rw [decide_eq_false (p := (Zlx t : Int) ≠ 0) (by omega)])
  have hT := Z1m1 t
  have hK := Z1yn t
  obtain ⟨n0, hn0, hn0t⟩ := Z1pf hck
  have hok0 : n0.t.Ok := by rw [hn0t]; exact Ztu _ _ _ hck
  have hpos := (List.getElem?_eq_some_iff.1 hn0).1
  have hL100 := Z1li t
  have hcl := @Z1l2 t rows
  have hZ : ∀ (he : (Z1i6 t rows).2 = 0) (hin : Z24i (Zm4 t) cols = true) (cols2 : List Col), cols2.length = (Zm4 t).length → (∀ c, c < (Zm4 t).length → (Z24j (Zm4 t) cols).getD c false = true → cols2.getD c col0 = (Z1i6 t rows).1.getD c col0) →
      ∀ g f σ, Z1q Try.prog Zdp [encT t, .slc 5 (cols2.map encC) g, .int .i64 (rows.length : Int), .slc 1 ((Z24j (Zm4 t) cols).map .bool) f] σ fun r σ' => r = .tup [.slc 5 (Zm5 (rows.map (projF (Zm4 t) (Z24j (Zm4 t) cols) 0))) false, .int .i64 0] ∧ σ' = σ := by
    intro he hin cols2 h1 h2 g f σ
    have hcc : ∀ c ∈ cols, 0 ≤ c ∧ c < (Zm4 t).length := fun c hc => of_decide_eq_true (List.all_eq_true.1 hin c hc)
    have hc : ∀ c, c < (Zm4 t).length → (Z24j (Zm4 t) cols).getD c false = true → cols2.getD c col0 = Z1lm (Zm4 t) c rows := fun c a1 a2 => by
      rw [h2 c a1 a2, List.getD_eq_getElem?_getD, Z1lv he a1]; rfl
    obtain ⟨hA, hC⟩ := Z249 hr he h1 hc
    have hW := Z24z hT hcc
    have hk0 := Z250 hT hcc (by intro e; rw [e] at hc0; exact hc0 rfl)
    obtain ⟨s', hR⟩ := Z24a he hW hk0 hc
    have hrow := Z1i8 (Z1l1 he).2.1
    have e : rows.map (prV (Zm4 t) (Z24j (Zm4 t) cols) 0) = rows.map (projF (Zm4 t) (Z24j (Zm4 t) cols) 0) :=
      List.map_congr_left fun v hv => (Z252 hT hcc v 0 n0 hn0 hok0 (by rw [hn0t]; exact (hrow v hv).1) hk0).symm
    rw [e] at hR
    have hne : Z24j (Zm4 t) cols ≠ [] := fun e => by have := Z24y (Zm4 t) cols; rw [e] at this; simp at this; omega
    exact Z1yo t hfit hck cols2 rows.length (by omega) _ _ (.inr ⟨rfl, hne⟩) (Z24y _ _) hk0 hC hW _ _ hA _ _ hR g f σ
  have hPj := fun (v : Vl) (σ : Zc) => Z24n hT hK (Z24j (Zm4 t) cols) false false v 0 n0 hn0 σ
  have hCl := fun σ => Z24l hT (by omega) cols (by omega) false false σ
  have hKl := Z24y (Zm4 t) cols
  rw [Zlp] at hZ
  generalize Z1i6 t rows = X at hS hcl hZ
  obtain ⟨d, e⟩ := X
  generalize Z24j (Zm4 t) cols = K at hZ hPj hCl hKl
  generalize Zm4 t = L at *
  simp only at hS hcl hZ
  have hdl : (d.map encC).length = d.length := List.length_map ..
  cases hin : Z24i L cols with
  | false =>
    rw [hin] at hCl
    (repeat (first | refine st_q rfl rfl rfl ?_ | (refine Z8y ?_; (repeat (first | refine Z9v rfl ?_ | refine Z9w ?_)); refine Z9u ?_) | refine awp_seq ?_ | refine Zbm (fun _ _ => rfl) ?_ | refine Zbn (fun _ _ => rfl) ?_ | refine Kc2 rfl ?_))
    refine Z9t rfl (hRF _) ?_
    (repeat (first | refine st_q rfl rfl rfl ?_ | (refine Z8y ?_; (repeat (first | refine Z9v rfl ?_ | refine Z9w ?_)); refine Z9u ?_) | refine awp_seq ?_ | refine Zbm (fun _ _ => rfl) ?_))
    refine Z9t rfl (hCl _) ?_
    (repeat (first | refine st_q rfl rfl rfl ?_ | (refine Z8y ?_; (repeat (first | refine Z9v rfl ?_ | refine Z9w ?_)); refine Z9u ?_) | refine awp_seq ?_ | refine Zbm (fun _ _ => rfl) ?_))
    refine Z9t rfl (hS _) ?_
    (repeat (first | refine st_q rfl rfl rfl ?_ | refine Z8w rfl ?_ | (refine Z8y ?_; (repeat (first | refine Z9v rfl ?_ | refine Z9w ?_)); refine Z9u ?_) | refine awp_seq ?_ | refine Zbm (fun _ _ => rfl) ?_ | refine Kc1 rfl ?_))
    refine Z8d ?_
    exact Kar rfl rfl
  | true =>
  rw [hin, if_pos rfl, if_pos rfl] at hCl
  (repeat (first | refine st_q rfl rfl rfl ?_ | (refine Z8y ?_; (repeat (first | refine Z9v rfl ?_ | refine Z9w ?_)); refine Z9u ?_) | refine awp_seq ?_ | refine Zbm (fun _ _ => rfl) ?_ | refine Zbn (fun _ _ => rfl) ?_ | refine Kc2 rfl ?_))
  refine Z9t rfl (hRF _) ?_
  (repeat (first | refine st_q rfl rfl rfl ?_ | (refine Z8y ?_; (repeat (first | refine Z9v rfl ?_ | refine Z9w ?_)); refine Z9u ?_) | refine awp_seq ?_ | refine Zbm (fun _ _ => rfl) ?_))
  refine Z9t rfl (hCl _) ?_
  (repeat (first | refine st_q rfl rfl rfl ?_ | (refine Z8y ?_; (repeat (first | refine Z9v rfl ?_ | refine Z9w ?_)); refine Z9u ?_) | refine awp_seq ?_ | refine Zbm (fun _ _ => rfl) ?_))
  refine Z9t rfl (hS _) ?_
  (repeat (first | refine st_q rfl rfl rfl ?_ | refine Z8v rfl (st_q rfl rfl rfl ?_) | (refine Z8y ?_; (repeat (first | refine Z9v rfl ?_ | refine Z9w ?_)); refine Z9u ?_) | refine awp_seq ?_ | refine Zbm (fun _ _ => rfl) ?_))
  by_cases he : e = 0
  rotate_left
  · (rw [decide_eq_true (p := (e : Int) ≠ 0) (by omega)])
    (repeat (first | refine st_q rfl rfl rfl ?_ | (refine Z8y ?_; (repeat (first | refine Z9v rfl ?_ | refine Z9w ?_)); refine Z9u ?_) | refine awp_seq ?_ | refine Zbm (fun _ _ => rfl) ?_ | refine Kc1 rfl ?_))
    refine Z8d ?_
    exact Kar rfl rfl
  (rw [decide_eq_false (p := (e : Int) ≠ 0) (by omega)])
  have hcl := hcl he
  obtain ⟨c2, hc2⟩ : ∃ c2, c2 = List.zipWith (fun (c : Col) (k : Bool) => if k = true then c else jk15) d K := ⟨_, rfl⟩
  have hc2l : c2.length = L.length := by rw [hc2, List.length_zipWith]; omega
  have hc2g : ∀ i (h : i < d.length) (h' : i < K.length), c2[i]? = some (if K[i] = true then d[i] else jk15) := fun i h h' => by
    rw [hc2, List.getElem?_zipWith, List.getElem?_eq_getElem h, List.getElem?_eq_getElem h']
  have hB := hZ he hin c2 hc2l (fun c h1 h2 => by
    have h3 : c < d.length := by omega
    have h4 : c < K.length := by omega
    rw [List.getD_eq_getElem?_getD, hc2g c h3 h4, List.getD_eq_getElem?_getD, List.getElem?_eq_getElem h3]
    rw [List.getD_eq_getElem?_getD, List.getElem?_eq_getElem h4] at h2
    simp only [Option.getD_some] at h2 ⊢
    rw [if_pos h2])
  clear hc2 hZ
  (repeat (first | refine st_q rfl rfl rfl ?_ | (refine Z8y ?_; (repeat (first | refine Z9v rfl ?_ | refine Z9w ?_)); refine Z9u ?_) | refine awp_seq ?_ | refine Zbm (fun _ _ => rfl) ?_ | refine Z8h ?_ | refine Zbn (fun _ _ => rfl) ?_ | refine Kc2 rfl ?_))
  refine Zaa (fun m F σ' => ∃ (i : Nat) (v : Z0) (β : Zc), F = fset 1 (some (.slc 5 (Zm5 rows) false)) (fset 3 (some (.iptr (Zlo t))) (fset 7 (some (.slc 9 (L.map encR) false)) (fset 8 (some (.slc 1 (K.map .bool) false)) (fset 10 (some (.slc 5 (d.map encC) false)) (fset 12 (some v) (fset 13 (some (.int .i64 (i : Nat))) Z27)))))) ∧ β ++ σ = σ' ∧ Zbr 5 v ((c2.take i).map encC) β ∧ i ≤ d.length ∧ m = d.length - i) (n := d.length)
    ⟨0, _, [], rfl, rfl, Zbr.nil 5 0, by omega, by omega⟩ ?_
  rintro m F σ' ⟨i, v, β, rfl, rfl, ho, hi, rfl⟩
  (repeat (first | refine st_q rfl rfl rfl ?_ | (refine Z8y ?_; (repeat (first | refine Z9v rfl ?_ | refine Z9w ?_)); refine Z9u ?_) | refine awp_seq ?_ | refine Zbm (fun _ _ => rfl) ?_))
  rw [hdl]
  refine Za3 (p := (i : Int) < (d.length : Nat)) rfl (fun h3 => ?_) (fun h3 => ?_)
  · have hil : i < d.length := by omega
    have hik : i < K.length := by omega
    have hx := Zxw (f := encC) hil
    have hk := Zxw (f := Z0.bool) hik
    have hg := hc2g i hil hik
    generalize d[i] = c at hx hg
    generalize K[i] = k at hk hg
    have hlt : ((c2.take i).map encC).length = i := by rw [List.length_map, List.length_take]; omega
    (repeat (first | refine st_q rfl rfl rfl ?_ | refine awp_seq ?_ | refine Zbm (fun _ _ => rfl) ?_ | refine Z8h ?_ | refine Zbn (fun _ _ => rfl) ?_))
    refine Z93 rfl (by omega) hk ?_
    cases k with
    | true =>
      rw [if_pos rfl] at hg
      have htk : c2.take (i + 1) = c2.take i ++ [c] := by rw [List.take_add_one, hg]; rfl
      have heq : (c2.take i).map encC ++ [encC c] = (c2.take (i + 1)).map encC := by rw [htk, List.map_append]; rfl
      (repeat (first | refine st_q rfl rfl rfl ?_ | (refine Z8y ?_; (repeat (first | refine Z9v rfl ?_ | refine Z9w ?_)); refine Z9u ?_) | refine Zbm (fun _ _ => rfl) ?_ | refine Kc1 rfl ?_))
      refine Z93 rfl (by omega) hx ?_
      (repeat (refine st_q rfl rfl rfl ?_))
      refine Z9t rfl (c_To c _) ?_
      (repeat (refine st_q rfl rfl rfl ?_))
      refine Zbs (ys := [encC c]) ho rfl rfl (by rw [hlt]; simp; omega) fun b' hb' => ?_
      rw [heq]
      (repeat (first | refine st_q rfl rfl rfl ?_ | (refine Z8y ?_; (repeat (first | refine Z9v rfl ?_ | refine Z9w ?_)); refine Z9u ?_)))
      refine Zbp ?_
      (repeat (refine st_q rfl rfl rfl ?_))
      rw [Kwr i (by omega)]
      (refine Z8y ?_; (repeat (first | refine Z9v rfl ?_ | refine Z9w ?_)); refine Z9u ?_)
      exact ⟨_, d.length - (i + 1), HSub.refl _, ⟨i + 1, _, [(b', _)], rfl, rfl, Zbr.mk, by omega, rfl⟩, by omega⟩
    | false =>
      rw [if_neg (by simp)] at hg
      have htk : c2.take (i + 1) = c2.take i ++ [jk15] := by rw [List.take_add_one, hg]; rfl
      (repeat (refine st_q rfl rfl rfl ?_))
      (refine Z8y ?_; (repeat (first | refine Z9v rfl ?_ | refine Z9w ?_)); refine Z9u ?_)
      refine Kc2 rfl ?_
      refine Zbm (fun _ _ => rfl) ?_
      (repeat (refine st_q rfl rfl rfl ?_))
      refine Zbs ho rfl rfl (by rw [hlt]; simp; omega) fun b' hb' => ?_
      (repeat (refine st_q rfl rfl rfl ?_))
      (refine Z8y ?_; (repeat (first | refine Z9v rfl ?_ | refine Z9w ?_)); refine Z9u ?_)
      rw [List.length_append]
      refine Zby (Z262 (c := jk15) (by
        simp only [Zxu, jk15, List.map_nil, List.map_cons]
        (repeat (first | exact VRle.refl _ | exact Zc5 | refine Zc6 rfl rfl ?_ | refine Zc7 rfl ?_ | refine Zc4 ?_ ?_)))) ?_
      rw [← htk]
      have hlen1 : ((c2.take (i + 1)).map encC).length = ((c2.take i).map encC).length + 1 := by rw [htk, List.map_append, List.length_append]; rfl
      refine Zbp ?_
      (repeat (refine st_q rfl rfl rfl ?_))
      rw [Kwr i (by omega)]
      (refine Z8y ?_; (repeat (first | refine Z9v rfl ?_ | refine Z9w ?_)); refine Z9u ?_)
      refine ⟨_, d.length - (i + 1), HSub.refl _, ⟨i + 1, .arr 5 b' 0 ((c2.take (i + 1)).map encC).length, [(b', .cells 5 ((c2.take (i + 1)).map encC))], ?_, rfl, Zbr.mk, by omega, rfl⟩, by omega⟩
      rw [hlen1]
      rfl
  have hct : c2.take i = c2 := List.take_of_length_le (by omega)
  rw [hct] at ho
  refine Zbo (fun _ _ => rfl) ?_
  refine Zbt (d := 12) rfl (Zb6.growG ho) ?_
  (refine Z9y (keep := [1, 3, 7, 8, 10, 12]) ?_; ((repeat (first | refine Z9v rfl ?_ | refine Z9w ?_)); refine Z9u ?_))
  (repeat (first | refine st_q rfl rfl rfl ?_ | refine awp_seq ?_ | refine Zbm (fun _ _ => rfl) ?_))
  rw [hrl]
  refine Z9t rfl (hB _ _ _) ?_
  have hpl : (Zm5 (rows.map (projF L K 0))).length = rows.length := by rw [Zm9, List.length_map]
  (repeat (first | refine st_q rfl rfl rfl ?_ | refine Z8v rfl (st_q rfl rfl rfl ?_) | (refine Z8y ?_; (repeat (first | refine Z9v rfl ?_ | refine Z9w ?_)); refine Z9u ?_) | refine awp_seq ?_ | refine Zbm (fun _ _ => rfl) ?_))
  rw [hpl, hrl]
  (rw [decide_eq_false (p := (rows.length : Int) ≠ (rows.length : Int)) (by omega)])
  (repeat (first | refine st_q rfl rfl rfl ?_ | (refine Z8y ?_; (repeat (first | refine Z9v rfl ?_ | refine Z9w ?_)); refine Z9u ?_) | refine awp_seq ?_ | refine Zbm (fun _ _ => rfl) ?_ | refine Z8h ?_ | refine Zbn (fun _ _ => rfl) ?_ | refine Kc2 rfl ?_))
  refine Zaa (fun m F σ' => ∃ i : Nat, F = fset 1 (some (.slc 5 (Zm5 rows) false)) (fset 7 (some (.slc 9 (L.map encR) false)) (fset 8 (some (.slc 1 (K.map .bool) false)) (fset 14 (some (.slc 5 (Zm5 (rows.map (projF L K 0))) false)) (fset 16 (some (.int .i64 (i : Nat))) Z27)))) ∧ σ = σ' ∧ i ≤ rows.length ∧ m = rows.length - i) (n := rows.length)
    ⟨0, rfl, rfl, by omega, by omega⟩ ?_
  rintro m F σ' ⟨j, rfl, rfl, hj, rfl⟩
  (repeat (first | refine st_q rfl rfl rfl ?_ | (refine Z8y ?_; (repeat (first | refine Z9v rfl ?_ | refine Z9w ?_)); refine Z9u ?_) | refine awp_seq ?_ | refine Zbm (fun _ _ => rfl) ?_))
  rw [hpl]
  refine Za3 (p := (j : Int) < (rows.length : Nat)) rfl (fun h5 => ?_) (fun h5 => ?_)
  · have hjl : j < rows.length := by omega
    have hx : (Zm5 rows)[(j : Int).toNat]? = some (encV rows[j]) := by rw [Zm8]; exact Zxw (f := encV) hjl
    have hy : (Zm5 (rows.map (projF L K 0)))[(j : Int).toNat]? = some (encV (projF L K 0 rows[j])) := by
      rw [Zm8, Int.toNat_natCast, List.getElem?_map, List.getElem?_map, List.getElem?_eq_getElem hjl]; rfl
    have hP := hPj rows[j]
    have hs := Z1b3 (projF L K 0 rows[j]) (Z253 L K rows[j] 0 (hr _ (List.getElem_mem hjl))) (projF L K 0 rows[j])
    rw [Z1b1] at hs
    generalize projF L K 0 rows[j] = w at hy hP hs
    generalize rows[j] = r at hx hP
    rw [Zm7] at hx hy hs
    rw [Zm7 r, Zm7 w] at hP
    (repeat (first | refine st_q rfl rfl rfl ?_ | refine awp_seq ?_ | refine Zbm (fun _ _ => rfl) ?_ | refine Z8h ?_ | refine Zbn (fun _ _ => rfl) ?_))
    refine Z93 rfl (by omega) hy ?_
    (repeat refine st_q rfl rfl rfl ?_)
    refine Z93 rfl (by omega) hx ?_
    (repeat refine st_q rfl rfl rfl ?_)
    refine Zbw rfl hP ?_
    skip
    refine Z9t rfl (hs _) ?_
    (repeat (first | refine st_q rfl rfl rfl ?_ | (refine Z8y ?_; (repeat (first | refine Z9v rfl ?_ | refine Z9w ?_)); refine Z9u ?_) | refine Zbn (fun _ _ => rfl) ?_ | refine Kc2 rfl ?_))
    refine Zbp ?_
    (repeat (refine st_q rfl rfl rfl ?_))
    rw [Kwr j (by omega)]
    (refine Z8y ?_; (repeat (first | refine Z9v rfl ?_ | refine Z9w ?_)); refine Z9u ?_)
    exact ⟨_, rows.length - (j + 1), HSub.refl _, ⟨j + 1, rfl, rfl, by omega, rfl⟩, by omega⟩
  · (repeat (first | refine st_q rfl rfl rfl ?_ | (refine Z8y ?_; (repeat (first | refine Z9v rfl ?_ | refine Z9w ?_)); refine Z9u ?_) | refine awp_seq ?_ | refine Zbm (fun _ _ => rfl) ?_ | refine Zbo (fun _ _ => rfl) ?_))
    refine Z8d ?_
    exact Kar rfl rfl
end Go.Abs

