/- Part T of a proof: merged by program. -/
import Derived.Test.YtgmefkhincnajaaPkQ
import Derived.Test.YtgmefkhincnajaaProg
import Derived.KernelRfl
namespace Go.Abs
open Go
def Z1yp : List Z2a := [
  ⟨some 2,(.box 6),[.t 0],none⟩,⟨some 4,.mov,[.c (.slc 0 [] true)],none⟩,⟨some 5,.mov,[.c (.int .i64 0)],none⟩]
def Z1yq : List Z2a := [
  ⟨some 13,(.load true 6),[.t 2],none⟩,⟨some 14,(.call Ze2),[.t 13],none⟩,⟨some 6,.mov,[.t 14],none⟩]
def Z1yr : List Z2a := [
  ⟨some 15,.mov,[.t 6],none⟩,⟨some 16,(.bin .neq),[.t 15,.c (.int .i64 0)],none⟩]
def Z1ys : List Z2a := [
  ⟨some 17,.mov,[.t 6],none⟩,⟨some 4,.mov,[.c (.slc 0 [] true)],none⟩,⟨some 5,.mov,[.t 17],none⟩]
def Z1yt : List Z2a := [
  ⟨some 18,.mov,[.t 1],none⟩,⟨some 19,.lens,[.t 18],none⟩,⟨some 20,.mov,[.c (.int .i64 0)],none⟩]
def Z1yu : List Z2a := [
  ⟨some 21,(.bin .lss),[.t 20,.t 19],none⟩]
def Z1yv : List Z2a := [
  ⟨some 22,(.iad 5),[.t 18,.t 20],none⟩,⟨some 23,(.load true 5),[.t 22],none⟩,⟨some 8,(.alloc (.agg [(.bool false),(.int .i64 0),(.int .i64 0),(.slc 0 [] true),(.slc 0 [] true)])),[],none⟩,⟨none,(.store 5),[.t 8,.t 23],none⟩]
def Z1yw : List Z2a := [
  ⟨some 24,(.load true 6),[.t 2],none⟩,⟨some 25,(.load true 5),[.t 8],none⟩,⟨some 26,(.call Zet),[.t 24,.t 25],none⟩,⟨some 9,.mov,[.t 26],none⟩]
def Z1yx : List Z2a := [
  ⟨some 27,.mov,[.t 9],none⟩,⟨some 28,(.bin .neq),[.t 27,.c (.int .i64 0)],none⟩]
def Z1yy : List Z2a := [
  ⟨some 29,.mov,[.t 9],none⟩,⟨some 4,.mov,[.c (.slc 0 [] true)],none⟩,⟨some 5,.mov,[.t 29],none⟩]
def Z1yz : List Z2a := [
  ⟨some 30,(.fad 0),[.t 8],none⟩,⟨some 31,(.load false 1),[.t 30],none⟩]
def Z1z0 : List Z2a := [
  ⟨some 4,.mov,[.c (.slc 0 [] true)],none⟩,⟨some 5,.mov,[.c (.int .i64 1)],none⟩]
def Z1z1 : List Z2a := [
  ⟨some 32,(.bin .add),[.t 20,.c (.int .i64 1)],none⟩,⟨some 20,.mov,[.t 32],none⟩]
def Z1z2 : Z2b := (.seq (.region Z1yu [1,2,18,19,20,21]) (.seq (.cond (.t 21) .skip (.exit 0)) (.seq (.block 1 (.seq (.region Z1yv [1,2,8,18,19,20]) (.seq (.seq (.region Z1yw [1,2,8,9,18,19,20]) (.seq (.region Z1yx [1,2,8,9,18,19,20,28]) (.cond (.t 28) (.seq (.region Z1yy [4,5]) .ret) .skip))) (.seq (.region Z1yz [1,2,18,19,20,31]) (.cond (.t 31) (.seq (.region Z1z0 [4,5]) .ret) .skip))))) (.region Z1z1 [1,2,18,19,20]))))
def Z1z3 : List Z2a := [
  ⟨some 33,(.load true 6),[.t 2],none⟩,⟨some 34,(.call Zcs),[.t 33],none⟩,⟨some 35,(.bld [(.slc 0 [] true),(.slc 0 [] true)] [(0,1)]),[.t 34],none⟩,⟨some 36,(.box 2),[.t 35],none⟩,⟨some 10,.mov,[.t 36],none⟩]
def Z1z4 : List Z2a := [
  ⟨some 37,.mov,[.t 10],none⟩,⟨some 38,.mov,[.t 10],none⟩,⟨some 39,.nilc,[.t 38],none⟩,⟨some 40,(.fad 0),[.t 39],none⟩,⟨some 41,(.load false 1),[.t 40],none⟩,⟨some 42,.lens,[.t 41],none⟩,⟨some 43,(.mks 5 120 (.agg [(.slc 0 [] true),(.slc 0 [] true),(.slc 0 [] true),(.slc 0 [] true),(.slc 0 [] true)])),[.t 42,.t 42],none⟩,⟨some 44,.nilc,[.t 37],none⟩,⟨some 45,(.fad 1),[.t 44],none⟩,⟨none,(.store 1),[.t 45,.t 43],none⟩]
def Z1z5 : List Z2a := [
  ⟨some 46,.mov,[.t 1],none⟩,⟨some 47,.lens,[.t 46],none⟩,⟨some 48,.mov,[.c (.int .i64 0)],none⟩]
def Z1z6 : List Z2a := [
  ⟨some 49,(.bin .lss),[.t 48,.t 47],none⟩]
def Z1z7 : List Z2a := [
  ⟨some 50,(.iad 5),[.t 46,.t 48],none⟩,⟨some 51,(.load true 5),[.t 50],none⟩,⟨some 12,(.alloc (.agg [(.bool false),(.int .i64 0),(.int .i64 0),(.slc 0 [] true),(.slc 0 [] true)])),[],none⟩,⟨none,(.store 5),[.t 12,.t 51],none⟩]
def Z1z8 : List Z2a := [
  ⟨some 52,.mov,[.t 10],none⟩,⟨some 53,(.load true 5),[.t 12],none⟩,⟨some 54,(.call Zeu),[.t 52,.c (.int .i64 0),.t 53],none⟩,⟨some 55,.unot,[.t 54],none⟩]
def Z1z9 : List Z2a := [
  ⟨some 4,.mov,[.c (.slc 0 [] true)],none⟩,⟨some 5,.mov,[.c (.int .i64 4)],none⟩]
def Z1za : List Z2a := [
  ⟨some 56,(.bin .add),[.t 48,.c (.int .i64 1)],none⟩,⟨some 48,.mov,[.t 56],none⟩]
def Z1zb : Z2b := (.seq (.region Z1z6 [10,46,47,48,49]) (.seq (.cond (.t 49) .skip (.exit 2)) (.seq (.block 3 (.seq (.region Z1z7 [10,12,46,47,48]) (.seq (.region Z1z8 [10,46,47,48,55]) (.cond (.t 55) (.seq (.region Z1z9 [4,5]) .ret) .skip)))) (.region Z1za [10,46,47,48]))))
def Z1zc : List Z2a := [
  ⟨some 57,.mov,[.t 10],none⟩,⟨some 58,.nilc,[.t 57],none⟩,⟨some 59,(.fad 1),[.t 58],none⟩,⟨some 60,(.load false 1),[.t 59],none⟩,⟨some 4,.mov,[.t 60],none⟩,⟨some 5,.mov,[.c (.int .i64 0)],none⟩]
def Z1zd : Z2y := ⟨61,(.seq (.region Z1yp [1,2]) (.seq (.seq (.region Z1yq [1,2,6]) (.seq (.region Z1yr [1,2,6,16]) (.cond (.t 16) (.seq (.region Z1ys [4,5]) .ret) .skip))) (.seq (.seq (.region Z1yt [1,2,18,19,20]) (.block 0 (.loop Z1z2))) (.seq (.region Z1z3 [1,10]) (.seq (.region Z1z4 [1,10]) (.seq (.seq (.region Z1z5 [10,46,47,48]) (.block 2 (.loop Z1zb))) (.seq (.region Z1zc [4,5]) .ret))))))),[.t 4,.t 5]⟩
def Z1ze : List Z2a := [
  ⟨some 5,(.box 5),[.t 2],none⟩,⟨some 6,.mov,[.c (.bool false)],none⟩]
def Z1zf : List Z2a := [
  ⟨some 13,.mov,[.t 0],none⟩,⟨some 14,.nilc,[.t 13],none⟩,⟨some 15,(.fad 1),[.t 14],none⟩,⟨some 16,(.load false 1),[.t 15],none⟩,⟨some 17,.mov,[.t 1],none⟩,⟨some 18,(.iad 5),[.t 16,.t 17],none⟩,⟨some 19,.mov,[.t 0],none⟩,⟨some 20,.nilc,[.t 19],none⟩,⟨some 21,(.fad 0),[.t 20],none⟩,⟨some 22,(.load false 1),[.t 21],none⟩,⟨some 23,.mov,[.t 1],none⟩,⟨some 24,(.iad 8),[.t 22,.t 23],none⟩,⟨some 25,(.load true 8),[.t 24],none⟩,⟨some 8,(.alloc (.agg [(.int .i64 0),(.slc 0 [] true),(.slc 0 [] true),(.int .i64 0),(.int .i64 0),(.int .i64 0),(.int .i64 0),(.int .i64 0)])),[],none⟩,⟨some 7,.mov,[.t 18],none⟩,⟨none,(.store 8),[.t 8,.t 25],none⟩]
def Z1zg : List Z2a := [
  ⟨some 26,.mov,[.t 7],none⟩,⟨some 27,.nilc,[.t 26],none⟩,⟨some 28,(.fad 0),[.t 27],none⟩,⟨some 29,(.load false 1),[.t 28],none⟩,⟨some 30,.lens,[.t 29],none⟩,⟨some 31,(.bin .geq),[.t 30,.c (.int .i64 16384)],none⟩]
def Z1zh : List Z2a := [
  ⟨some 6,.mov,[.c (.bool false)],none⟩]
def Z1zi : List Z2a := [
  ⟨some 32,.mov,[.t 7],none⟩,⟨some 33,.mov,[.t 7],none⟩,⟨some 34,.nilc,[.t 33],none⟩,⟨some 35,(.fad 0),[.t 34],none⟩,⟨some 36,(.load false 1),[.t 35],none⟩,⟨some 37,(.fad 0),[.t 5],none⟩,⟨some 38,(.load false 1),[.t 37],none⟩,⟨some 39,.unot,[.t 38],none⟩,⟨some 40,(.bsl 1),[.t 39],none⟩,⟨some 41,(.app 1 1),[.t 36,.t 40],none⟩,⟨some 42,.nilc,[.t 32],none⟩,⟨some 43,(.fad 0),[.t 42],none⟩,⟨none,(.store 1),[.t 43,.t 41],none⟩]
def Z1zj : List Z2a := [
  ⟨some 44,(.fad 0),[.t 5],none⟩,⟨some 45,(.load false 1),[.t 44],none⟩]
def Z1zk : List Z2a := [
  ⟨some 6,.mov,[.c (.bool true)],none⟩]
def Z1zl : List Z2a := [
  ⟨some 46,(.fad 0),[.t 8],none⟩,⟨some 47,(.load false 1),[.t 46],none⟩,⟨some 48,(.call Zfx),[.t 47],none⟩,⟨some 9,(.alloc (.agg [(.bool false),(.bool false),(.bool false),(.bool false)])),[],none⟩,⟨none,(.store 4),[.t 9,.t 48],none⟩]
def Z1zm : List Z2a := [
  ⟨some 49,(.fad 0),[.t 9],none⟩,⟨some 50,(.load false 1),[.t 49],none⟩]
def Z1zn : List Z2a := [
  ⟨some 51,.mov,[.t 7],none⟩,⟨some 52,.mov,[.t 7],none⟩,⟨some 53,.nilc,[.t 52],none⟩,⟨some 54,(.fad 1),[.t 53],none⟩,⟨some 55,(.load false 1),[.t 54],none⟩,⟨some 56,(.fad 1),[.t 5],none⟩,⟨some 57,(.load false 1),[.t 56],none⟩,⟨some 58,(.bsl 1),[.t 57],none⟩,⟨some 59,(.app 1 8),[.t 55,.t 58],none⟩,⟨some 60,.nilc,[.t 51],none⟩,⟨some 61,(.fad 1),[.t 60],none⟩,⟨none,(.store 1),[.t 61,.t 59],none⟩]
def Z1zo : List Z2a := [
  ⟨some 62,(.fad 1),[.t 9],none⟩,⟨some 63,(.load false 1),[.t 62],none⟩]
def Z1zp : List Z2a := [
  ⟨some 64,.mov,[.t 7],none⟩,⟨some 65,.mov,[.t 7],none⟩,⟨some 66,.nilc,[.t 65],none⟩,⟨some 67,(.fad 2),[.t 66],none⟩,⟨some 68,(.load false 1),[.t 67],none⟩,⟨some 69,(.fad 2),[.t 5],none⟩,⟨some 70,(.load false 1),[.t 69],none⟩,⟨some 71,(.bsl 1),[.t 70],none⟩,⟨some 72,(.app 1 8),[.t 68,.t 71],none⟩,⟨some 73,.nilc,[.t 64],none⟩,⟨some 74,(.fad 2),[.t 73],none⟩,⟨none,(.store 1),[.t 74,.t 72],none⟩]
def Z1zq : List Z2a := [
  ⟨some 75,(.fad 2),[.t 9],none⟩,⟨some 76,(.load false 1),[.t 75],none⟩]
def Z1zr : List Z2a := [
  ⟨some 77,.mov,[.t 7],none⟩,⟨some 78,.mov,[.t 7],none⟩,⟨some 79,.nilc,[.t 78],none⟩,⟨some 80,(.fad 3),[.t 79],none⟩,⟨some 81,(.load false 1),[.t 80],none⟩,⟨some 82,(.fad 3),[.t 5],none⟩,⟨some 83,(.load false 1),[.t 82],none⟩,⟨some 84,(.callp Zfq),[.t 83],none⟩,⟨some 85,(.callp Zfp),[.t 84],none⟩,⟨some 86,(.bsl 1),[.t 85],none⟩,⟨some 87,(.app 1 24),[.t 81,.t 86],none⟩,⟨some 88,.nilc,[.t 77],none⟩,⟨some 89,(.fad 3),[.t 88],none⟩,⟨none,(.store 1),[.t 89,.t 87],none⟩]
def Z1zs : List Z2a := [
  ⟨some 90,(.fad 3),[.t 9],none⟩,⟨some 91,(.load false 1),[.t 90],none⟩]
def Z1zt : List Z2a := [
  ⟨some 92,.mov,[.t 7],none⟩,⟨some 93,.mov,[.t 7],none⟩,⟨some 94,.nilc,[.t 93],none⟩,⟨some 95,(.fad 4),[.t 94],none⟩,⟨some 96,(.load false 1),[.t 95],none⟩,⟨some 97,(.fad 4),[.t 5],none⟩,⟨some 98,(.load false 1),[.t 97],none⟩,⟨some 99,.lens,[.t 98],none⟩,⟨some 100,(.fad 1),[.t 8],none⟩,⟨some 101,(.load false 1),[.t 100],none⟩,⟨some 102,.lens,[.t 101],none⟩,⟨some 103,(.bin .quo),[.t 99,.t 102],none⟩,⟨some 104,(.bsl 1),[.t 103],none⟩,⟨some 105,(.app 1 8),[.t 96,.t 104],none⟩,⟨some 106,.nilc,[.t 92],none⟩,⟨some 107,(.fad 4),[.t 106],none⟩,⟨none,(.store 1),[.t 107,.t 105],none⟩]
def Z1zu : List Z2a := [
  ⟨some 108,(.fad 4),[.t 5],none⟩,⟨some 109,(.load false 1),[.t 108],none⟩,⟨some 110,.lens,[.t 109],none⟩,⟨some 111,.mov,[.c (.int .i64 0)],none⟩]
def Z1zv : List Z2a := [
  ⟨some 112,(.bin .lss),[.t 111,.t 110],none⟩]
def Z1zw : List Z2a := [
  ⟨some 113,.mov,[.t 111],none⟩,⟨some 114,(.iad 5),[.t 109,.t 111],none⟩,⟨some 115,(.load true 5),[.t 114],none⟩,⟨some 11,(.alloc (.agg [(.bool false),(.int .i64 0),(.int .i64 0),(.slc 0 [] true),(.slc 0 [] true)])),[],none⟩,⟨some 10,.mov,[.t 113],none⟩,⟨none,(.store 5),[.t 11,.t 115],none⟩]
def Z1zx : List Z2a := [
  ⟨some 116,.mov,[.t 10],none⟩,⟨some 12,.mov,[.t 116],none⟩]
def Z1zy : List Z2a := [
  ⟨some 117,(.fad 0),[.t 8],none⟩,⟨some 118,(.load false 1),[.t 117],none⟩]
def Z1zz : List Z2a := [
  ⟨some 120,(.bin .eql),[.t 118,.c (.int .i64 10)],none⟩,⟨some 119,.mov,[.t 120],none⟩]
def Z200 : List Z2a := [
  ⟨some 12,.mov,[.c (.int .i64 0)],none⟩]
def Z201 : List Z2a := [
  ⟨some 122,(.bin .eql),[.t 118,.c (.int .i64 11)],none⟩,⟨some 121,.mov,[.t 122],none⟩]
def Z202 : List Z2a := [
  ⟨some 123,.mov,[.t 10],none⟩,⟨some 124,(.bin .rem),[.t 123,.c (.int .i64 2)],none⟩,⟨some 12,.mov,[.t 124],none⟩]
def Z203 : List Z2a := [
  ⟨some 126,(.bin .eql),[.t 118,.c (.int .i64 13)],none⟩,⟨some 125,.mov,[.t 126],none⟩]
def Z204 : List Z2a := [
  ⟨some 127,(.fad 1),[.t 5],none⟩,⟨some 128,(.load false 1),[.t 127],none⟩,⟨some 12,.mov,[.t 128],none⟩]
def Z205 : List Z2a := [
  ⟨some 129,.mov,[.t 0],none⟩,⟨some 130,(.fad 1),[.t 8],none⟩,⟨some 131,(.load false 1),[.t 130],none⟩,⟨some 132,.mov,[.t 12],none⟩,⟨some 133,(.iad 1),[.t 131,.t 132],none⟩,⟨some 134,(.load false 1),[.t 133],none⟩,⟨some 135,(.load true 5),[.t 11],none⟩,⟨some 136,(.call Zeu),[.t 129,.t 134,.t 135],none⟩,⟨some 137,.unot,[.t 136],none⟩]
def Z206 : List Z2a := [
  ⟨some 6,.mov,[.c (.bool false)],none⟩]
def Z207 : List Z2a := [
  ⟨some 138,(.bin .add),[.t 111,.c (.int .i64 1)],none⟩,⟨some 111,.mov,[.t 138],none⟩]
def Z208 : Z2b := (.seq (.region Z1zv [0,5,8,109,110,111,112]) (.seq (.cond (.t 112) .skip (.exit 0)) (.seq (.block 1 (.seq (.region Z1zw [0,5,8,10,11,109,110,111]) (.seq (.region Z1zx [0,5,8,10,11,12,109,110,111]) (.seq (.seq (.region Z1zy [0,5,8,10,11,12,109,110,111,118]) (.block 2 (.seq (.region Z1zz [0,5,8,10,11,12,109,110,111,118,119]) (.cond (.t 119) (.region Z200 [0,5,8,11,12,109,110,111]) (.seq (.region Z201 [0,5,8,10,11,12,109,110,111,118,121]) (.cond (.t 121) (.region Z202 [0,5,8,11,12,109,110,111]) (.seq (.region Z203 [0,5,8,11,12,109,110,111,125]) (.cond (.t 125) (.region Z204 [0,5,8,11,12,109,110,111]) .skip)))))))) (.seq (.region Z205 [0,5,8,109,110,111,137]) (.cond (.t 137) (.seq (.region Z206 [6]) .ret) .skip)))))) (.region Z207 [0,5,8,109,110,111]))))
def Z209 : List Z2a := [
  ⟨some 6,.mov,[.c (.bool true)],none⟩]
def Z20a : Z2y := ⟨139,(.seq (.region Z1ze [0,1,5]) (.seq (.region Z1zf [0,5,7,8]) (.seq (.seq (.region Z1zg [0,5,7,8,31]) (.cond (.t 31) (.seq (.region Z1zh [6]) .ret) .skip)) (.seq (.region Z1zi [0,5,7,8]) (.seq (.seq (.region Z1zj [0,5,7,8,45]) (.cond (.t 45) (.seq (.region Z1zk [6]) .ret) .skip)) (.seq (.region Z1zl [0,5,7,8,9]) (.seq (.seq (.region Z1zm [0,5,7,8,9,50]) (.cond (.t 50) (.region Z1zn [0,5,7,8,9]) .skip)) (.seq (.seq (.region Z1zo [0,5,7,8,9,63]) (.cond (.t 63) (.region Z1zp [0,5,7,8,9]) .skip)) (.seq (.seq (.region Z1zq [0,5,7,8,9,76]) (.cond (.t 76) (.region Z1zr [0,5,7,8,9]) .skip)) (.seq (.seq (.region Z1zs [0,5,7,8,91]) (.cond (.t 91) (.region Z1zt [0,5,8]) .skip)) (.seq (.seq (.region Z1zu [0,5,8,109,110,111]) (.block 0 (.loop Z208))) (.seq (.region Z209 [6]) .ret)))))))))))),[.t 6]⟩
def Z20y : List Z2a := [
  ⟨some 0,.mov,[.c (.bool false)],none⟩]
def Z20z : List Z2a := [
  ⟨some 8,(.bsl 1),[.c (.str [97])],none⟩,⟨some 9,(.bld [(.int .i64 0),(.slc 0 [] true),(.slc 0 [] true),(.int .i64 0),(.int .i64 0),(.int .i64 0)] [(0,1)]),[.c (.int .i64 3)],none⟩,⟨some 10,(.bsl 6),[.t 9],none⟩,⟨some 11,(.bld [(.int .i64 0),(.slc 0 [] true),(.slc 0 [] true),(.int .i64 0),(.int .i64 0),(.int .i64 0)] [(0,1),(2,1)]),[.c (.int .i64 10),.t 10],none⟩,⟨some 12,(.bsl 6),[.t 11],none⟩,⟨some 13,(.bld [(.int .i64 0),(.slc 0 [] true),(.slc 0 [] true),(.int .i64 0),(.int .i64 0),(.int .i64 0)] [(0,1),(1,1),(2,1)]),[.c (.int .i64 12),.t 8,.t 12],none⟩,⟨some 1,(.alloc (.agg [(.int .i64 0),(.slc 0 [] true),(.slc 0 [] true),(.int .i64 0),(.int .i64 0),(.int .i64 0)])),[],none⟩,⟨none,(.store 6),[.t 1,.t 13],none⟩]
def Z210 : List Z2a := [
  ⟨some 14,(.bld [(.bool false),(.int .i64 0),(.int .i64 0),(.slc 0 [] true),(.slc 0 [] true)] [(1,1)]),[.c (.int .i64 1)],none⟩,⟨some 15,(.bld [(.bool false),(.int .i64 0),(.int .i64 0),(.slc 0 [] true),(.slc 0 [] true)] [(0,1)]),[.c (.bool true)],none⟩,⟨some 16,(.bsl 5),[.t 14,.t 15],none⟩,⟨some 17,(.bld [(.bool false),(.int .i64 0),(.int .i64 0),(.slc 0 [] true),(.slc 0 [] true)] [(4,1)]),[.t 16],none⟩,⟨some 18,(.bsl 5),[.t 17],none⟩,⟨some 19,(.bld [(.bool false),(.int .i64 0),(.int .i64 0),(.slc 0 [] true),(.slc 0 [] true)] [(4,1)]),[.t 18],none⟩,⟨some 20,(.bld [(.bool false),(.int .i64 0),(.int .i64 0),(.slc 0 [] true),(.slc 0 [] true)] [(0,1)]),[.c (.bool true)],none⟩,⟨some 21,(.bsl 5),[.t 20],none⟩,⟨some 22,(.bld [(.bool false),(.int .i64 0),(.int .i64 0),(.slc 0 [] true),(.slc 0 [] true)] [(4,1)]),[.t 21],none⟩,⟨some 23,(.bsl 5),[.t 19,.t 22],none⟩,⟨some 2,.mov,[.t 23],none⟩]
def Z211 : List Z2a := [
  ⟨some 25,(.load true 6),[.t 1],none⟩,⟨some 26,.mov,[.t 2],none⟩,⟨some 27,(.call Zdj),[.t 25,.t 26],none⟩,⟨some 24,.mov,[.t 27],none⟩,⟨some 28,(.ext 0),[.t 24],none⟩,⟨some 29,(.ext 1),[.t 24],none⟩,⟨some 3,.mov,[.t 28],none⟩,⟨some 4,.mov,[.t 29],none⟩]
def Z212 : List Z2a := [
  ⟨some 30,.mov,[.t 4],none⟩,⟨some 31,(.bin .neq),[.t 30,.c (.int .i64 0)],none⟩,⟨some 32,.mov,[.t 31],none⟩,⟨some 33,.mov,[.t 3],some (32,false)⟩,⟨some 34,.lens,[.t 33],some (32,false)⟩,⟨some 35,(.bin .neq),[.t 34,.c (.int .i64 3)],some (32,false)⟩,⟨some 36,.pick,[.t 32,.c (.bool true),.t 35],none⟩]
def Z213 : List Z2a := [
  ⟨some 0,.mov,[.c (.bool false)],none⟩]
def Z214 : List Z2a := [
  ⟨some 38,(.load true 6),[.t 1],none⟩,⟨some 39,.mov,[.t 3],none⟩,⟨some 40,(.call Zdp),[.t 38,.t 39,.c (.int .i64 2),.c (.slc 0 [] true)],none⟩,⟨some 37,.mov,[.t 40],none⟩,⟨some 41,(.ext 0),[.t 37],none⟩,⟨some 42,(.ext 1),[.t 37],none⟩,⟨some 5,.mov,[.t 41],none⟩,⟨some 6,.mov,[.t 42],none⟩]
def Z215 : List Z2a := [
  ⟨some 43,(.load true 6),[.t 1],none⟩,⟨some 44,(.call Zcs),[.t 43],none⟩,⟨some 45,.mov,[.t 3],none⟩,⟨some 46,(.call Zdn),[.t 44,.t 45,.c (.int .i64 2)],none⟩,⟨some 7,.mov,[.t 46],none⟩]
def Z216 : List Z2a := [
  ⟨some 47,.mov,[.t 6],none⟩,⟨some 48,(.bin .eql),[.t 47,.c (.int .i64 0)],none⟩,⟨some 49,.mov,[.t 48],none⟩,⟨some 50,.mov,[.t 5],some (49,true)⟩,⟨some 51,.lens,[.t 50],some (49,true)⟩,⟨some 52,(.bin .eql),[.t 51,.c (.int .i64 2)],some (49,true)⟩,⟨some 53,.pick,[.t 49,.t 52,.c (.bool false)],none⟩,⟨some 54,.mov,[.t 53],none⟩,⟨some 55,.mov,[.t 5],some (54,true)⟩,⟨some 56,(.iad 5),[.t 55,.c (.int .i64 0)],some (54,true)⟩,⟨some 57,(.load true 5),[.t 56],some (54,true)⟩,⟨some 58,.mov,[.t 2],some (54,true)⟩,⟨some 59,(.iad 5),[.t 58,.c (.int .i64 0)],some (54,true)⟩,⟨some 60,(.load true 5),[.t 59],some (54,true)⟩,⟨some 61,(.call Zd2),[.t 57,.t 60],some (54,true)⟩,⟨some 62,.pick,[.t 54,.t 61,.c (.bool false)],none⟩,⟨some 63,.mov,[.t 62],none⟩,⟨some 64,.mov,[.t 5],some (63,true)⟩,⟨some 65,(.iad 5),[.t 64,.c (.int .i64 1)],some (63,true)⟩,⟨some 66,(.load true 5),[.t 65],some (63,true)⟩,⟨some 67,.mov,[.t 2],some (63,true)⟩,⟨some 68,(.iad 5),[.t 67,.c (.int .i64 1)],some (63,true)⟩,⟨some 69,(.load true 5),[.t 68],some (63,true)⟩,⟨some 70,(.call Zd2),[.t 66,.t 69],some (63,true)⟩,⟨some 71,.pick,[.t 63,.t 70,.c (.bool false)],none⟩,⟨some 72,.mov,[.t 71],none⟩,⟨some 73,.mov,[.t 7],some (72,true)⟩,⟨some 74,.lens,[.t 73],some (72,true)⟩,⟨some 75,(.bin .eql),[.t 74,.c (.int .i64 3)],some (72,true)⟩,⟨some 76,.pick,[.t 72,.t 75,.c (.bool false)],none⟩,⟨some 77,.mov,[.t 76],none⟩,⟨some 78,.mov,[.t 7],some (77,true)⟩,⟨some 79,(.iad 1),[.t 78,.c (.int .i64 2)],some (77,true)⟩,⟨some 80,(.load false 1),[.t 79],some (77,true)⟩,⟨some 81,(.bin .eql),[.t 80,.c (.int .i64 2)],some (77,true)⟩,⟨some 82,.pick,[.t 77,.t 81,.c (.bool false)],none⟩,⟨some 83,.mov,[.t 82],none⟩,⟨some 84,.mov,[.t 3],some (83,true)⟩,⟨some 85,(.iad 5),[.t 84,.c (.int .i64 1)],some (83,true)⟩,⟨some 86,(.load true 5),[.t 85],some (83,true)⟩,⟨some 87,(.call Zdl),[.t 86],some (83,true)⟩,⟨some 88,.pick,[.t 83,.t 87,.c (.bool false)],none⟩,⟨some 89,.mov,[.t 88],none⟩,⟨some 90,.mov,[.t 3],some (89,true)⟩,⟨some 91,(.iad 5),[.t 90,.c (.int .i64 0)],some (89,true)⟩,⟨some 92,(.load true 5),[.t 91],some (89,true)⟩,⟨some 93,(.call Zdl),[.t 92],some (89,true)⟩,⟨some 94,.unot,[.t 93],some (89,true)⟩,⟨some 95,.pick,[.t 89,.t 94,.c (.bool false)],none⟩,⟨some 96,.mov,[.t 95],none⟩,⟨some 97,.mov,[.t 3],some (96,true)⟩,⟨some 98,(.iad 5),[.t 97,.c (.int .i64 2)],some (96,true)⟩,⟨some 99,(.fad 1),[.t 98],some (96,true)⟩,⟨some 100,(.load false 1),[.t 99],some (96,true)⟩,⟨some 101,.lens,[.t 100],some (96,true)⟩,⟨some 102,(.bin .eql),[.t 101,.c (.int .i64 1)],some (96,true)⟩,⟨some 103,.pick,[.t 96,.t 102,.c (.bool false)],none⟩,⟨some 0,.mov,[.t 103],none⟩]
def Z217 : Z2y := ⟨104,(.seq (.region Z20y []) (.seq (.region Z20z [1]) (.seq (.region Z210 [1,2]) (.seq (.region Z211 [1,2,3,4]) (.seq (.seq (.region Z212 [1,2,3,36]) (.cond (.t 36) (.seq (.region Z213 [0]) .ret) .skip)) (.seq (.region Z214 [1,2,3,5,6]) (.seq (.region Z215 [2,3,5,6,7]) (.seq (.region Z216 [0]) .ret)))))))),[.t 0]⟩
def Z22n : List Z2a := [
  ⟨some 2,(.box 5),[.t 0],none⟩,⟨some 3,(.box 5),[.t 1],none⟩,⟨some 4,.mov,[.c (.bool false)],none⟩]
def Z22o : List Z2a := [
  ⟨some 8,(.fad 0),[.t 2],none⟩,⟨some 9,(.load false 1),[.t 8],none⟩,⟨some 10,.lens,[.t 9],none⟩,⟨some 11,(.fad 0),[.t 3],none⟩,⟨some 12,(.load false 1),[.t 11],none⟩,⟨some 13,.lens,[.t 12],none⟩,⟨some 14,(.bin .neq),[.t 10,.t 13],none⟩,⟨some 15,.mov,[.t 14],none⟩,⟨some 16,(.fad 2),[.t 2],some (15,false)⟩,⟨some 17,(.load false 1),[.t 16],some (15,false)⟩,⟨some 18,.lens,[.t 17],some (15,false)⟩,⟨some 19,(.fad 2),[.t 3],some (15,false)⟩,⟨some 20,(.load false 1),[.t 19],some (15,false)⟩,⟨some 21,.lens,[.t 20],some (15,false)⟩,⟨some 22,(.bin .neq),[.t 18,.t 21],some (15,false)⟩,⟨some 23,.pick,[.t 15,.c (.bool true),.t 22],none⟩,⟨some 24,.mov,[.t 23],none⟩,⟨some 25,(.fad 3),[.t 2],some (24,false)⟩,⟨some 26,(.load false 1),[.t 25],some (24,false)⟩,⟨some 27,.lens,[.t 26],some (24,false)⟩,⟨some 28,(.fad 3),[.t 3],some (24,false)⟩,⟨some 29,(.load false 1),[.t 28],some (24,false)⟩,⟨some 30,.lens,[.t 29],some (24,false)⟩,⟨some 31,(.bin .neq),[.t 27,.t 30],some (24,false)⟩,⟨some 32,.pick,[.t 24,.c (.bool true),.t 31],none⟩,⟨some 33,.mov,[.t 32],none⟩,⟨some 34,(.fad 1),[.t 2],some (33,false)⟩,⟨some 35,(.load false 1),[.t 34],some (33,false)⟩,⟨some 36,(.fad 1),[.t 3],some (33,false)⟩,⟨some 37,(.load false 1),[.t 36],some (33,false)⟩,⟨some 38,(.call Zev),[.t 35,.t 37],some (33,false)⟩,⟨some 39,.unot,[.t 38],some (33,false)⟩,⟨some 40,.pick,[.t 33,.c (.bool true),.t 39],none⟩,⟨some 41,.mov,[.t 40],none⟩,⟨some 42,(.fad 4),[.t 2],some (41,false)⟩,⟨some 43,(.load false 1),[.t 42],some (41,false)⟩,⟨some 44,(.fad 4),[.t 3],some (41,false)⟩,⟨some 45,(.load false 1),[.t 44],some (41,false)⟩,⟨some 46,(.call Zev),[.t 43,.t 45],some (41,false)⟩,⟨some 47,.unot,[.t 46],some (41,false)⟩,⟨some 48,.pick,[.t 41,.c (.bool true),.t 47],none⟩]
def Z22p : List Z2a := [
  ⟨some 4,.mov,[.c (.bool false)],none⟩]
def Z22q : List Z2a := [
  ⟨some 5,.mov,[.c (.int .i64 0)],none⟩]
def Z22r : List Z2a := [
  ⟨some 49,.mov,[.t 5],none⟩,⟨some 50,(.fad 0),[.t 2],none⟩,⟨some 51,(.load false 1),[.t 50],none⟩,⟨some 52,.lens,[.t 51],none⟩,⟨some 53,(.bin .lss),[.t 49,.t 52],none⟩]
def Z22s : List Z2a := [
  ⟨some 56,(.fad 0),[.t 2],none⟩,⟨some 57,(.load false 1),[.t 56],none⟩,⟨some 58,.mov,[.t 5],none⟩,⟨some 59,(.iad 1),[.t 57,.t 58],none⟩,⟨some 60,(.load false 1),[.t 59],none⟩,⟨some 61,(.fad 0),[.t 3],none⟩,⟨some 62,(.load false 1),[.t 61],none⟩,⟨some 63,.mov,[.t 5],none⟩,⟨some 64,(.iad 1),[.t 62,.t 63],none⟩,⟨some 65,(.load false 1),[.t 64],none⟩,⟨some 66,(.binb .neq),[.t 60,.t 65],none⟩]
def Z22t : List Z2a := [
  ⟨some 4,.mov,[.c (.bool false)],none⟩]
def Z22u : List Z2a := [
  ⟨some 54,.mov,[.t 5],none⟩,⟨some 55,(.bin .add),[.t 54,.c (.int .i64 1)],none⟩,⟨some 5,.mov,[.t 55],none⟩]
def Z22v : Z2b := (.seq (.seq (.region Z22r [2,3,5,53]) (.cond (.t 53) .skip (.exit 0))) (.seq (.block 1 (.seq (.region Z22s [2,3,5,66]) (.cond (.t 66) (.seq (.region Z22t [4]) .ret) .skip))) (.region Z22u [2,3,5])))
def Z22w : List Z2a := [
  ⟨some 6,.mov,[.c (.int .i64 0)],none⟩]
def Z22x : List Z2a := [
  ⟨some 67,.mov,[.t 6],none⟩,⟨some 68,(.fad 2),[.t 2],none⟩,⟨some 69,(.load false 1),[.t 68],none⟩,⟨some 70,.lens,[.t 69],none⟩,⟨some 71,(.bin .lss),[.t 67,.t 70],none⟩]
def Z22y : List Z2a := [
  ⟨some 74,(.fad 2),[.t 2],none⟩,⟨some 75,(.load false 1),[.t 74],none⟩,⟨some 76,.mov,[.t 6],none⟩,⟨some 77,(.iad 1),[.t 75,.t 76],none⟩,⟨some 78,(.load false 1),[.t 77],none⟩,⟨some 79,(.fad 2),[.t 3],none⟩,⟨some 80,(.load false 1),[.t 79],none⟩,⟨some 81,.mov,[.t 6],none⟩,⟨some 82,(.iad 1),[.t 80,.t 81],none⟩,⟨some 83,(.load false 1),[.t 82],none⟩,⟨some 84,(.bin .neq),[.t 78,.t 83],none⟩]
def Z22z : List Z2a := [
  ⟨some 4,.mov,[.c (.bool false)],none⟩]
def Z230 : List Z2a := [
  ⟨some 72,.mov,[.t 6],none⟩,⟨some 73,(.bin .add),[.t 72,.c (.int .i64 1)],none⟩,⟨some 6,.mov,[.t 73],none⟩]
def Z231 : Z2b := (.seq (.seq (.region Z22x [2,3,6,71]) (.cond (.t 71) .skip (.exit 2))) (.seq (.block 3 (.seq (.region Z22y [2,3,6,84]) (.cond (.t 84) (.seq (.region Z22z [4]) .ret) .skip))) (.region Z230 [2,3,6])))
def Z232 : List Z2a := [
  ⟨some 7,.mov,[.c (.int .i64 0)],none⟩]
def Z233 : List Z2a := [
  ⟨some 85,.mov,[.t 7],none⟩,⟨some 86,(.fad 3),[.t 2],none⟩,⟨some 87,(.load false 1),[.t 86],none⟩,⟨some 88,.lens,[.t 87],none⟩,⟨some 89,(.bin .lss),[.t 85,.t 88],none⟩]
def Z234 : List Z2a := [
  ⟨some 92,(.fad 3),[.t 2],none⟩,⟨some 93,(.load false 1),[.t 92],none⟩,⟨some 94,.mov,[.t 7],none⟩,⟨some 95,(.iad 1),[.t 93,.t 94],none⟩,⟨some 96,(.load false 1),[.t 95],none⟩,⟨some 97,.b2s,[.t 96],none⟩,⟨some 98,(.fad 3),[.t 3],none⟩,⟨some 99,(.load false 1),[.t 98],none⟩,⟨some 100,.mov,[.t 7],none⟩,⟨some 101,(.iad 1),[.t 99,.t 100],none⟩,⟨some 102,(.load false 1),[.t 101],none⟩,⟨some 103,.b2s,[.t 102],none⟩,⟨some 104,(.bin .neq),[.t 97,.t 103],none⟩]
def Z235 : List Z2a := [
  ⟨some 4,.mov,[.c (.bool false)],none⟩]
def Z236 : List Z2a := [
  ⟨some 90,.mov,[.t 7],none⟩,⟨some 91,(.bin .add),[.t 90,.c (.int .i64 1)],none⟩,⟨some 7,.mov,[.t 91],none⟩]
def Z237 : Z2b := (.seq (.seq (.region Z233 [2,3,7,89]) (.cond (.t 89) .skip (.exit 4))) (.seq (.block 5 (.seq (.region Z234 [2,3,7,104]) (.cond (.t 104) (.seq (.region Z235 [4]) .ret) .skip))) (.region Z236 [2,3,7])))
def Z238 : List Z2a := [
  ⟨some 4,.mov,[.c (.bool true)],none⟩]
def Z239 : Z2y := ⟨105,(.seq (.region Z22n [2,3]) (.seq (.seq (.region Z22o [2,3,48]) (.cond (.t 48) (.seq (.region Z22p [4]) .ret) .skip)) (.seq (.seq (.region Z22q [2,3,5]) (.block 0 (.loop Z22v))) (.seq (.seq (.region Z22w [2,3,6]) (.block 2 (.loop Z231))) (.seq (.seq (.region Z232 [2,3,7]) (.block 4 (.loop Z237))) (.seq (.region Z238 [4]) .ret)))))),[.t 4]⟩
def Z23a : List Z2a := [
  ⟨some 4,.mov,[.c (.slc 0 [] true)],none⟩]
def Z23b : List Z2a := [
  ⟨some 5,(.bsl 1),[],none⟩,⟨some 6,.mov,[.t 0],none⟩,⟨some 7,(.app 1 1),[.t 5,.t 6],none⟩,⟨some 8,.mov,[.t 1],none⟩,⟨some 9,(.app 1 1),[.t 7,.t 8],none⟩,⟨some 4,.mov,[.t 9],none⟩]
def Z23c : Z2y := ⟨10,(.seq (.region Z23a [0,1]) (.seq (.region Z23b [4]) .ret)),[.t 4]⟩
def Z23d : List Z2a := [
  ⟨some 4,.mov,[.c (.bool false)],none⟩]
def Z23e : List Z2a := [
  ⟨some 6,.mov,[.t 0],none⟩,⟨some 7,.lens,[.t 6],none⟩,⟨some 8,.mov,[.t 1],none⟩,⟨some 9,.lens,[.t 8],none⟩,⟨some 10,(.bin .neq),[.t 7,.t 9],none⟩]
def Z23f : List Z2a := [
  ⟨some 4,.mov,[.c (.bool false)],none⟩]
def Z23g : List Z2a := [
  ⟨some 5,.mov,[.c (.int .i64 0)],none⟩]
def Z23h : List Z2a := [
  ⟨some 11,.mov,[.t 5],none⟩,⟨some 12,.mov,[.t 0],none⟩,⟨some 13,.lens,[.t 12],none⟩,⟨some 14,(.bin .lss),[.t 11,.t 13],none⟩]
def Z23i : List Z2a := [
  ⟨some 17,.mov,[.t 0],none⟩,⟨some 18,.mov,[.t 5],none⟩,⟨some 19,(.iad 1),[.t 17,.t 18],none⟩,⟨some 20,(.load false 1),[.t 19],none⟩,⟨some 21,.mov,[.t 1],none⟩,⟨some 22,.mov,[.t 5],none⟩,⟨some 23,(.iad 1),[.t 21,.t 22],none⟩,⟨some 24,(.load false 1),[.t 23],none⟩,⟨some 25,(.bin .neq),[.t 20,.t 24],none⟩]
def Z23j : List Z2a := [
  ⟨some 4,.mov,[.c (.bool false)],none⟩]
def Z23k : List Z2a := [
  ⟨some 15,.mov,[.t 5],none⟩,⟨some 16,(.bin .add),[.t 15,.c (.int .i64 1)],none⟩,⟨some 5,.mov,[.t 16],none⟩]
def Z23l : Z2b := (.seq (.seq (.region Z23h [0,1,5,14]) (.cond (.t 14) .skip (.exit 0))) (.seq (.block 1 (.seq (.region Z23i [0,1,5,25]) (.cond (.t 25) (.seq (.region Z23j [4]) .ret) .skip))) (.region Z23k [0,1,5])))
def Z23m : List Z2a := [
  ⟨some 4,.mov,[.c (.bool true)],none⟩]
def Z23n : Z2y := ⟨26,(.seq (.region Z23d [0,1]) (.seq (.seq (.region Z23e [0,1,10]) (.cond (.t 10) (.seq (.region Z23f [4]) .ret) .skip)) (.seq (.seq (.region Z23g [0,1,5]) (.block 0 (.loop Z23l))) (.seq (.region Z23m [4]) .ret)))),[.t 4]⟩
def Z23o : List Z2a := [
  ⟨some 3,(.box 6),[.t 0],none⟩,⟨some 6,.mov,[.c (.bool false)],none⟩]
def Z23p : List Z2a := [
  ⟨some 15,(.call Zdi),[],none⟩,⟨some 16,.unot,[.t 15],none⟩]
def Z23q : List Z2a := [
  ⟨some 6,.mov,[.c (.bool false)],none⟩]
def Z23r : List Z2a := [
  ⟨some 17,(.load true 6),[.t 3],none⟩,⟨some 18,.mov,[.t 1],none⟩,⟨some 19,(.call Zcp),[.t 17,.t 18],none⟩,⟨some 20,.unot,[.t 19],none⟩,⟨some 21,.mov,[.t 20],none⟩,⟨some 22,.mov,[.t 2],some (21,false)⟩,⟨some 23,(.bin .lss),[.t 22,.c (.int .i64 0)],some (21,false)⟩,⟨some 24,.pick,[.t 21,.c (.bool true),.t 23],none⟩,⟨some 25,.mov,[.t 24],none⟩,⟨some 26,.mov,[.t 2],some (25,false)⟩,⟨some 27,.mov,[.t 1],some (25,false)⟩,⟨some 28,.lens,[.t 27],some (25,false)⟩,⟨some 29,(.bin .gtr),[.t 26,.t 28],some (25,false)⟩,⟨some 30,.pick,[.t 25,.c (.bool true),.t 29],none⟩]
def Z23s : List Z2a := [
  ⟨some 6,.mov,[.c (.bool true)],none⟩]
def Z23t : List Z2a := [
  ⟨some 32,(.load true 6),[.t 3],none⟩,⟨some 33,.mov,[.t 1],none⟩,⟨some 34,.mov,[.t 2],none⟩,⟨some 35,(.slc 5 false true false),[.t 33,.t 34],none⟩,⟨some 36,(.call Zdj),[.t 32,.t 35],none⟩,⟨some 31,.mov,[.t 36],none⟩,⟨some 37,(.ext 0),[.t 31],none⟩,⟨some 38,(.ext 1),[.t 31],none⟩,⟨some 7,.mov,[.t 37],none⟩,⟨some 8,.mov,[.t 38],none⟩]
def Z23u : List Z2a := [
  ⟨some 40,(.load true 6),[.t 3],none⟩,⟨some 41,.mov,[.t 1],none⟩,⟨some 42,.mov,[.t 2],none⟩,⟨some 43,(.slc 5 true false false),[.t 41,.t 42],none⟩,⟨some 44,(.call Zdj),[.t 40,.t 43],none⟩,⟨some 39,.mov,[.t 44],none⟩,⟨some 45,(.ext 0),[.t 39],none⟩,⟨some 46,(.ext 1),[.t 39],none⟩,⟨some 9,.mov,[.t 45],none⟩,⟨some 10,.mov,[.t 46],none⟩]
def Z23v : List Z2a := [
  ⟨some 48,(.load true 6),[.t 3],none⟩,⟨some 49,.mov,[.t 1],none⟩,⟨some 50,(.call Zdj),[.t 48,.t 49],none⟩,⟨some 47,.mov,[.t 50],none⟩,⟨some 51,(.ext 0),[.t 47],none⟩,⟨some 52,(.ext 1),[.t 47],none⟩,⟨some 11,.mov,[.t 51],none⟩,⟨some 12,.mov,[.t 52],none⟩]
def Z23w : List Z2a := [
  ⟨some 53,.mov,[.t 8],none⟩,⟨some 54,(.bin .neq),[.t 53,.c (.int .i64 0)],none⟩,⟨some 55,.mov,[.t 54],none⟩,⟨some 56,.mov,[.t 10],some (55,false)⟩,⟨some 57,(.bin .neq),[.t 56,.c (.int .i64 0)],some (55,false)⟩,⟨some 58,.pick,[.t 55,.c (.bool true),.t 57],none⟩,⟨some 59,.mov,[.t 58],none⟩,⟨some 60,.mov,[.t 12],some (59,false)⟩,⟨some 61,(.bin .neq),[.t 60,.c (.int .i64 0)],some (59,false)⟩,⟨some 62,.pick,[.t 59,.c (.bool true),.t 61],none⟩]
def Z23x : List Z2a := [
  ⟨some 63,.mov,[.t 12],none⟩,⟨some 64,(.bin .neq),[.t 63,.c (.int .i64 0)],none⟩,⟨some 6,.mov,[.t 64],none⟩]
def Z23y : List Z2a := [
  ⟨some 65,.mov,[.t 7],none⟩,⟨some 66,.lens,[.t 65],none⟩,⟨some 67,.mov,[.t 11],none⟩,⟨some 68,.lens,[.t 67],none⟩,⟨some 69,(.bin .neq),[.t 66,.t 68],none⟩,⟨some 70,.mov,[.t 69],none⟩,⟨some 71,.mov,[.t 9],some (70,false)⟩,⟨some 72,.lens,[.t 71],some (70,false)⟩,⟨some 73,.mov,[.t 11],some (70,false)⟩,⟨some 74,.lens,[.t 73],some (70,false)⟩,⟨some 75,(.bin .neq),[.t 72,.t 74],some (70,false)⟩,⟨some 76,.pick,[.t 70,.c (.bool true),.t 75],none⟩]
def Z23z : List Z2a := [
  ⟨some 6,.mov,[.c (.bool false)],none⟩]
def Z240 : List Z2a := [
  ⟨some 13,.mov,[.c (.int .i64 0)],none⟩]
def Z241 : List Z2a := [
  ⟨some 77,.mov,[.t 13],none⟩,⟨some 78,.mov,[.t 11],none⟩,⟨some 79,.lens,[.t 78],none⟩,⟨some 80,(.bin .lss),[.t 77,.t 79],none⟩]
def Z242 : List Z2a := [
  ⟨some 83,.mov,[.t 7],none⟩,⟨some 84,.mov,[.t 13],none⟩,⟨some 85,(.iad 5),[.t 83,.t 84],none⟩,⟨some 86,(.fad 0),[.t 85],none⟩,⟨some 87,(.load false 1),[.t 86],none⟩,⟨some 88,.mov,[.t 9],none⟩,⟨some 89,.mov,[.t 13],none⟩,⟨some 90,(.iad 5),[.t 88,.t 89],none⟩,⟨some 91,(.fad 0),[.t 90],none⟩,⟨some 92,(.load false 1),[.t 91],none⟩,⟨some 93,(.callp Zdx),[.t 87,.t 92],none⟩,⟨some 94,(.bsl 1),[],none⟩,⟨some 95,.mov,[.t 7],none⟩,⟨some 96,.mov,[.t 13],none⟩,⟨some 97,(.iad 5),[.t 95,.t 96],none⟩,⟨some 98,(.fad 1),[.t 97],none⟩,⟨some 99,(.load false 1),[.t 98],none⟩,⟨some 100,(.app 1 8),[.t 94,.t 99],none⟩,⟨some 101,.mov,[.t 9],none⟩,⟨some 102,.mov,[.t 13],none⟩,⟨some 103,(.iad 5),[.t 101,.t 102],none⟩,⟨some 104,(.fad 1),[.t 103],none⟩,⟨some 105,(.load false 1),[.t 104],none⟩,⟨some 106,(.app 1 8),[.t 100,.t 105],none⟩,⟨some 107,(.bsl 1),[],none⟩,⟨some 108,.mov,[.t 7],none⟩,⟨some 109,.mov,[.t 13],none⟩,⟨some 110,(.iad 5),[.t 108,.t 109],none⟩,⟨some 111,(.fad 2),[.t 110],none⟩,⟨some 112,(.load false 1),[.t 111],none⟩,⟨some 113,(.app 1 8),[.t 107,.t 112],none⟩,⟨some 114,.mov,[.t 9],none⟩,⟨some 115,.mov,[.t 13],none⟩,⟨some 116,(.iad 5),[.t 114,.t 115],none⟩,⟨some 117,(.fad 2),[.t 116],none⟩,⟨some 118,(.load false 1),[.t 117],none⟩,⟨some 119,(.app 1 8),[.t 113,.t 118],none⟩,⟨some 120,(.bsl 1),[],none⟩,⟨some 121,.mov,[.t 7],none⟩,⟨some 122,.mov,[.t 13],none⟩,⟨some 123,(.iad 5),[.t 121,.t 122],none⟩,⟨some 124,(.fad 3),[.t 123],none⟩,⟨some 125,(.load false 1),[.t 124],none⟩,⟨some 126,(.app 1 24),[.t 120,.t 125],none⟩,⟨some 127,.mov,[.t 9],none⟩,⟨some 128,.mov,[.t 13],none⟩,⟨some 129,(.iad 5),[.t 127,.t 128],none⟩,⟨some 130,(.fad 3),[.t 129],none⟩,⟨some 131,(.load false 1),[.t 130],none⟩,⟨some 132,(.app 1 24),[.t 126,.t 131],none⟩,⟨some 133,(.bsl 1),[],none⟩,⟨some 134,.mov,[.t 7],none⟩,⟨some 135,.mov,[.t 13],none⟩,⟨some 136,(.iad 5),[.t 134,.t 135],none⟩,⟨some 137,(.fad 4),[.t 136],none⟩,⟨some 138,(.load false 1),[.t 137],none⟩,⟨some 139,(.app 1 8),[.t 133,.t 138],none⟩,⟨some 140,.mov,[.t 9],none⟩,⟨some 141,.mov,[.t 13],none⟩,⟨some 142,(.iad 5),[.t 140,.t 141],none⟩,⟨some 143,(.fad 4),[.t 142],none⟩,⟨some 144,(.load false 1),[.t 143],none⟩,⟨some 145,(.app 1 8),[.t 139,.t 144],none⟩,⟨some 146,(.bld [(.slc 0 [] true),(.slc 0 [] true),(.slc 0 [] true),(.slc 0 [] true),(.slc 0 [] true)] [(0,1),(1,1),(2,1),(3,1),(4,1)]),[.t 93,.t 106,.t 119,.t 132,.t 145],none⟩,⟨some 14,(.alloc (.agg [(.slc 0 [] true),(.slc 0 [] true),(.slc 0 [] true),(.slc 0 [] true),(.slc 0 [] true)])),[],none⟩,⟨none,(.store 5),[.t 14,.t 146],none⟩]
def Z243 : List Z2a := [
  ⟨some 147,.mov,[.t 11],none⟩,⟨some 148,.mov,[.t 13],none⟩,⟨some 149,(.iad 5),[.t 147,.t 148],none⟩,⟨some 150,(.load true 5),[.t 149],none⟩,⟨some 151,(.load true 5),[.t 14],none⟩,⟨some 152,(.call Zdk),[.t 150,.t 151],none⟩,⟨some 153,.unot,[.t 152],none⟩]
def Z244 : List Z2a := [
  ⟨some 6,.mov,[.c (.bool false)],none⟩]
def Z245 : List Z2a := [
  ⟨some 81,.mov,[.t 13],none⟩,⟨some 82,(.bin .add),[.t 81,.c (.int .i64 1)],none⟩,⟨some 13,.mov,[.t 82],none⟩]
def Z246 : Z2b := (.seq (.seq (.region Z241 [7,9,11,13,80]) (.cond (.t 80) .skip (.exit 0))) (.seq (.block 1 (.seq (.region Z242 [7,9,11,13,14]) (.seq (.region Z243 [7,9,11,13,153]) (.cond (.t 153) (.seq (.region Z244 [6]) .ret) .skip)))) (.region Z245 [7,9,11,13])))
def Z247 : List Z2a := [
  ⟨some 6,.mov,[.c (.bool true)],none⟩]
def Z248 : Z2y := ⟨154,(.seq (.region Z23o [1,2,3]) (.seq (.seq (.region Z23p [1,2,3,16]) (.cond (.t 16) (.seq (.region Z23q [6]) .ret) .skip)) (.seq (.seq (.region Z23r [1,2,3,30]) (.cond (.t 30) (.seq (.region Z23s [6]) .ret) .skip)) (.seq (.region Z23t [1,2,3,7,8]) (.seq (.region Z23u [1,3,7,8,9,10]) (.seq (.region Z23v [7,8,9,10,11,12]) (.seq (.seq (.region Z23w [7,9,11,12,62]) (.cond (.t 62) (.seq (.region Z23x [6]) .ret) .skip)) (.seq (.seq (.region Z23y [7,9,11,76]) (.cond (.t 76) (.seq (.region Z23z [6]) .ret) .skip)) (.seq (.seq (.region Z240 [7,9,11,13]) (.block 0 (.loop Z246))) (.seq (.region Z247 [6]) .ret)))))))))),[.t 6]⟩
end Go.Abs
namespace Go.Abs
open Go Go.Proofs
theorem Z218 : Z2z Try.prog [] Zdj = some Z1zd.erase := by kernel_rfl
theorem Z219 : Z2z Try.prog [(13, 8), (13, 7)] Zeu = some Z20a.erase := by kernel_rfl
theorem Z21b : Z2z Try.prog [] Zdi = some Z217.erase := by kernel_rfl
theorem Z249 : Z2z Try.prog [] Zdk = some Z239.erase := by kernel_rfl
theorem Z24a : Z2z Try.prog [] Zdx = some Z23c.erase := by kernel_rfl
theorem Z24b : Z2z Try.prog [] Zev = some Z23n.erase := by kernel_rfl
theorem Z24c : Z2z Try.prog [(15, 10)] Zck = some Z248.erase := by kernel_rfl
end Go.Abs
namespace Go.Abs
open Go Go.Proofs
set_option linter.unusedVariables false
set_option linter.unusedSimpArgs false
set_option maxHeartbeats 4000000
attribute [local irreducible] AWp aops KP
theorem Z21c {c : Z2b} {R R' : Z87} (hR : ∀ F σ, R .normal F σ = AWp Try.prog Z20a.n c R' F σ) (b at_ : Nat) (ws : List Z0) (w : Z0) (hw : ws[at_]? = some w) (C : Col) (β : Zc) (hG : ColG w C β) (hl : C.here.length ≤ 16384)
    (v : Vl) (W M : Z0) (ρ : Zc)
    (h : ∀ w' β', ColG w' (Zyg (!v.null) C) β' → AWp Try.prog Z20a.n c R' (fset 0 (some W) (fset 5 (some (.iptr (Zm6 v))) (fset 7 (some (.ptr b at_ 0)) (fset 8 (some M) Z27)))) ((b, .cells 5 (ws.set at_ w')) :: (β' ++ ρ))) :
    AWp Try.prog Z20a.n (.region Z1zi [0, 5, 7, 8]) R (fset 0 (some W) (fset 5 (some (.iptr (Zm6 v))) (fset 7 (some (.ptr b at_ 0)) (fset 8 (some M) Z27)))) ((b, .cells 5 ws) :: (β ++ ρ)) := by
  obtain ⟨v1, v2, v3, v4, v5, β1, β2, β3, β4, β5, rfl, g1, g2, g3, g4, g5, rfl⟩ := hG
  refine Z8a (FSub.refl _) (show HSub (β1 ++ ((b, .cells 5 ws) :: (([]) ++ (β2 ++ (β3 ++ (β4 ++ (β5 ++ (ρ)))))))) ((b, .cells 5 ws) :: ((β1 ++ (β2 ++ (β3 ++ (β4 ++ β5)))) ++ ρ)) from by
    have := @Zyo b (.cells 5 ws) ([]) β1 (β2 ++ (β3 ++ (β4 ++ (β5 ++ (ρ)))))
    simpa [List.append_assoc] using this) ?_
  refine Z89 fun nd => ?_
  refine Zbm hR ?_
  (repeat (refine st_q rfl rfl rfl ?_))
  refine Z92 rfl (Zyd nd) hw rfl ?_
  (repeat (refine st_q rfl rfl rfl ?_))
  refine Zbs g1 rfl (ys := [.bool (!v.null)]) rfl (by rw [List.length_singleton]; simp only [Zy8, List.length_map]; omega) fun b' hb' => ?_
  have hne : b' ≠ b := fun e => hb' (by rw [e]; simp [Zh])
  (repeat (refine st_q rfl rfl rfl ?_))
  refine Z9a rfl (Z90 hne Z8z) hw (by decide) (Kfi rfl) (fun h => by cases h) (Z9c hne Z9b) ?_
  (refine Z8y ?_; (repeat (first | refine Z9v rfl ?_ | refine Z9w ?_)); refine Z9u ?_)
  have e : List.map Z0.bool (C.here) ++ [.bool (!v.null)] = List.map Z0.bool ((Zyg (!v.null) C).here) := by simp [Zyg]
  rw [e]
  refine Z8a (FSub.refl _) (show HSub ((b, .cells 5 (ws.set at_ (.agg [(.arr 1 b' 0 (List.map Z0.bool ((Zyg (!v.null) C).here)).length), v2, v3, v4, v5]))) :: (([(b', .cells 1 (List.map Z0.bool ((Zyg (!v.null) C).here)))] ++ (β2 ++ (β3 ++ (β4 ++ β5)))) ++ ρ)) ((b', .cells 1 (List.map Z0.bool ((Zyg (!v.null) C).here))) :: (b, .cells 5 (ws.set at_ (.agg [(.arr 1 b' 0 (List.map Z0.bool ((Zyg (!v.null) C).here)).length), v2, v3, v4, v5]))) :: (([]) ++ (β2 ++ (β3 ++ (β4 ++ (β5 ++ (ρ))))))) from by
    have := @Zyp b (.cells 5 (ws.set at_ (.agg [(.arr 1 b' 0 (List.map Z0.bool ((Zyg (!v.null) C).here)).length), v2, v3, v4, v5]))) ([]) [(b', .cells 1 (List.map Z0.bool ((Zyg (!v.null) C).here)))] (β2 ++ (β3 ++ (β4 ++ (β5 ++ (ρ)))))
    simpa [List.append_assoc] using this) ?_
  exact h _ _ ⟨_, _, _, _, _, [(b', .cells 1 (List.map Z0.bool ((Zyg (!v.null) C).here)))], β2, β3, β4, β5, rfl, Zbr.mk, g2, g3, g4, g5, rfl⟩
theorem Z21d {c : Z2b} {R R' : Z87} (hR : ∀ F σ, R .normal F σ = AWp Try.prog Z20a.n c R' F σ) (b at_ : Nat) (ws : List Z0) (w : Z0) (hw : ws[at_]? = some w) (C : Col) (β : Zc) (hG : ColG w C β) (hl : C.ints.length ≤ 16384)
    (v : Vl) (W M H : Z0) (ρ : Zc)
    (h : ∀ w' β', ColG w' ({ C with ints := C.ints ++ [v.i] }) β' → AWp Try.prog Z20a.n c R' (fset 0 (some W) (fset 5 (some (.iptr (Zm6 v))) (fset 7 (some (.ptr b at_ 0)) (fset 8 (some M) (fset 9 (some H) Z27))))) ((b, .cells 5 (ws.set at_ w')) :: (β' ++ ρ))) :
    AWp Try.prog Z20a.n (.region Z1zn [0, 5, 7, 8, 9]) R (fset 0 (some W) (fset 5 (some (.iptr (Zm6 v))) (fset 7 (some (.ptr b at_ 0)) (fset 8 (some M) (fset 9 (some H) Z27))))) ((b, .cells 5 ws) :: (β ++ ρ)) := by
  obtain ⟨v1, v2, v3, v4, v5, β1, β2, β3, β4, β5, rfl, g1, g2, g3, g4, g5, rfl⟩ := hG
  refine Z8a (FSub.refl _) (show HSub (β2 ++ ((b, .cells 5 ws) :: ((β1) ++ (β3 ++ (β4 ++ (β5 ++ (ρ))))))) ((b, .cells 5 ws) :: ((β1 ++ (β2 ++ (β3 ++ (β4 ++ β5)))) ++ ρ)) from by
    have := @Zyo b (.cells 5 ws) (β1) β2 (β3 ++ (β4 ++ (β5 ++ (ρ))))
    simpa [List.append_assoc] using this) ?_
  refine Z89 fun nd => ?_
  refine Zbm hR ?_
  (repeat (refine st_q rfl rfl rfl ?_))
  refine Z92 rfl (Zyd nd) hw rfl ?_
  (repeat (refine st_q rfl rfl rfl ?_))
  refine Zbs g2 rfl (ys := [.int .i64 v.i]) rfl (by rw [List.length_singleton]; simp only [Zy8, List.length_map]; omega) fun b' hb' => ?_
  have hne : b' ≠ b := fun e => hb' (by rw [e]; simp [Zh])
  (repeat (refine st_q rfl rfl rfl ?_))
  refine Z9a rfl (Z90 hne Z8z) hw (by decide) (Kfi rfl) (fun h => by cases h) (Z9c hne Z9b) ?_
  (refine Z8y ?_; (repeat (first | refine Z9v rfl ?_ | refine Z9w ?_)); refine Z9u ?_)
  have e : List.map (Z0.int .i64) (C.ints) ++ [.int .i64 v.i] = List.map (Z0.int .i64) ({ C with ints := C.ints ++ [v.i] }.ints) := by simp
  rw [e]
  refine Z8a (FSub.refl _) (show HSub ((b, .cells 5 (ws.set at_ (.agg [v1, (.arr 1 b' 0 (List.map (Z0.int .i64) ({ C with ints := C.ints ++ [v.i] }.ints)).length), v3, v4, v5]))) :: ((β1 ++ ([(b', .cells 1 (List.map (Z0.int .i64) ({ C with ints := C.ints ++ [v.i] }.ints)))] ++ (β3 ++ (β4 ++ β5)))) ++ ρ)) ((b', .cells 1 (List.map (Z0.int .i64) ({ C with ints := C.ints ++ [v.i] }.ints))) :: (b, .cells 5 (ws.set at_ (.agg [v1, (.arr 1 b' 0 (List.map (Z0.int .i64) ({ C with ints := C.ints ++ [v.i] }.ints)).length), v3, v4, v5]))) :: ((β1) ++ (β3 ++ (β4 ++ (β5 ++ (ρ)))))) from by
    have := @Zyp b (.cells 5 (ws.set at_ (.agg [v1, (.arr 1 b' 0 (List.map (Z0.int .i64) ({ C with ints := C.ints ++ [v.i] }.ints)).length), v3, v4, v5]))) (β1) [(b', .cells 1 (List.map (Z0.int .i64) ({ C with ints := C.ints ++ [v.i] }.ints)))] (β3 ++ (β4 ++ (β5 ++ (ρ))))
    simpa [List.append_assoc] using this) ?_
  exact h _ _ ⟨_, _, _, _, _, β1, [(b', .cells 1 (List.map (Z0.int .i64) ({ C with ints := C.ints ++ [v.i] }.ints)))], β3, β4, β5, rfl, g1, Zbr.mk, g3, g4, g5, rfl⟩
theorem Z21e {c : Z2b} {R R' : Z87} (hR : ∀ F σ, R .normal F σ = AWp Try.prog Z20a.n c R' F σ) (b at_ : Nat) (ws : List Z0) (w : Z0) (hw : ws[at_]? = some w) (C : Col) (β : Zc) (hG : ColG w C β) (hl : C.ns.length ≤ 16384)
    (v : Vl) (W M H : Z0) (ρ : Zc)
    (h : ∀ w' β', ColG w' ({ C with ns := C.ns ++ [v.n] }) β' → AWp Try.prog Z20a.n c R' (fset 0 (some W) (fset 5 (some (.iptr (Zm6 v))) (fset 7 (some (.ptr b at_ 0)) (fset 8 (some M) (fset 9 (some H) Z27))))) ((b, .cells 5 (ws.set at_ w')) :: (β' ++ ρ))) :
    AWp Try.prog Z20a.n (.region Z1zp [0, 5, 7, 8, 9]) R (fset 0 (some W) (fset 5 (some (.iptr (Zm6 v))) (fset 7 (some (.ptr b at_ 0)) (fset 8 (some M) (fset 9 (some H) Z27))))) ((b, .cells 5 ws) :: (β ++ ρ)) := by
  obtain ⟨v1, v2, v3, v4, v5, β1, β2, β3, β4, β5, rfl, g1, g2, g3, g4, g5, rfl⟩ := hG
  refine Z8a (FSub.refl _) (show HSub (β3 ++ ((b, .cells 5 ws) :: ((β1 ++ β2) ++ (β4 ++ (β5 ++ (ρ)))))) ((b, .cells 5 ws) :: ((β1 ++ (β2 ++ (β3 ++ (β4 ++ β5)))) ++ ρ)) from by
    have := @Zyo b (.cells 5 ws) (β1 ++ β2) β3 (β4 ++ (β5 ++ (ρ)))
    simpa [List.append_assoc] using this) ?_
  refine Z89 fun nd => ?_
  refine Zbm hR ?_
  (repeat (refine st_q rfl rfl rfl ?_))
  refine Z92 rfl (Zyd nd) hw rfl ?_
  (repeat (refine st_q rfl rfl rfl ?_))
  refine Zbs g3 rfl (ys := [.int .i64 v.n]) rfl (by rw [List.length_singleton]; simp only [Zy8, List.length_map]; omega) fun b' hb' => ?_
  have hne : b' ≠ b := fun e => hb' (by rw [e]; simp [Zh])
  (repeat (refine st_q rfl rfl rfl ?_))
  refine Z9a rfl (Z90 hne Z8z) hw (by decide) (Kfi rfl) (fun h => by cases h) (Z9c hne Z9b) ?_
  (refine Z8y ?_; (repeat (first | refine Z9v rfl ?_ | refine Z9w ?_)); refine Z9u ?_)
  have e : List.map (Z0.int .i64) (C.ns) ++ [.int .i64 v.n] = List.map (Z0.int .i64) ({ C with ns := C.ns ++ [v.n] }.ns) := by simp
  rw [e]
  refine Z8a (FSub.refl _) (show HSub ((b, .cells 5 (ws.set at_ (.agg [v1, v2, (.arr 1 b' 0 (List.map (Z0.int .i64) ({ C with ns := C.ns ++ [v.n] }.ns)).length), v4, v5]))) :: ((β1 ++ (β2 ++ ([(b', .cells 1 (List.map (Z0.int .i64) ({ C with ns := C.ns ++ [v.n] }.ns)))] ++ (β4 ++ β5)))) ++ ρ)) ((b', .cells 1 (List.map (Z0.int .i64) ({ C with ns := C.ns ++ [v.n] }.ns))) :: (b, .cells 5 (ws.set at_ (.agg [v1, v2, (.arr 1 b' 0 (List.map (Z0.int .i64) ({ C with ns := C.ns ++ [v.n] }.ns)).length), v4, v5]))) :: ((β1 ++ β2) ++ (β4 ++ (β5 ++ (ρ))))) from by
    have := @Zyp b (.cells 5 (ws.set at_ (.agg [v1, v2, (.arr 1 b' 0 (List.map (Z0.int .i64) ({ C with ns := C.ns ++ [v.n] }.ns)).length), v4, v5]))) (β1 ++ β2) [(b', .cells 1 (List.map (Z0.int .i64) ({ C with ns := C.ns ++ [v.n] }.ns)))] (β4 ++ (β5 ++ (ρ)))
    simpa [List.append_assoc] using this) ?_
  exact h _ _ ⟨_, _, _, _, _, β1, β2, [(b', .cells 1 (List.map (Z0.int .i64) ({ C with ns := C.ns ++ [v.n] }.ns)))], β4, β5, rfl, g1, g2, Zbr.mk, g4, g5, rfl⟩
theorem Z21f {c : Z2b} {R R' : Z87} (hR : ∀ F σ, R .normal F σ = AWp Try.prog Z20a.n c R' F σ) (b at_ : Nat) (ws : List Z0) (w : Z0) (hw : ws[at_]? = some w) (C : Col) (β : Zc) (hG : ColG w C β) (hl : C.texts.length ≤ 16384)
    (v : Vl) (hb : v.b.length ≤ 4096) (W M H : Z0) (ρ : Zc)
    (h : ∀ w' β', ColG w' ({ C with texts := C.texts ++ [v.b] }) β' → AWp Try.prog Z20a.n c R' (fset 0 (some W) (fset 5 (some (.iptr (Zm6 v))) (fset 7 (some (.ptr b at_ 0)) (fset 8 (some M) (fset 9 (some H) Z27))))) ((b, .cells 5 (ws.set at_ w')) :: (β' ++ ρ))) :
    AWp Try.prog Z20a.n (.region Z1zr [0, 5, 7, 8, 9]) R (fset 0 (some W) (fset 5 (some (.iptr (Zm6 v))) (fset 7 (some (.ptr b at_ 0)) (fset 8 (some M) (fset 9 (some H) Z27))))) ((b, .cells 5 ws) :: (β ++ ρ)) := by
  obtain ⟨v1, v2, v3, v4, v5, β1, β2, β3, β4, β5, rfl, g1, g2, g3, g4, g5, rfl⟩ := hG
  refine Z8a (FSub.refl _) (show HSub (β4 ++ ((b, .cells 5 ws) :: ((β1 ++ β2 ++ β3) ++ (β5 ++ (ρ))))) ((b, .cells 5 ws) :: ((β1 ++ (β2 ++ (β3 ++ (β4 ++ β5)))) ++ ρ)) from by
    have := @Zyo b (.cells 5 ws) (β1 ++ β2 ++ β3) β4 (β5 ++ (ρ))
    simpa [List.append_assoc] using this) ?_
  refine Z89 fun nd => ?_
  refine Zbm hR ?_
  (repeat (refine st_q rfl rfl rfl ?_))
  refine Z92 rfl (Zyd nd) hw rfl ?_
  (repeat (refine st_q rfl rfl rfl ?_))
  refine Zbw rfl (Zue (bytes v.b) false (fun x hx => by obtain ⟨y, _, rfl⟩ := List.mem_map.1 hx; exact ⟨rfl, by simp [Zx, Z0.cells, Z0.one]⟩) (by rw [Zam]; omega)) ?_
  refine Zbw rfl (fun σ => Z21.le (Zua (bytes v.b) false σ) VRle.full) ?_
  (repeat (refine st_q rfl rfl rfl ?_))
  refine Zbs g4 rfl (ys := [.slc 1 (bytes v.b) false]) rfl (by rw [List.length_singleton]; simp only [Zy8, List.length_map]; omega) fun b' hb' => ?_
  have hne : b' ≠ b := fun e => hb' (by rw [e]; simp [Zh])
  (repeat (refine st_q rfl rfl rfl ?_))
  refine Z9a rfl (Z90 hne Z8z) hw (by decide) (Kfi rfl) (fun h => by cases h) (Z9c hne Z9b) ?_
  (refine Z8y ?_; (repeat (first | refine Z9v rfl ?_ | refine Z9w ?_)); refine Z9u ?_)
  have e : Zy8 (C.texts) ++ [.slc 1 (bytes v.b) false] = Zy8 ({ C with texts := C.texts ++ [v.b] }.texts) := by simp [Zy8]
  rw [e]
  refine Z8a (FSub.refl _) (show HSub ((b, .cells 5 (ws.set at_ (.agg [v1, v2, v3, (.arr 1 b' 0 (Zy8 ({ C with texts := C.texts ++ [v.b] }.texts)).length), v5]))) :: ((β1 ++ (β2 ++ (β3 ++ ([(b', .cells 1 (Zy8 ({ C with texts := C.texts ++ [v.b] }.texts)))] ++ β5)))) ++ ρ)) ((b', .cells 1 (Zy8 ({ C with texts := C.texts ++ [v.b] }.texts))) :: (b, .cells 5 (ws.set at_ (.agg [v1, v2, v3, (.arr 1 b' 0 (Zy8 ({ C with texts := C.texts ++ [v.b] }.texts)).length), v5]))) :: ((β1 ++ β2 ++ β3) ++ (β5 ++ (ρ)))) from by
    have := @Zyp b (.cells 5 (ws.set at_ (.agg [v1, v2, v3, (.arr 1 b' 0 (Zy8 ({ C with texts := C.texts ++ [v.b] }.texts)).length), v5]))) (β1 ++ β2 ++ β3) [(b', .cells 1 (Zy8 ({ C with texts := C.texts ++ [v.b] }.texts)))] (β5 ++ (ρ))
    simpa [List.append_assoc] using this) ?_
  exact h _ _ ⟨_, _, _, _, _, β1, β2, β3, [(b', .cells 1 (Zy8 ({ C with texts := C.texts ++ [v.b] }.texts)))], β5, rfl, g1, g2, g3, Zbr.mk, g5, rfl⟩
theorem Z21g {c : Z2b} {R R' : Z87} (hR : ∀ F σ, R .normal F σ = AWp Try.prog Z20a.n c R' F σ) (b at_ : Nat) (ws : List Z0) (w : Z0) (hw : ws[at_]? = some w) (C : Col) (β : Zc) (hG : ColG w C β) (hl : C.lens.length ≤ 16384)
    (v : Vl) (hk : v.kids.length ≤ 9223372036854775807) (k1 n0 n2 n3 n4 n5 n6 n7 : Z0) (W : Z0) (ρ : Zc)
    (h : ∀ w' β', ColG w' ({ C with lens := C.lens ++ [(v.kids.length : Int)] }) β' → AWp Try.prog Z20a.n c R' (fset 0 (some W) (fset 5 (some (.iptr (Zm6 v))) (fset 8 (some (.iptr [n0, .slc 1 [k1] true, n2, n3, n4, n5, n6, n7])) Z27))) ((b, .cells 5 (ws.set at_ w')) :: (β' ++ ρ))) :
    AWp Try.prog Z20a.n (.region Z1zt [0, 5, 8]) R (fset 0 (some W) (fset 5 (some (.iptr (Zm6 v))) (fset 7 (some (.ptr b at_ 0)) (fset 8 (some (.iptr [n0, .slc 1 [k1] true, n2, n3, n4, n5, n6, n7])) Z27)))) ((b, .cells 5 ws) :: (β ++ ρ)) := by
  obtain ⟨v1, v2, v3, v4, v5, β1, β2, β3, β4, β5, rfl, g1, g2, g3, g4, g5, rfl⟩ := hG
  refine Z8a (FSub.refl _) (show HSub (β5 ++ ((b, .cells 5 ws) :: ((β1 ++ β2 ++ β3 ++ β4) ++ (ρ)))) ((b, .cells 5 ws) :: ((β1 ++ (β2 ++ (β3 ++ (β4 ++ β5)))) ++ ρ)) from by
    have := @Zyo b (.cells 5 ws) (β1 ++ β2 ++ β3 ++ β4) β5 (ρ)
    simpa [List.append_assoc] using this) ?_
  refine Z89 fun nd => ?_
  refine Zbm hR ?_
  (repeat (refine st_q rfl rfl rfl ?_))
  refine Z92 rfl (Zyd nd) hw rfl ?_
  (repeat (refine st_q rfl rfl rfl ?_))
  refine Zbs g5 rfl (ys := [.int .i64 (IntKind.wrap .i64 (((Zm5 v.kids).length : Int).tdiv 1))]) rfl (by rw [List.length_singleton]; simp only [Zy8, List.length_map]; omega) fun b' hb' => ?_
  have hne : b' ≠ b := fun e => hb' (by rw [e]; simp [Zh])
  (repeat (refine st_q rfl rfl rfl ?_))
  refine Z9a rfl (Z90 hne Z8z) hw (by decide) (Kfi rfl) (fun h => by cases h) (Z9c hne Z9b) ?_
  (refine Z8y ?_; (repeat (first | refine Z9v rfl ?_ | refine Z9w ?_)); refine Z9u ?_)
  have e : List.map (Z0.int .i64) (C.lens) ++ [.int .i64 (IntKind.wrap .i64 (((Zm5 v.kids).length : Int).tdiv 1))] = List.map (Z0.int .i64) ({ C with lens := C.lens ++ [(v.kids.length : Int)] }.lens) := by rw [Zm9, show IntKind.wrap .i64 ((v.kids.length : Int).tdiv 1) = (v.kids.length : Int) by rw [Int.tdiv_one, w64 _ (by omega) (by omega)]]; simp
  rw [e]
  refine Z8a (FSub.refl _) (show HSub ((b, .cells 5 (ws.set at_ (.agg [v1, v2, v3, v4, (.arr 1 b' 0 (List.map (Z0.int .i64) ({ C with lens := C.lens ++ [(v.kids.length : Int)] }.lens)).length)]))) :: ((β1 ++ (β2 ++ (β3 ++ (β4 ++ [(b', .cells 1 (List.map (Z0.int .i64) ({ C with lens := C.lens ++ [(v.kids.length : Int)] }.lens)))])))) ++ ρ)) ((b', .cells 1 (List.map (Z0.int .i64) ({ C with lens := C.lens ++ [(v.kids.length : Int)] }.lens))) :: (b, .cells 5 (ws.set at_ (.agg [v1, v2, v3, v4, (.arr 1 b' 0 (List.map (Z0.int .i64) ({ C with lens := C.lens ++ [(v.kids.length : Int)] }.lens)).length)]))) :: ((β1 ++ β2 ++ β3 ++ β4) ++ (ρ))) from by
    have := @Zyp b (.cells 5 (ws.set at_ (.agg [v1, v2, v3, v4, (.arr 1 b' 0 (List.map (Z0.int .i64) ({ C with lens := C.lens ++ [(v.kids.length : Int)] }.lens)).length)]))) (β1 ++ β2 ++ β3 ++ β4) [(b', .cells 1 (List.map (Z0.int .i64) ({ C with lens := C.lens ++ [(v.kids.length : Int)] }.lens)))] (ρ)
    simpa [List.append_assoc] using this) ?_
  exact h _ _ ⟨_, _, _, _, _, β1, β2, β3, β4, [(b', .cells 1 (List.map (Z0.int .i64) ({ C with lens := C.lens ++ [(v.kids.length : Int)] }.lens)))], rfl, g1, g2, g3, g4, Zbr.mk, rfl⟩
theorem Z21h {c : Z2b} {R R' : Z87} (hR : ∀ F σ, R .normal F σ = AWp Try.prog Z20a.n c R' F σ) (b at_ : Nat) (ws : List Z0) (w : Z0) (hw : ws[at_]? = some w) (C : Col) (β : Zc) (hG : ColG w C β) (hl : C.lens.length ≤ 16384)
    (v : Vl) (hk : v.kids.length ≤ 9223372036854775807) (k1 k2 n0 n2 n3 n4 n5 n6 n7 : Z0) (W : Z0) (ρ : Zc)
    (h : ∀ w' β', ColG w' ({ C with lens := C.lens ++ [((v.kids.length / 2 : Nat) : Int)] }) β' → AWp Try.prog Z20a.n c R' (fset 0 (some W) (fset 5 (some (.iptr (Zm6 v))) (fset 8 (some (.iptr [n0, .slc 1 [k1, k2] true, n2, n3, n4, n5, n6, n7])) Z27))) ((b, .cells 5 (ws.set at_ w')) :: (β' ++ ρ))) :
    AWp Try.prog Z20a.n (.region Z1zt [0, 5, 8]) R (fset 0 (some W) (fset 5 (some (.iptr (Zm6 v))) (fset 7 (some (.ptr b at_ 0)) (fset 8 (some (.iptr [n0, .slc 1 [k1, k2] true, n2, n3, n4, n5, n6, n7])) Z27)))) ((b, .cells 5 ws) :: (β ++ ρ)) := by
  obtain ⟨v1, v2, v3, v4, v5, β1, β2, β3, β4, β5, rfl, g1, g2, g3, g4, g5, rfl⟩ := hG
  refine Z8a (FSub.refl _) (show HSub (β5 ++ ((b, .cells 5 ws) :: ((β1 ++ β2 ++ β3 ++ β4) ++ (ρ)))) ((b, .cells 5 ws) :: ((β1 ++ (β2 ++ (β3 ++ (β4 ++ β5)))) ++ ρ)) from by
    have := @Zyo b (.cells 5 ws) (β1 ++ β2 ++ β3 ++ β4) β5 (ρ)
    simpa [List.append_assoc] using this) ?_
  refine Z89 fun nd => ?_
  refine Zbm hR ?_
  (repeat (refine st_q rfl rfl rfl ?_))
  refine Z92 rfl (Zyd nd) hw rfl ?_
  (repeat (refine st_q rfl rfl rfl ?_))
  refine Zbs g5 rfl (ys := [.int .i64 (IntKind.wrap .i64 (((Zm5 v.kids).length : Int).tdiv 2))]) rfl (by rw [List.length_singleton]; simp only [Zy8, List.length_map]; omega) fun b' hb' => ?_
  have hne : b' ≠ b := fun e => hb' (by rw [e]; simp [Zh])
  (repeat (refine st_q rfl rfl rfl ?_))
  refine Z9a rfl (Z90 hne Z8z) hw (by decide) (Kfi rfl) (fun h => by cases h) (Z9c hne Z9b) ?_
  (refine Z8y ?_; (repeat (first | refine Z9v rfl ?_ | refine Z9w ?_)); refine Z9u ?_)
  have e : List.map (Z0.int .i64) (C.lens) ++ [.int .i64 (IntKind.wrap .i64 (((Zm5 v.kids).length : Int).tdiv 2))] = List.map (Z0.int .i64) ({ C with lens := C.lens ++ [((v.kids.length / 2 : Nat) : Int)] }.lens) := by rw [Zm9, quo2 _ hk]; simp
  rw [e]
  refine Z8a (FSub.refl _) (show HSub ((b, .cells 5 (ws.set at_ (.agg [v1, v2, v3, v4, (.arr 1 b' 0 (List.map (Z0.int .i64) ({ C with lens := C.lens ++ [((v.kids.length / 2 : Nat) : Int)] }.lens)).length)]))) :: ((β1 ++ (β2 ++ (β3 ++ (β4 ++ [(b', .cells 1 (List.map (Z0.int .i64) ({ C with lens := C.lens ++ [((v.kids.length / 2 : Nat) : Int)] }.lens)))])))) ++ ρ)) ((b', .cells 1 (List.map (Z0.int .i64) ({ C with lens := C.lens ++ [((v.kids.length / 2 : Nat) : Int)] }.lens))) :: (b, .cells 5 (ws.set at_ (.agg [v1, v2, v3, v4, (.arr 1 b' 0 (List.map (Z0.int .i64) ({ C with lens := C.lens ++ [((v.kids.length / 2 : Nat) : Int)] }.lens)).length)]))) :: ((β1 ++ β2 ++ β3 ++ β4) ++ (ρ))) from by
    have := @Zyp b (.cells 5 (ws.set at_ (.agg [v1, v2, v3, v4, (.arr 1 b' 0 (List.map (Z0.int .i64) ({ C with lens := C.lens ++ [((v.kids.length / 2 : Nat) : Int)] }.lens)).length)]))) (β1 ++ β2 ++ β3 ++ β4) [(b', .cells 1 (List.map (Z0.int .i64) ({ C with lens := C.lens ++ [((v.kids.length / 2 : Nat) : Int)] }.lens)))] (ρ)
    simpa [List.append_assoc] using this) ?_
  exact h _ _ ⟨_, _, _, _, _, β1, β2, β3, β4, [(b', .cells 1 (List.map (Z0.int .i64) ({ C with lens := C.lens ++ [((v.kids.length / 2 : Nat) : Int)] }.lens)))], rfl, g1, g2, g3, g4, Zbr.mk, rfl⟩
end Go.Abs
namespace Go.Abs
open Go Go.Proofs
set_option linter.unusedVariables false
set_option linter.unusedSimpArgs false
set_option maxHeartbeats 4000000
attribute [local irreducible] AWp aops KP
theorem Z21i (l : List Nd) : ∀ (v : Vl), v.Fit → ∀ (t : Ty) (at_ : Nat), At l at_ t → t.Ok → vchk t v = 0 → ∀ (ws : List Z0) (cs : List Col) (β : Zc) (b : Nat) (σ : Zc), Zy9 ws cs β → cs.length = l.length → cs.length ≤ 1000 → (∀ c ∈ cs, c.Sm) →
    Z1q Try.prog Zeu [.iptr [.slc 8 (l.map encN) true, .arr 5 b 0 cs.length], .int .i64 (at_ : Int), encV v] ((b, .cells 5 ws) :: (β ++ σ)) fun r σ' => ∃ ws' β', Zy9 ws' (putF l at_ v cs).1 β' ∧ r = .bool (putF l at_ v cs).2 ∧ σ' = (b, .cells 5 ws') :: (β' ++ σ) := by
  refine Vl.ind fun nu i n bs vks ih hfit t at_ hAt hok hchk ws cs β b σ hG hlen h1000 hSm => ?_
  cases hfit with
  | mk hi hbl hkl hkids =>
  have hatl := hAt.lt
  cases hAt with
  | @mk _ _ nd hnd ht hkn hkds =>
  have hat : at_ < cs.length := by omega
  have hwl : at_ < ws.length := by rw [hG.len]; exact hat
  obtain ⟨w, hw⟩ : ∃ w, ws[at_]? = some w := ⟨_, List.getElem?_eq_getElem hwl⟩
  obtain ⟨c, hc⟩ : ∃ c, cs[at_]? = some c := ⟨_, List.getElem?_eq_getElem hat⟩
  have hcSm := hSm c (List.mem_of_getElem? hc)
  have hcD : cs.getD at_ col0 = c := by rw [List.getD_eq_getElem?_getD, hc, Option.getD_some]
  have hnd' : (l.map encN)[((at_ : Nat) : Int).toNat]? = some (encN nd) := by rw [Int.toNat_natCast, List.getElem?_map, hnd]; rfl
  obtain ⟨β1, γ, hC, hperm, hback⟩ := hG.pick at_ w c hw hc
  rw [Zm7]
  generalize hX : putF l at_ (.mk nu i n bs vks) cs = X
  rw [putF, hcD] at hX
  refine Z8t rfl Z219 (Nat.le_of_ble_eq_true rfl) ?_
  refine Z9z ?_
  refine Z9j rfl (Kfi rfl) fun b7 hb7 => ?_
  (repeat (refine st_q rfl rfl rfl ?_))
  (refine Z8y ?_; (repeat (first | refine Z9v rfl ?_ | refine Z9w ?_)); refine Z9u ?_)
  refine Zb3 (d := 5) (cs := Zm6 (.mk nu i n bs vks)) rfl ?_
  refine Z9z ?_
  (repeat (refine st_q rfl rfl rfl ?_))
  refine Z94 rfl ⟨by omega, by omega⟩ ?_
  rw [show 0 + ((at_ : Nat) : Int).toNat = at_ from by simp]
  (repeat (refine st_q rfl rfl rfl ?_))
  refine Z93 rfl (by omega) hnd' ?_
  (repeat (refine st_q rfl rfl rfl ?_))
  refine Z9k (by simp [Z0.cells, Z0.one]) fun b8 hb8 => ?_
  (repeat (refine st_q rfl rfl rfl ?_))
  (first | refine Z9a rfl Z8z rfl (by decide) (Kfi rfl) (fun h => by cases h) Z9b ?_ | refine Z8v rfl (Z9a rfl Z8z rfl (by decide) (Kfi rfl) (fun h => by cases h) Z9b ?_))
  (refine Z8y ?_; (repeat (first | refine Z9v rfl ?_ | refine Z9w ?_)); refine Z9u ?_)
  refine Zb3 (d := 8) (cs := Zm2 nd) rfl ?_
  (refine Z9y (keep := [0, 5, 7, 8]) ?_; ((repeat (first | refine Z9v rfl ?_ | refine Z9w ?_)); refine Z9u ?_))
  have hp1 : HSub ((b, .cells 5 ws) :: (β1 ++ (γ ++ σ))) ((b, .cells 5 ws) :: (β ++ σ)) := HSub.of_perm (List.Perm.cons _ (by rw [← List.append_assoc]; exact (hperm.symm).append_right σ))
  have hp2 : HSub ((b, .cells 5 ws) :: (β ++ σ)) ((b, .cells 5 ws) :: (β1 ++ (γ ++ σ))) := HSub.of_perm (List.Perm.cons _ (by rw [← List.append_assoc]; exact hperm.append_right σ))
  refine Z8a (FSub.refl _) hp1 ?_
  have hC' := hC
  obtain ⟨v1, v2, v3, v4, v5, α1, α2, α3, α4, α5, rfl, g1, g2, g3, g4, g5, rfl⟩ := hC'
  refine awp_seq ?_
  refine awp_seq ?_
  refine Zbm (fun _ _ => rfl) ?_
  (repeat (refine st_q rfl rfl rfl ?_))
  refine Z92 rfl Z8z hw rfl ?_
  refine st_q rfl g1.lens rfl ?_
  (repeat (refine st_q rfl rfl rfl ?_))
  (refine Z8y ?_; (repeat (first | refine Z9v rfl ?_ | refine Z9w ?_)); refine Z9u ?_)
  rw [List.length_map]
  refine Za3 (p := (c.here.length : Int) ≥ 16384) rfl (fun h3 => ?_) (fun h3 => ?_)
  · rw [if_pos (by omega)] at hX
    subst hX
    (repeat (first | refine st_q rfl rfl rfl ?_ | (refine Z8y ?_; (repeat (first | refine Z9v rfl ?_ | refine Z9w ?_)); refine Z9u ?_) | refine awp_seq ?_ | refine Zbm (fun _ _ => rfl) ?_))
    refine Z8d ?_
    exact ares rfl hp2 ⟨ws, β, hG, rfl, rfl⟩
  rw [if_neg (by omega)] at hX
  refine Zbn (fun _ _ => rfl) ?_
  refine awp_seq ?_
  (refine Z9y (keep := [0, 5, 7, 8]) ?_; ((repeat (first | refine Z9v rfl ?_ | refine Z9w ?_)); refine Z9u ?_))
  refine Z21c (fun _ _ => rfl) b at_ ws _ hw c _ hC (by omega) (.mk nu i n bs vks) _ _ (γ ++ σ) fun w1 β2 hC1 => ?_
  have hp3 : ∀ {x : Zb} {δ β' : Zc}, δ.Perm (β' ++ γ) → HSub ((b, x) :: (δ ++ σ)) ((b, x) :: (β' ++ (γ ++ σ))) := fun k => HSub.of_perm (List.Perm.cons _ (by rw [← List.append_assoc]; exact k.append_right σ))
  cases nu with
  | true =>
    rw [if_pos rfl] at hX
    subst hX
    (repeat (first | refine st_q rfl rfl rfl ?_ | (refine Z8y ?_; (repeat (first | refine Z9v rfl ?_ | refine Z9w ?_)); refine Z9u ?_) | refine awp_seq ?_ | refine Zbm (fun _ _ => rfl) ?_ | refine Kc1 rfl ?_))
    refine Z8d ?_
    obtain ⟨δ, k1, k2⟩ := hback w1 _ β2 hC1
    exact ares rfl (hp3 k2) ⟨_, δ, k1, rfl, rfl⟩
  | false =>
    rw [if_neg (by simp)] at hX
    have hown : ownV t i n bs vks.length = 0 ∧ Zmg t i 0 vks = 0 := by
      rw [vchk, if_neg (by simp)] at hchk
      split at hchk
      · omega
      · exact ⟨by omega, hchk⟩
    have hbs : bs.length ≤ 4096 := by
      have h1' := hown.1
      unfold ownV at h1'
      split at h1'
      · omega
      · split at h1'
        · omega
        · rename_i h2
          omega
    have hkind : Zyh l at_ = t.kind := by rw [Zyh, hnd]; exact congrArg Ty.kind ht
    have htk : nd.t.kind = t.kind := congrArg Ty.kind ht
    rw [hkind] at hX
    have hC1 : ColG w1 (Zyg true c) β2 := hC1
    have b1 := hcSm.texts
    have b2 := hcSm.here
    have b3 := hcSm.lens
    have b4 := hcSm.ints
    have b5 := hcSm.ns
    have hw1 : ∀ w', (ws.set at_ w')[at_]? = some w' := fun w' => by rw [List.getElem?_set_self hwl]
    have fin : ∀ w3 β4, ColG w3 (addC t.kind (.mk false i n bs vks) c) β4 → AWp Try.prog Z20a.n (Z20a.code.snd 10) (ARet Z20a.res fun r σ' => ∃ ws' β', Zy9 ws' X.fst β' ∧ r = Z0.bool X.snd ∧ σ' = (b, Zb.cells 5 ws') :: (β' ++ σ))
        (fset 0 (some (.iptr [.slc 8 (l.map encN) true, .arr 5 b 0 cs.length])) (fset 5 (some (.iptr (Zm6 (.mk false i n bs vks)))) (fset 8 (some (.iptr (Zm2 nd))) Z27))) ((b, .cells 5 (ws.set at_ w3)) :: (β4 ++ (γ ++ σ))) := by
      intro w3 β4 hC3
      obtain ⟨δ, k1, k2⟩ := hback w3 _ β4 hC3
      refine Z8a (FSub.refl _) (hp3 k2) ?_
      have hCs : ∀ x ∈ cs.set at_ (addC t.kind (.mk false i n bs vks) c), x.Sm := Z1i2 hSm (Z1i1 _ _ hcSm (by omega))
      have hevl : (Zm5 (Vl.mk false i n bs vks).kids).length = vks.length := Zm9 _
      (repeat (first | refine st_q rfl rfl rfl ?_ | (refine Z8y ?_; (repeat (first | refine Z9v rfl ?_ | refine Z9w ?_)); refine Z9u ?_) | refine awp_seq ?_ | refine Zbm (fun _ _ => rfl) ?_ | refine Z8h ?_))
      rw [hevl]
      obtain ⟨I, hI⟩ : ∃ I : Nat → Z26 → Zc → Prop, I = fun m F σ' => ∃ (j : Nat) (ws' : List Z0) (cs' : List Col) (β' : Zc), F = fset 0 (some (.iptr [.slc 8 (l.map encN) true, .arr 5 b 0 cs.length])) (fset 5 (some (.iptr (Zm6 (.mk false i n bs vks)))) (fset 8 (some (.iptr (Zm2 nd))) (fset 109 (some (.slc 5 (Zm5 vks) false)) (fset 110 (some (.int .i64 (vks.length : Nat))) (fset 111 (some (.int .i64 (j : Int))) Z27))))) ∧
        (b, Zb.cells 5 ws') :: (β' ++ σ) = σ' ∧ Zy9 ws' cs' β' ∧ cs'.length = cs.length ∧ (∀ x ∈ cs', x.Sm) ∧ j ≤ vks.length ∧ putL l at_ i j (vks.drop j) cs' = X ∧ Zmg t i j (vks.drop j) = 0 ∧ m = vks.length - j := ⟨_, rfl⟩
      refine Zaa I (n := vks.length)
        (by rw [hI]; exact ⟨0, _, _, δ, rfl, rfl, k1, List.length_set, hCs, by omega, hX, hown.2, rfl⟩) ?_
      intro m F σ' hIm
      rw [hI] at hIm
      obtain ⟨j, ws', cs', β', rfl, rfl, hG', hl', hS', hj, hXj, hvj, rfl⟩ := hIm
      have hkl' : vks.length ≤ 9223372036854775807 := hkl
      (repeat (first | refine st_q rfl rfl rfl ?_ | (refine Z8y ?_; (repeat (first | refine Z9v rfl ?_ | refine Z9w ?_)); refine Z9u ?_) | refine awp_seq ?_ | refine Zbm (fun _ _ => rfl) ?_))
      refine Za3 (p := (j : Int) < (vks.length : Int)) rfl (fun h5 => ?_) (fun h5 => ?_)
      · have hjl : j < vks.length := by omega
        have Zd : vks[j]? = some vks[j] := List.getElem?_eq_getElem hjl
        obtain ⟨hka, hi0⟩ := Ztv hok hown.1 hjl
        rw [List.drop_eq_getElem_cons hjl, Zmg] at hvj
        rw [List.drop_eq_getElem_cons hjl, putL] at hXj
        have hv0 : vchk (kidT t i j) vks[j] = 0 ∧ Zmg t i (j + 1) (vks.drop (j + 1)) = 0 := by
          split at hvj
          · omega
          · split at hvj
            · omega
            · exact ⟨by omega, hvj⟩
        have hleaf : Zlt t.kind = false := by
          cases e : Zlt t.kind with
          | false => rfl
          | true =>
            have := hown.1
            rw [ownV, if_pos (.inr (.inr ⟨by omega, e⟩))] at this
            omega
        have hkl2 : Zmf t.kind i j < nd.kids.length := by omega
        obtain ⟨kx, hkx⟩ : ∃ kx, nd.kids[Zmf t.kind i j]? = some kx := ⟨_, List.getElem?_eq_getElem hkl2⟩
        have hAtk : At l kx (kidT t i j) := hkds _ _ _ hkx (by rw [kidT, List.getD_eq_getElem?_getD, List.getElem?_eq_getElem hka]; rfl)
        have hkC : kidC l at_ t.kind i j = kx := by
          rw [kidC, hnd]
          show nd.kids.getD _ 0 = kx
          rw [List.getD_eq_getElem?_getD, hkx, Option.getD_some]
        rw [hkind, hkC] at hXj
        have hcall := ih vks[j] (List.getElem_mem hjl) (hkids _ (List.getElem_mem hjl)) (kidT t i j) kx hAtk (Ztw hok hka) hv0.1 ws' cs' β' b σ hG' (by omega) (by omega) hS'
        rw [hl'] at hcall
        have hxv : (Zm5 vks)[((j : Nat) : Int).toNat]? = some (encV vks[j]) := Zma (by rw [Int.toNat_natCast, Zd])
        have hxk : (ints nd.kids)[((Zmf t.kind i j : Nat) : Int).toNat]? = some (.int .i64 (kx : Int)) := by rw [Int.toNat_natCast]; simp [ints, hkx]
        rw [Zm7] at hcall hxv
        have hvnull : ∀ (u : Vl), Zm6 u = [.bool u.null, .int .i64 u.i, .int .i64 u.n, .slc 1 (bytes u.b) false, .slc 5 (Zm5 u.kids) false] := fun u => rfl
        generalize vks[j] = vj at hXj hcall hxv hv0
        have tail : AWp Try.prog Z20a.n (.seq (.region Z205 [0, 5, 8, 109, 110, 111, 137]) (.cond (.t 137) (.seq (.region Z206 [6]) .ret) .skip)) (Z8g 1 (Z8e Try.prog Z20a.n (.region Z207 [0, 5, 8, 109, 110, 111]) (Za9 I (vks.length - j) (Z8g 0 (Z8e Try.prog Z20a.n (Z20a.code.snd 11) (ARet Z20a.res fun r σ' => ∃ ws' β', Zy9 ws' X.fst β' ∧ r = Z0.bool X.snd ∧ σ' = (b, Zb.cells 5 ws') :: (β' ++ σ)))))))
            (fset 0 (some (.iptr [.slc 8 (l.map encN) true, .arr 5 b 0 cs.length])) (fset 5 (some (.iptr (Zm6 (.mk false i n bs vks)))) (fset 8 (some (.iptr (Zm2 nd))) (fset 11 (some (.iptr (Zm6 vj))) (fset 12 (some (.int .i64 (Zmf t.kind i j : Int))) (fset 109 (some (.slc 5 (Zm5 vks) false)) (fset 110 (some (.int .i64 (vks.length : Nat))) (fset 111 (some (.int .i64 (j : Int))) Z27)))))))) ((b, .cells 5 ws') :: (β' ++ σ)) := by
          refine Z9z ?_
          (repeat (refine st_q rfl rfl rfl ?_))
          refine Z93 rfl (by omega) hxk ?_
          (repeat (refine st_q rfl rfl rfl ?_))
          obtain ⟨wsx, βx, hx⟩ := Zy9.ex (putF l kx vj cs').1
          refine Z9s rfl hcall ⟨_, _, wsx, βx, hx, rfl, rfl⟩ ?_
          rintro r σ2 ⟨ws2, β5, hG2, rfl, rfl⟩
          (repeat (refine st_q rfl rfl rfl ?_))
          (refine Z8y ?_; (repeat (first | refine Z9v rfl ?_ | refine Z9w ?_)); refine Z9u ?_)
          have hlen2 := Z1i3 l vj kx cs'
          have hSm2 := Z1i4 l vj kx cs' hS'
          generalize putF l kx vj cs' = pr at hXj hG2 hlen2 hSm2
          obtain ⟨cs2, ok⟩ := pr
          cases ok with
          | true =>
            rw [if_pos rfl] at hXj
            (repeat (first | refine Zbn (fun _ _ => rfl) ?_ | refine Kc2 rfl ?_))
            refine Zbp ?_
            (repeat (refine st_q rfl rfl rfl ?_))
            rw [Kwr j (by omega)]
            (refine Z8y ?_; (repeat (first | refine Z9v rfl ?_ | refine Z9w ?_)); refine Z9u ?_)
            refine ⟨_, vks.length - (j + 1), HSub.refl _, ?_, by omega⟩
            rw [hI]
            exact ⟨j + 1, ws2, cs2, β5, rfl, rfl, hG2, by rw [← hl', ← hlen2], hSm2, by omega, hXj, hv0.2, rfl⟩
          | false =>
            rw [if_neg (by simp)] at hXj
            subst hXj
            (repeat (first | refine st_q rfl rfl rfl ?_ | (refine Z8y ?_; (repeat (first | refine Z9v rfl ?_ | refine Z9w ?_)); refine Z9u ?_) | refine awp_seq ?_ | refine Zbm (fun _ _ => rfl) ?_ | refine Kc1 rfl ?_))
            refine Z8d ?_
            exact Kar rfl ⟨ws2, β5, hG2, rfl, rfl⟩
        refine Zbn (fun _ _ => rfl) ?_
        refine awp_seq ?_
        refine Z8h ?_
        refine Z9z ?_
        (repeat (refine st_q rfl rfl rfl ?_))
        refine Z93 rfl (by omega) hxv ?_
        (repeat (refine st_q rfl rfl rfl ?_))
        refine Z9k (by simp [Z0.cells, Z0.one]) fun b11 hb11 => ?_
        (repeat (refine st_q rfl rfl rfl ?_))
        (first | refine Z9a rfl Z8z rfl (by decide) (Kfi rfl) (fun h => by cases h) Z9b ?_ | refine Z8v rfl (Z9a rfl Z8z rfl (by decide) (Kfi rfl) (fun h => by cases h) Z9b ?_))
        (refine Z8y ?_; (repeat (first | refine Z9v rfl ?_ | refine Z9w ?_)); refine Z9u ?_)
        refine Zb3 (d := 11) (cs := Zm6 vj) rfl ?_
        (refine Z9y (keep := [0, 5, 8, 10, 11, 109, 110, 111]) ?_; ((repeat (first | refine Z9v rfl ?_ | refine Z9w ?_)); refine Z9u ?_))
        refine Z9z ?_
        (repeat (refine st_q rfl rfl rfl ?_))
        (refine Z8y ?_; (repeat (first | refine Z9v rfl ?_ | refine Z9w ?_)); refine Z9u ?_)
        refine awp_seq ?_
        refine awp_seq ?_
        refine Zbm (fun _ _ => rfl) ?_
        (repeat (refine st_q rfl rfl rfl ?_))
        (refine Z8y ?_; (repeat (first | refine Z9v rfl ?_ | refine Z9w ?_)); refine Z9u ?_)
        refine Z8h ?_
        refine Z9z ?_
        (repeat (refine st_q rfl rfl rfl ?_))
        (refine Z8y ?_; (repeat (first | refine Z9v rfl ?_ | refine Z9w ?_)); refine Z9u ?_)
        rw [htk]
        refine Za3 (p := t.kind = 10) rfl (fun k10 => ?_) (fun k10 => ?_)
        · refine Zbm (fun _ _ => rfl) ?_
          (repeat (refine st_q rfl rfl rfl ?_))
          (refine Z8y ?_; (repeat (first | refine Z9v rfl ?_ | refine Z9w ?_)); refine Z9u ?_)
          have e : Zmf t.kind i j = 0 := by simp [Zmf, k10]
          rw [e] at tail
          exact tail
        refine Z9z ?_
        (repeat (refine st_q rfl rfl rfl ?_))
        (refine Z8y ?_; (repeat (first | refine Z9v rfl ?_ | refine Z9w ?_)); refine Z9u ?_)
        refine Za3 (p := t.kind = 11) rfl (fun k11 => ?_) (fun k11 => ?_)
        · refine Zbm (fun _ _ => rfl) ?_
          (repeat (refine st_q rfl rfl rfl ?_))
          (refine Z8y ?_; (repeat (first | refine Z9v rfl ?_ | refine Z9w ?_)); refine Z9u ?_)
          have e : ((Zmf t.kind i j : Nat) : Int) = (j : Int).tmod 2 := by
            rw [Int.tmod_eq_emod_of_nonneg (by omega)]
            simp [Zmf, k11]
          rw [e] at tail
          exact tail
        refine Z9z ?_
        (repeat (refine st_q rfl rfl rfl ?_))
        (refine Z8y ?_; (repeat (first | refine Z9v rfl ?_ | refine Z9w ?_)); refine Z9u ?_)
        refine Za3 (p := t.kind = 13) rfl (fun k13 => ?_) (fun k13 => ?_)
        · refine Zbm (fun _ _ => rfl) ?_
          (repeat (refine st_q rfl rfl rfl ?_))
          (refine Z8y ?_; (repeat (first | refine Z9v rfl ?_ | refine Z9w ?_)); refine Z9u ?_)
          have e : ((Zmf t.kind i j : Nat) : Int) = i := by
            have := hi0 k13
            simp [Zmf, k13]
            omega
          rw [e] at tail
          exact tail
        · refine Zbn (fun _ _ => rfl) ?_
          (refine Z9y (keep := [0, 5, 8, 11, 12, 109, 110, 111]) ?_; ((repeat (first | refine Z9v rfl ?_ | refine Z9w ?_)); refine Z9u ?_))
          have e : Zmf t.kind i j = j := by simp [Zmf, k10, k11, k13]
          rw [e] at tail
          exact tail
      · rw [List.drop_of_length_le (by omega), putL] at hXj
        subst hXj
        (repeat (first | refine st_q rfl rfl rfl ?_ | (refine Z8y ?_; (repeat (first | refine Z9v rfl ?_ | refine Z9w ?_)); refine Z9u ?_) | refine awp_seq ?_ | refine Zbm (fun _ _ => rfl) ?_ | refine Zbo (fun _ _ => rfl) ?_))
        refine Z8d ?_
        exact Kar rfl ⟨ws', β', hG', rfl, rfl⟩
    refine awp_seq ?_
    refine awp_seq ?_
    refine Zbm (fun _ _ => rfl) ?_
    (repeat (refine st_q rfl rfl rfl ?_))
    (refine Z8y ?_; (repeat (first | refine Z9v rfl ?_ | refine Z9w ?_)); refine Z9u ?_)
    refine Kc2 rfl ?_
    refine Zbn (fun _ _ => rfl) ?_
    (refine Z9y (keep := [0, 5, 7, 8]) ?_; ((repeat (first | refine Z9v rfl ?_ | refine Z9w ?_)); refine Z9u ?_))
    refine Z9z ?_
    (repeat (refine st_q rfl rfl rfl ?_))
    rw [htk]
    refine Z9t rfl (c_of t.kind _) ?_
    refine Z9k (by simp [Z0.cells, Z0.one]) fun b9 hb9 => ?_
    (repeat (refine st_q rfl rfl rfl ?_))
    (first | refine Z9a rfl Z8z rfl (by decide) (Kfi rfl) (fun h => by cases h) Z9b ?_ | refine Z8v rfl (Z9a rfl Z8z rfl (by decide) (Kfi rfl) (fun h => by cases h) Z9b ?_))
    (refine Z8y ?_; (repeat (first | refine Z9v rfl ?_ | refine Z9w ?_)); refine Z9u ?_)
    refine Zb3 (d := 9) (cs := Z1ry t.kind) rfl ?_
    (refine Z9y (keep := [0, 5, 7, 8, 9]) ?_; ((repeat (first | refine Z9v rfl ?_ | refine Z9w ?_)); refine Z9u ?_))
    rw [Z1ry]
    cases hT : Zmb t.kind with
    | true =>
      have hk := Z1jz hT
      rw [show intF t.kind = false by simp [intF, hT], show decide (t.kind = 9) = false from decide_eq_false (by omega), show lenF t.kind = false by simp [lenF]; omega]
      refine awp_seq ?_
      refine awp_seq ?_
      refine Zbm (fun _ _ => rfl) ?_
      (repeat (refine st_q rfl rfl rfl ?_))
      (refine Z8y ?_; (repeat (first | refine Z9v rfl ?_ | refine Z9w ?_)); refine Z9u ?_)
      refine Kc2 rfl ?_
      refine Zbn (fun _ _ => rfl) ?_
      (refine Z9y (keep := [0, 5, 7, 8, 9]) ?_; ((repeat (first | refine Z9v rfl ?_ | refine Z9w ?_)); refine Z9u ?_))
      refine awp_seq ?_
      refine awp_seq ?_
      refine Zbm (fun _ _ => rfl) ?_
      (repeat (refine st_q rfl rfl rfl ?_))
      (refine Z8y ?_; (repeat (first | refine Z9v rfl ?_ | refine Z9w ?_)); refine Z9u ?_)
      refine Kc2 rfl ?_
      refine Zbn (fun _ _ => rfl) ?_
      (refine Z9y (keep := [0, 5, 7, 8, 9]) ?_; ((repeat (first | refine Z9v rfl ?_ | refine Z9w ?_)); refine Z9u ?_))
      refine awp_seq ?_
      refine awp_seq ?_
      refine Zbm (fun _ _ => rfl) ?_
      (repeat (refine st_q rfl rfl rfl ?_))
      (refine Z8y ?_; (repeat (first | refine Z9v rfl ?_ | refine Z9w ?_)); refine Z9u ?_)
      refine Kc1 rfl ?_
      (refine Z9y (keep := [0, 5, 7, 8, 9]) ?_; ((repeat (first | refine Z9v rfl ?_ | refine Z9w ?_)); refine Z9u ?_))
      refine Z21f (fun _ _ => rfl) b at_ _ w1 (hw1 w1) (Zyg true c) β2 hC1 (show c.texts.length ≤ 16384 by omega) (.mk false i n bs vks) hbs _ _ _ (γ ++ σ) fun w' β' hC2 => ?_
      rw [List.set_set]
      refine awp_seq ?_
      refine awp_seq ?_
      refine Zbm (fun _ _ => rfl) ?_
      (repeat (refine st_q rfl rfl rfl ?_))
      (refine Z8y ?_; (repeat (first | refine Z9v rfl ?_ | refine Z9w ?_)); refine Z9u ?_)
      refine Kc2 rfl ?_
      refine Zbn (fun _ _ => rfl) ?_
      (refine Z9y (keep := [0, 5, 8]) ?_; ((repeat (first | refine Z9v rfl ?_ | refine Z9w ?_)); refine Z9u ?_))
      refine fin w' β' ?_
      rw [addC, Zyf, if_neg (by omega), Zye, if_pos hT]
      exact hC2
    | false =>
    by_cases k10 : t.kind = 10
    · rw [show intF t.kind = false by simp [intF, k10], show decide (t.kind = 9) = false from decide_eq_false (by omega), show lenF t.kind = true by simp [lenF, k10]]
      refine awp_seq ?_
      refine awp_seq ?_
      refine Zbm (fun _ _ => rfl) ?_
      (repeat (refine st_q rfl rfl rfl ?_))
      (refine Z8y ?_; (repeat (first | refine Z9v rfl ?_ | refine Z9w ?_)); refine Z9u ?_)
      refine Kc2 rfl ?_
      refine Zbn (fun _ _ => rfl) ?_
      (refine Z9y (keep := [0, 5, 7, 8, 9]) ?_; ((repeat (first | refine Z9v rfl ?_ | refine Z9w ?_)); refine Z9u ?_))
      refine awp_seq ?_
      refine awp_seq ?_
      refine Zbm (fun _ _ => rfl) ?_
      (repeat (refine st_q rfl rfl rfl ?_))
      (refine Z8y ?_; (repeat (first | refine Z9v rfl ?_ | refine Z9w ?_)); refine Z9u ?_)
      refine Kc2 rfl ?_
      refine Zbn (fun _ _ => rfl) ?_
      (refine Z9y (keep := [0, 5, 7, 8, 9]) ?_; ((repeat (first | refine Z9v rfl ?_ | refine Z9w ?_)); refine Z9u ?_))
      refine awp_seq ?_
      refine awp_seq ?_
      refine Zbm (fun _ _ => rfl) ?_
      (repeat (refine st_q rfl rfl rfl ?_))
      (refine Z8y ?_; (repeat (first | refine Z9v rfl ?_ | refine Z9w ?_)); refine Z9u ?_)
      refine Kc2 rfl ?_
      refine Zbn (fun _ _ => rfl) ?_
      (refine Z9y (keep := [0, 5, 7, 8, 9]) ?_; ((repeat (first | refine Z9v rfl ?_ | refine Z9w ?_)); refine Z9u ?_))
      refine awp_seq ?_
      refine awp_seq ?_
      refine Zbm (fun _ _ => rfl) ?_
      (repeat (refine st_q rfl rfl rfl ?_))
      (refine Z8y ?_; (repeat (first | refine Z9v rfl ?_ | refine Z9w ?_)); refine Z9u ?_)
      refine Kc1 rfl ?_
      (refine Z9y (keep := [0, 5, 7, 8]) ?_; ((repeat (first | refine Z9v rfl ?_ | refine Z9w ?_)); refine Z9u ?_))
      have hkl3 : nd.kids.length = 1 := by
        have := hok.kinds.1
        rw [Zlv] at this
        simp [k10] at this
        omega
      obtain ⟨x1, hx1⟩ : ∃ x1, nd.kids = [x1] := List.length_eq_one_iff.1 hkl3
      have fin' := fin
      rw [Zm2, hx1] at fin' ⊢
      refine Z21g (fun _ _ => rfl) b at_ _ w1 (hw1 w1) (Zyg true c) β2 hC1 (show c.lens.length ≤ 16384 by omega) (.mk false i n bs vks) hkl _ _ _ _ _ _ _ _ _ (γ ++ σ) fun w' β' hC2 => ?_
      rw [List.set_set]
      refine fin' w' β' ?_
      rw [addC, Zyf, if_neg (by omega), Zye, if_neg (by simp [hT]), if_pos k10]
      exact hC2
    by_cases k11 : t.kind = 11
    · rw [show intF t.kind = false by simp [intF, k11], show decide (t.kind = 9) = false from decide_eq_false (by omega), show lenF t.kind = true by simp [lenF, k11]]
      refine awp_seq ?_
      refine awp_seq ?_
      refine Zbm (fun _ _ => rfl) ?_
      (repeat (refine st_q rfl rfl rfl ?_))
      (refine Z8y ?_; (repeat (first | refine Z9v rfl ?_ | refine Z9w ?_)); refine Z9u ?_)
      refine Kc2 rfl ?_
      refine Zbn (fun _ _ => rfl) ?_
      (refine Z9y (keep := [0, 5, 7, 8, 9]) ?_; ((repeat (first | refine Z9v rfl ?_ | refine Z9w ?_)); refine Z9u ?_))
      refine awp_seq ?_
      refine awp_seq ?_
      refine Zbm (fun _ _ => rfl) ?_
      (repeat (refine st_q rfl rfl rfl ?_))
      (refine Z8y ?_; (repeat (first | refine Z9v rfl ?_ | refine Z9w ?_)); refine Z9u ?_)
      refine Kc2 rfl ?_
      refine Zbn (fun _ _ => rfl) ?_
      (refine Z9y (keep := [0, 5, 7, 8, 9]) ?_; ((repeat (first | refine Z9v rfl ?_ | refine Z9w ?_)); refine Z9u ?_))
      refine awp_seq ?_
      refine awp_seq ?_
      refine Zbm (fun _ _ => rfl) ?_
      (repeat (refine st_q rfl rfl rfl ?_))
      (refine Z8y ?_; (repeat (first | refine Z9v rfl ?_ | refine Z9w ?_)); refine Z9u ?_)
      refine Kc2 rfl ?_
      refine Zbn (fun _ _ => rfl) ?_
      (refine Z9y (keep := [0, 5, 7, 8, 9]) ?_; ((repeat (first | refine Z9v rfl ?_ | refine Z9w ?_)); refine Z9u ?_))
      refine awp_seq ?_
      refine awp_seq ?_
      refine Zbm (fun _ _ => rfl) ?_
      (repeat (refine st_q rfl rfl rfl ?_))
      (refine Z8y ?_; (repeat (first | refine Z9v rfl ?_ | refine Z9w ?_)); refine Z9u ?_)
      refine Kc1 rfl ?_
      (refine Z9y (keep := [0, 5, 7, 8]) ?_; ((repeat (first | refine Z9v rfl ?_ | refine Z9w ?_)); refine Z9u ?_))
      have hkl3 : nd.kids.length = 2 := by
        have := hok.kinds.1
        rw [Zlv] at this
        simp [k11] at this
        omega
      obtain ⟨x1, x2, hx1⟩ : ∃ x1 x2, nd.kids = [x1, x2] := by
        match nd.kids, hkl3 with
        | [a, b], _ => exact ⟨a, b, rfl⟩
      have fin' := fin
      rw [Zm2, hx1] at fin' ⊢
      refine Z21h (fun _ _ => rfl) b at_ _ w1 (hw1 w1) (Zyg true c) β2 hC1 (show c.lens.length ≤ 16384 by omega) (.mk false i n bs vks) hkl _ _ _ _ _ _ _ _ _ _ (γ ++ σ) fun w' β' hC2 => ?_
      rw [List.set_set]
      refine fin' w' β' ?_
      rw [addC, Zyf, if_neg (by omega), Zye, if_neg (by simp [hT]), if_neg (by omega), if_pos k11]
      exact hC2
    by_cases k12 : t.kind = 12
    · rw [show intF t.kind = false by simp [intF, k12], show decide (t.kind = 9) = false from decide_eq_false (by omega), show lenF t.kind = false by simp [lenF, k12]]
      refine awp_seq ?_
      refine awp_seq ?_
      refine Zbm (fun _ _ => rfl) ?_
      (repeat (refine st_q rfl rfl rfl ?_))
      (refine Z8y ?_; (repeat (first | refine Z9v rfl ?_ | refine Z9w ?_)); refine Z9u ?_)
      refine Kc2 rfl ?_
      refine Zbn (fun _ _ => rfl) ?_
      (refine Z9y (keep := [0, 5, 7, 8, 9]) ?_; ((repeat (first | refine Z9v rfl ?_ | refine Z9w ?_)); refine Z9u ?_))
      refine awp_seq ?_
      refine awp_seq ?_
      refine Zbm (fun _ _ => rfl) ?_
      (repeat (refine st_q rfl rfl rfl ?_))
      (refine Z8y ?_; (repeat (first | refine Z9v rfl ?_ | refine Z9w ?_)); refine Z9u ?_)
      refine Kc2 rfl ?_
      refine Zbn (fun _ _ => rfl) ?_
      (refine Z9y (keep := [0, 5, 7, 8, 9]) ?_; ((repeat (first | refine Z9v rfl ?_ | refine Z9w ?_)); refine Z9u ?_))
      refine awp_seq ?_
      refine awp_seq ?_
      refine Zbm (fun _ _ => rfl) ?_
      (repeat (refine st_q rfl rfl rfl ?_))
      (refine Z8y ?_; (repeat (first | refine Z9v rfl ?_ | refine Z9w ?_)); refine Z9u ?_)
      refine Kc2 rfl ?_
      refine Zbn (fun _ _ => rfl) ?_
      (refine Z9y (keep := [0, 5, 7, 8, 9]) ?_; ((repeat (first | refine Z9v rfl ?_ | refine Z9w ?_)); refine Z9u ?_))
      refine awp_seq ?_
      refine awp_seq ?_
      refine Zbm (fun _ _ => rfl) ?_
      (repeat (refine st_q rfl rfl rfl ?_))
      (refine Z8y ?_; (repeat (first | refine Z9v rfl ?_ | refine Z9w ?_)); refine Z9u ?_)
      refine Kc2 rfl ?_
      refine Zbn (fun _ _ => rfl) ?_
      (refine Z9y (keep := [0, 5, 8]) ?_; ((repeat (first | refine Z9v rfl ?_ | refine Z9w ?_)); refine Z9u ?_))
      refine fin w1 β2 ?_
      rw [addC, Zyf, if_neg (by omega), Zye, if_neg (by simp [hT]), if_neg k10, if_neg k11, if_neg (by omega)]
      exact hC1
    by_cases k9 : t.kind = 9
    · rw [show intF t.kind = true by simp [intF, hT, k10, k11, k12], show decide (t.kind = 9) = true from decide_eq_true k9, show lenF t.kind = false by simp [lenF, k10, k11]]
      refine awp_seq ?_
      refine awp_seq ?_
      refine Zbm (fun _ _ => rfl) ?_
      (repeat (refine st_q rfl rfl rfl ?_))
      (refine Z8y ?_; (repeat (first | refine Z9v rfl ?_ | refine Z9w ?_)); refine Z9u ?_)
      refine Kc1 rfl ?_
      (refine Z9y (keep := [0, 5, 7, 8, 9]) ?_; ((repeat (first | refine Z9v rfl ?_ | refine Z9w ?_)); refine Z9u ?_))
      refine Z21d (fun _ _ => rfl) b at_ _ w1 (hw1 w1) (Zyg true c) β2 hC1 (show c.ints.length ≤ 16384 by omega) (.mk false i n bs vks) _ _ _ (γ ++ σ) fun w2 β3 hC2 => ?_
      rw [List.set_set]
      refine awp_seq ?_
      refine awp_seq ?_
      refine Zbm (fun _ _ => rfl) ?_
      (repeat (refine st_q rfl rfl rfl ?_))
      (refine Z8y ?_; (repeat (first | refine Z9v rfl ?_ | refine Z9w ?_)); refine Z9u ?_)
      refine Kc1 rfl ?_
      (refine Z9y (keep := [0, 5, 7, 8, 9]) ?_; ((repeat (first | refine Z9v rfl ?_ | refine Z9w ?_)); refine Z9u ?_))
      refine Z21e (fun _ _ => rfl) b at_ _ w2 (hw1 w2) _ β3 hC2 (show c.ns.length ≤ 16384 by omega) (.mk false i n bs vks) _ _ _ (γ ++ σ) fun w' β' hC3 => ?_
      rw [List.set_set]
      refine awp_seq ?_
      refine awp_seq ?_
      refine Zbm (fun _ _ => rfl) ?_
      (repeat (refine st_q rfl rfl rfl ?_))
      (refine Z8y ?_; (repeat (first | refine Z9v rfl ?_ | refine Z9w ?_)); refine Z9u ?_)
      refine Kc2 rfl ?_
      refine Zbn (fun _ _ => rfl) ?_
      (refine Z9y (keep := [0, 5, 7, 8, 9]) ?_; ((repeat (first | refine Z9v rfl ?_ | refine Z9w ?_)); refine Z9u ?_))
      refine awp_seq ?_
      refine awp_seq ?_
      refine Zbm (fun _ _ => rfl) ?_
      (repeat (refine st_q rfl rfl rfl ?_))
      (refine Z8y ?_; (repeat (first | refine Z9v rfl ?_ | refine Z9w ?_)); refine Z9u ?_)
      refine Kc2 rfl ?_
      refine Zbn (fun _ _ => rfl) ?_
      (refine Z9y (keep := [0, 5, 8]) ?_; ((repeat (first | refine Z9v rfl ?_ | refine Z9w ?_)); refine Z9u ?_))
      refine fin w' β' ?_
      rw [addC, Zyf, if_pos k9, Zye, if_neg (by simp [hT]), if_neg k10, if_neg k11, if_pos k12]
      exact hC3
    · rw [show intF t.kind = true by simp [intF, hT, k10, k11, k12], show decide (t.kind = 9) = false from decide_eq_false k9, show lenF t.kind = false by simp [lenF, k10, k11]]
      refine awp_seq ?_
      refine awp_seq ?_
      refine Zbm (fun _ _ => rfl) ?_
      (repeat (refine st_q rfl rfl rfl ?_))
      (refine Z8y ?_; (repeat (first | refine Z9v rfl ?_ | refine Z9w ?_)); refine Z9u ?_)
      refine Kc1 rfl ?_
      (refine Z9y (keep := [0, 5, 7, 8, 9]) ?_; ((repeat (first | refine Z9v rfl ?_ | refine Z9w ?_)); refine Z9u ?_))
      refine Z21d (fun _ _ => rfl) b at_ _ w1 (hw1 w1) (Zyg true c) β2 hC1 (show c.ints.length ≤ 16384 by omega) (.mk false i n bs vks) _ _ _ (γ ++ σ) fun w' β' hC2 => ?_
      rw [List.set_set]
      refine awp_seq ?_
      refine awp_seq ?_
      refine Zbm (fun _ _ => rfl) ?_
      (repeat (refine st_q rfl rfl rfl ?_))
      (refine Z8y ?_; (repeat (first | refine Z9v rfl ?_ | refine Z9w ?_)); refine Z9u ?_)
      refine Kc2 rfl ?_
      refine Zbn (fun _ _ => rfl) ?_
      (refine Z9y (keep := [0, 5, 7, 8, 9]) ?_; ((repeat (first | refine Z9v rfl ?_ | refine Z9w ?_)); refine Z9u ?_))
      refine awp_seq ?_
      refine awp_seq ?_
      refine Zbm (fun _ _ => rfl) ?_
      (repeat (refine st_q rfl rfl rfl ?_))
      (refine Z8y ?_; (repeat (first | refine Z9v rfl ?_ | refine Z9w ?_)); refine Z9u ?_)
      refine Kc2 rfl ?_
      refine Zbn (fun _ _ => rfl) ?_
      (refine Z9y (keep := [0, 5, 7, 8, 9]) ?_; ((repeat (first | refine Z9v rfl ?_ | refine Z9w ?_)); refine Z9u ?_))
      refine awp_seq ?_
      refine awp_seq ?_
      refine Zbm (fun _ _ => rfl) ?_
      (repeat (refine st_q rfl rfl rfl ?_))
      (refine Z8y ?_; (repeat (first | refine Z9v rfl ?_ | refine Z9w ?_)); refine Z9u ?_)
      refine Kc2 rfl ?_
      refine Zbn (fun _ _ => rfl) ?_
      (refine Z9y (keep := [0, 5, 8]) ?_; ((repeat (first | refine Z9v rfl ?_ | refine Z9w ?_)); refine Z9u ?_))
      refine fin w' β' ?_
      rw [addC, Zyf, if_neg k9, Zye, if_neg (by simp [hT]), if_neg k10, if_neg k11, if_pos k12]
      exact hC2
end Go.Abs
namespace Go.Abs
open Go Go.Proofs
set_option linter.unusedVariables false
set_option linter.unusedSimpArgs false
set_option maxHeartbeats 4000000
attribute [local irreducible] AWp aops KP
theorem Z21j (t : Ty) (ht : t.Fit) (rows : List Vl) (hr : ∀ v ∈ rows, v.Fit) (hl : rows.length ≤ 140737488355328) (σ : Zc) :
    Z1q Try.prog Zdj [encT t, .slc 5 (Zm5 rows) false] σ fun r σ' => r = .tup [.slc 5 ((Z1i6 t rows).1.map encC) false, .int .i64 ((Z1i6 t rows).2 : Int)] ∧ σ' = σ := by
  have hcT := Zn1 t ht
  have hfl := Znk t ht
  have hrl := Zm9 rows
  generalize hX : Z1i6 t rows = X
  rw [Zlp] at hcT hfl ⊢
  refine Z8t rfl Z218 (Nat.le_of_ble_eq_true rfl) ?_
  refine Z9z ?_
  refine Z9j rfl (Kfi rfl) fun b2 hb2 => ?_
  (repeat (refine st_q rfl rfl rfl ?_))
  (refine Z8y ?_; (repeat (first | refine Z9v rfl ?_ | refine Z9w ?_)); refine Z9u ?_)
  refine Zb3 (d := 2) (cs := Zlo t) rfl ?_
  (repeat (first | refine st_q rfl rfl rfl ?_ | refine awp_seq ?_ | refine Zbm (fun _ _ => rfl) ?_))
  refine Z9t rfl (hcT _) ?_
  by_cases h0 : Zlx t = 0
  rotate_left
  · rw [Z1i6, if_pos h0] at hX
    subst hX
    (repeat (first | refine st_q rfl rfl rfl ?_ | (refine Z8y ?_; (repeat (first | refine Z9v rfl ?_ | refine Z9w ?_)); refine Z9u ?_) | refine awp_seq ?_ | refine Zbm (fun _ _ => rfl) ?_))
    (rw [decide_eq_true (p := (Zlx t : Int) ≠ 0) (by omega)])
    (repeat (first | refine st_q rfl rfl rfl ?_ | (refine Z8y ?_; (repeat (first | refine Z9v rfl ?_ | refine Z9w ?_)); refine Z9u ?_) | refine awp_seq ?_ | refine Zbm (fun _ _ => rfl) ?_ | refine Kc1 rfl ?_))
    refine Z8d ?_
    exact Zau rfl (VRle.tup (VRle.cons (VRle.nilF _ _) (VRle.refl _))) (HSub.refl _) ⟨rfl, rfl⟩
  have hTok : t.Ok := Ztu t _ _ h0
  rw [Z1i6, if_neg (by omega)] at hX
  (repeat (first | refine st_q rfl rfl rfl ?_ | (refine Z8y ?_; (repeat (first | refine Z9v rfl ?_ | refine Z9w ?_)); refine Z9u ?_) | refine awp_seq ?_ | refine Zbm (fun _ _ => rfl) ?_))
  (rw [decide_eq_false (p := (Zlx t : Int) ≠ 0) (by omega)])
  (repeat (first | refine st_q rfl rfl rfl ?_ | (refine Z8y ?_; (repeat (first | refine Z9v rfl ?_ | refine Z9w ?_)); refine Z9u ?_) | refine awp_seq ?_ | refine Zbm (fun _ _ => rfl) ?_ | refine Z8h ?_ | refine Zbn (fun _ _ => rfl) ?_ | refine Kc2 rfl ?_))
  rw [hrl]
  refine Zaa (fun m F σ' => ∃ (j : Nat), F = fset 1 (some (.slc 5 (Zm5 rows) false)) (fset 2 (some (.iptr (Zlo t))) (fset 18 (some (.slc 5 (Zm5 rows) false)) (fset 19 (some (.int .i64 (rows.length : Nat))) (fset 20 (some (.int .i64 (j : Int))) Z27)))) ∧
    σ = σ' ∧ j ≤ rows.length ∧ rowsE t (rows.drop j) = rowsE t rows ∧ m = rows.length - j) (n := rows.length) ⟨0, rfl, rfl, by omega, rfl, rfl⟩ ?_
  rintro m F σ' ⟨j, rfl, rfl, hj, hE, rfl⟩
  (repeat (first | refine st_q rfl rfl rfl ?_ | (refine Z8y ?_; (repeat (first | refine Z9v rfl ?_ | refine Z9w ?_)); refine Z9u ?_) | refine awp_seq ?_ | refine Zbm (fun _ _ => rfl) ?_))
  refine Za3 (p := (j : Int) < (rows.length : Nat)) rfl (fun h5 => ?_) (fun h5 => ?_)
  · have hjl : j < rows.length := by omega
    have hxv : (Zm5 rows)[((j : Nat) : Int).toNat]? = some (encV rows[j]) := Zma (by rw [Int.toNat_natCast, List.getElem?_eq_getElem hjl])
    have hcv := Z138 rows[j] (hr _ (List.getElem_mem hjl)) t hTok
    rw [Z1i7 t hjl, rowE] at hE
    generalize rows[j] = v at hxv hcv hE
    rw [Zm7] at hxv
    simp only [Zm7, Zlp] at hcv
    (repeat (first | refine awp_seq ?_ | refine Zbm (fun _ _ => rfl) ?_ | refine Z8h ?_ | refine Zbn (fun _ _ => rfl) ?_))
    refine Z93 rfl (by omega) hxv ?_
    (repeat (refine st_q rfl rfl rfl ?_))
    refine Z9k (by simp [Z0.cells, Z0.one]) fun b8 hb8 => ?_
    (first | refine Z9a rfl Z8z rfl (by decide) (Kfi rfl) (fun h => by cases h) Z9b ?_ | refine Z8v rfl (Z9a rfl Z8z rfl (by decide) (Kfi rfl) (fun h => by cases h) Z9b ?_))
    (refine Z8y ?_; (repeat (first | refine Z9v rfl ?_ | refine Z9w ?_)); refine Z9u ?_)
    refine Zb3 (d := 8) (cs := Zm6 v) rfl ?_
    (refine Z9y (keep := [1, 2, 8, 18, 19, 20]) ?_; ((repeat (first | refine Z9v rfl ?_ | refine Z9w ?_)); refine Z9u ?_))
    (repeat (first | refine st_q rfl rfl rfl ?_ | refine awp_seq ?_ | refine Zbm (fun _ _ => rfl) ?_))
    refine Z9t rfl (hcv _) ?_
    generalize vchk t v = x at hE
    by_cases hx : x = 0
    · subst hx
      (repeat (first | refine st_q rfl rfl rfl ?_ | (refine Z8y ?_; (repeat (first | refine Z9v rfl ?_ | refine Z9w ?_)); refine Z9u ?_) | refine awp_seq ?_ | refine Zbm (fun _ _ => rfl) ?_ | refine Zbn (fun _ _ => rfl) ?_ | refine Kc2 rfl ?_))
      cases hn : v.null with
      | true =>
        rw [hn] at hE
        simp at hE
        rw [← hE, if_pos (by decide)] at hX
        subst hX
        (repeat (first | refine st_q rfl rfl rfl ?_ | (refine Z8y ?_; (repeat (first | refine Z9v rfl ?_ | refine Z9w ?_)); refine Z9u ?_) | refine awp_seq ?_ | refine Zbm (fun _ _ => rfl) ?_ | refine Kc1 rfl ?_))
        refine Z8d ?_
        exact Zau rfl (VRle.tup (VRle.cons (VRle.nilF _ _) (VRle.refl _))) (HSub.refl _) ⟨rfl, rfl⟩
      | false =>
        rw [hn] at hE
        simp at hE
        (repeat (first | refine Zbn (fun _ _ => rfl) ?_ | refine Kc2 rfl ?_))
        refine Zbp ?_
        (repeat (refine st_q rfl rfl rfl ?_))
        rw [Kwr j (by omega)]
        (refine Z8y ?_; (repeat (first | refine Z9v rfl ?_ | refine Z9w ?_)); refine Z9u ?_)
        exact ⟨_, rows.length - (j + 1), HSub.refl _, ⟨j + 1, rfl, rfl, by omega, hE, rfl⟩, by omega⟩
    · have hx2 : ¬ (x = 0 ∧ v.null = true) := fun h => hx h.1
      rw [if_neg hx2, if_pos hx] at hE
      rw [← hE, if_pos hx] at hX
      subst hX
      (repeat (first | refine st_q rfl rfl rfl ?_ | (refine Z8y ?_; (repeat (first | refine Z9v rfl ?_ | refine Z9w ?_)); refine Z9u ?_) | refine awp_seq ?_ | refine Zbm (fun _ _ => rfl) ?_))
      (rw [decide_eq_true (p := ((x : Nat) : Int) ≠ 0) (by omega)])
      (repeat (first | refine st_q rfl rfl rfl ?_ | (refine Z8y ?_; (repeat (first | refine Z9v rfl ?_ | refine Z9w ?_)); refine Z9u ?_) | refine awp_seq ?_ | refine Zbm (fun _ _ => rfl) ?_ | refine Kc1 rfl ?_))
      refine Z8d ?_
      exact Zau rfl (VRle.tup (VRle.cons (VRle.nilF _ _) (VRle.refl _))) (HSub.refl _) ⟨rfl, rfl⟩
  rw [List.drop_of_length_le (by omega), rowsE] at hE
  rw [if_neg (by omega)] at hX
  have hok := Z1i8 hE.symm
  have hat := Zym t h0
  have hn100 : (Zm4 t).length ≤ 100 := by
    rw [Zm4, if_pos h0, Zm1]
    have := (Znd t _ _ h0).2.2
    omega
  generalize Zm4 t = l at *
  have hll : (l.map encN).length = l.length := List.length_map ..
  (repeat (first | refine st_q rfl rfl rfl ?_ | refine awp_seq ?_ | refine Zbm (fun _ _ => rfl) ?_ | refine Zbo (fun _ _ => rfl) ?_))
  refine Z9t rfl (hfl _) ?_
  (repeat (refine st_q rfl rfl rfl ?_))
  refine Z9j rfl (Kfi rfl) fun bw hbw => ?_
  (repeat (refine st_q rfl rfl rfl ?_))
  (refine Z8y ?_; (repeat (first | refine Z9v rfl ?_ | refine Z9w ?_)); refine Z9u ?_)
  refine Z9z ?_
  (repeat (refine st_q rfl rfl rfl ?_))
  refine Z92 rfl Z8z rfl rfl ?_
  (repeat (refine st_q rfl rfl rfl ?_))
  rw [hll]
  refine Z9l rfl (Kfi rfl) (by omega) (by omega) (by omega) (by omega) fun b hb => ?_
  rw [Int.toNat_natCast]
  have hne : b ≠ bw := fun e => hb (by rw [e]; simp [Zh])
  (repeat (refine st_q rfl rfl rfl ?_))
  refine Z9a rfl (Z90 hne Z8z) rfl (by decide) (Kfi rfl) (fun h => by cases h) (Z9c hne Z9b) ?_
  (refine Z8y ?_; (repeat (first | refine Z9v rfl ?_ | refine Z9w ?_)); refine Z9u ?_)
  refine Z8a (FSub.refl _) (HSub.swap _ _ _) ?_
  refine Zb3 (d := 10) (cs := [.slc 8 (l.map encN) true, .arr 5 b 0 l.length]) rfl ?_
  (refine Z9y (keep := [1, 10]) ?_; ((repeat (first | refine Z9v rfl ?_ | refine Z9w ?_)); refine Z9u ?_))
  (repeat (first | refine st_q rfl rfl rfl ?_ | (refine Z8y ?_; (repeat (first | refine Z9v rfl ?_ | refine Z9w ?_)); refine Z9u ?_) | refine awp_seq ?_ | refine Zbm (fun _ _ => rfl) ?_ | refine Z8h ?_))
  rw [hrl]
  generalize hY : Z1i5 l rows (List.replicate l.length col0) = Y at hX
  have hz : ∀ x ∈ List.replicate l.length col0, x.Sm := fun x hx => by
    rw [List.eq_of_mem_replicate hx]
    exact ⟨by simp [col0], by simp [col0], by simp [col0], by simp [col0], by simp [col0]⟩
  refine Zaa (fun m F σ' => ∃ (j : Nat) (ws : List Z0) (cs : List Col) (β : Zc), F = fset 10 (some (.iptr [.slc 8 (l.map encN) true, .arr 5 b 0 l.length])) (fset 46 (some (.slc 5 (Zm5 rows) false)) (fset 47 (some (.int .i64 (rows.length : Nat))) (fset 48 (some (.int .i64 (j : Int))) Z27))) ∧
    (b, Zb.cells 5 ws) :: (β ++ σ) = σ' ∧ Zy9 ws cs β ∧ cs.length = l.length ∧ (∀ x ∈ cs, x.Sm) ∧ j ≤ rows.length ∧ Z1i5 l (rows.drop j) cs = Y ∧ m = rows.length - j) (n := rows.length)
    ⟨0, _, _, [], rfl, rfl, Zy9.nil l.length, List.length_replicate, hz, by omega, hY, rfl⟩ ?_
  rintro m F σ' ⟨j, ws, cs, β, rfl, rfl, hG, hcl, hS, hj, hYj, rfl⟩
  (repeat (first | refine st_q rfl rfl rfl ?_ | (refine Z8y ?_; (repeat (first | refine Z9v rfl ?_ | refine Z9w ?_)); refine Z9u ?_) | refine awp_seq ?_ | refine Zbm (fun _ _ => rfl) ?_))
  refine Za3 (p := (j : Int) < (rows.length : Int)) rfl (fun h5 => ?_) (fun h5 => ?_)
  · have hjl : j < rows.length := by omega
    have hm := List.getElem_mem hjl
    have hxv : (Zm5 rows)[((j : Nat) : Int).toNat]? = some (encV rows[j]) := Zma (by rw [Int.toNat_natCast, List.getElem?_eq_getElem hjl])
    have hput := Z21i l rows[j] (hr _ hm) t 0 hat hTok (hok _ hm).1 ws cs β b σ hG hcl (by omega) hS
    rw [List.drop_eq_getElem_cons hjl, Z1i5] at hYj
    generalize rows[j] = v at hxv hput hYj
    rw [Zm7] at hxv
    rw [Zm7, hcl] at hput
    (repeat (first | refine awp_seq ?_ | refine Zbm (fun _ _ => rfl) ?_ | refine Z8h ?_ | refine Zbn (fun _ _ => rfl) ?_))
    refine Z93 rfl (by omega) hxv ?_
    (repeat (refine st_q rfl rfl rfl ?_))
    refine Z9k (by simp [Z0.cells, Z0.one]) fun b12 hb12 => ?_
    (first | refine Z9a rfl Z8z rfl (by decide) (Kfi rfl) (fun h => by cases h) Z9b ?_ | refine Z8v rfl (Z9a rfl Z8z rfl (by decide) (Kfi rfl) (fun h => by cases h) Z9b ?_))
    (refine Z8y ?_; (repeat (first | refine Z9v rfl ?_ | refine Z9w ?_)); refine Z9u ?_)
    refine Zb3 (d := 12) (cs := Zm6 v) rfl ?_
    (refine Z9y (keep := [10, 12, 46, 47, 48]) ?_; ((repeat (first | refine Z9v rfl ?_ | refine Z9w ?_)); refine Z9u ?_))
    refine Z9z ?_
    (repeat (refine st_q rfl rfl rfl ?_))
    obtain ⟨wsx, βx, hx⟩ := Zy9.ex (putF l 0 v cs).1
    refine Z9s rfl hput ⟨_, _, wsx, βx, hx, rfl, rfl⟩ ?_
    rintro r σ2 ⟨ws2, β5, hG2, rfl, rfl⟩
    (repeat (refine st_q rfl rfl rfl ?_))
    (refine Z8y ?_; (repeat (first | refine Z9v rfl ?_ | refine Z9w ?_)); refine Z9u ?_)
    have hlen2 := Z1i3 l v 0 cs
    have hSm2 := Z1i4 l v 0 cs hS
    generalize putF l 0 v cs = pr at hYj hG2 hlen2 hSm2
    obtain ⟨cs2, ok⟩ := pr
    cases ok with
    | true =>
      rw [if_pos rfl] at hYj
      (repeat (first | refine Zbn (fun _ _ => rfl) ?_ | refine Kc2 rfl ?_))
      refine Zbp ?_
      (repeat (refine st_q rfl rfl rfl ?_))
      rw [Kwr j (by omega)]
      (refine Z8y ?_; (repeat (first | refine Z9v rfl ?_ | refine Z9w ?_)); refine Z9u ?_)
      exact ⟨_, rows.length - (j + 1), HSub.refl _, ⟨j + 1, ws2, cs2, β5, rfl, rfl, hG2, by rw [← hcl, ← hlen2], hSm2, by omega, hYj, rfl⟩, by omega⟩
    | false =>
      rw [if_neg (by simp)] at hYj
      subst hYj
      rw [if_neg (by simp)] at hX
      subst hX
      (repeat (first | refine st_q rfl rfl rfl ?_ | (refine Z8y ?_; (repeat (first | refine Z9v rfl ?_ | refine Z9w ?_)); refine Z9u ?_) | refine awp_seq ?_ | refine Zbm (fun _ _ => rfl) ?_ | refine Kc1 rfl ?_))
      refine Z8d ?_
      exact Zau rfl (VRle.tup (VRle.cons (VRle.nilF _ _) (VRle.refl _))) (HSub.of_sublist (List.Sublist.cons _ (List.sublist_append_right _ _))) ⟨rfl, rfl⟩
  · rw [List.drop_of_length_le (by omega), Z1i5] at hYj
    subst hYj
    rw [if_pos rfl] at hX
    subst hX
    (repeat (first | refine st_q rfl rfl rfl ?_ | (refine Z8y ?_; (repeat (first | refine Z9v rfl ?_ | refine Z9w ?_)); refine Z9u ?_) | refine awp_seq ?_ | refine Zbm (fun _ _ => rfl) ?_ | refine Zbo (fun _ _ => rfl) ?_))
    refine Zby (by simpa using hG.freeze [] (by simp) b σ) ?_
    have e : l.length = (cs.map encC).length := by simp [hcl]
    rw [e]
    refine Zb1 (d := 4) rfl ?_
    refine Z8d ?_
    exact Kar rfl ⟨rfl, rfl⟩
end Go.Abs
namespace Go.Abs
open Go Go.Proofs
set_option linter.unusedVariables false
set_option linter.unusedSimpArgs false
set_option maxHeartbeats 4000000
attribute [local irreducible] AWp aops KP
def tI5 : Ty := .mk 3 [] [] 0 0 0
def tL5 : Ty := .mk 10 [] [tI5] 0 0 0
def tK5 : Ty := .mk 12 [[97]] [tL5] 0 0 0
def rowA5 : Vl := .mk false 0 0 [] [.mk false 0 0 [] [.mk false 1 0 [] [], .mk true 0 0 [] []]]
def rowB5 : Vl := .mk false 0 0 [] [.mk true 0 0 [] []]
def Z21k : List Col := [⟨[true, true], [], [], [], []⟩, ⟨[true, false], [], [], [], [2]⟩, ⟨[true, false], [1], [], [], []⟩]
def Z21l : List Nd := [⟨tK5, [1], -1, 1⟩, ⟨tL5, [2], 0, 2⟩, ⟨tI5, [], 1, 3⟩]
theorem Z21m : Zlx tK5 = 0 := by decide
theorem Z21n : Zm4 tK5 = Z21l := by rfl
theorem Z21o : Z1i6 tK5 [rowA5, rowB5] = (Z21k, 0) := by rfl
theorem Z21p : takeR Z21k [true, true, true] tK5 2 ⟨[0, 0, 0], [0, 0, 0]⟩ = some ([rowA5, rowB5], ⟨[2, 2, 2], [2, 1, 1]⟩) := by rfl
theorem Z21q : Z1va Z21l Z21k 2 = [2, 2, 2] := by rfl
theorem Z21r : tI5.Fit := .mk (by simp [tI5, Ty.kids]) (by simp [tI5, Ty.names]) (by simp [tI5, Ty.names]) (by simp [tI5, Ty.kids])
theorem Z21s : tL5.Fit := .mk (by simp [tL5, Ty.kids]) (by simp [tL5, Ty.names]) (by simp [tL5, Ty.names]) fun u hu => by
  simp only [tL5, Ty.kids, List.mem_singleton] at hu
  subst hu
  exact Z21r
theorem Z21t : tK5.Fit := .mk (by simp [tK5, Ty.kids]) (by simp [tK5, Ty.names]) (by simp [tK5, Ty.names, maxLen]) fun u hu => by
  simp only [tK5, Ty.kids, List.mem_singleton] at hu
  subst hu
  exact Z21s
theorem Z21u : ∀ v ∈ [rowA5, rowB5], v.Fit := by
  intro v hv
  simp only [List.mem_cons, List.not_mem_nil, or_false] at hv
  rcases hv with rfl | rfl
  · refine Z1rw _ (.mk (by simp [Vl.i]) (by simp [Vl.b]) (by simp [Vl.kids]) fun k hk => ?_)
    simp only [Vl.kids, List.mem_cons, List.not_mem_nil, or_false] at hk
    rcases hk with rfl | rfl
    · exact Z1rv _ _ (by omega)
    · exact Z1rv _ _ (by omega)
  · exact Z1rw _ (Z1rv _ _ (by omega))
theorem Z21v : ColsT Z21l Z21k [true, true, true] := by
  have h : ∀ i c, Z21k[i]? = some c → c ∈ Z21k := fun i c h => List.mem_of_getElem? h
  refine ⟨rfl, fun i c hc _ => ?_, fun i c hc _ => ?_, fun i c hc _ => ?_⟩
  all_goals
    have := h i c hc
    simp only [Z21k, List.mem_cons, List.not_mem_nil, or_false] at this
    rcases this with rfl | rfl | rfl
    all_goals first | (constructor <;> simp) | simp
theorem Z21w : Whole Z21l [true, true, true] := by
  intro i n hn x hx
  match i, hn with
  | 0, hn => cases hn; simp at hx; subst hx; exact ⟨fun _ => rfl, fun _ => .inl rfl⟩
  | 1, hn => cases hn; simp at hx; subst hx; exact ⟨fun _ => rfl, fun _ => .inl rfl⟩
  | 2, hn => cases hn; simp at hx
  | k + 3, hn => simp [Z21l] at hn
theorem Z21x : tK5.Ok := Ztu _ _ _ Z21m
theorem Z21y : tL5.Ok := by
  have := Z21x
  cases this with
  | mk _ h => exact h tL5 (by simp [tK5, Ty.kids])
theorem Z21z : tI5.Ok := by
  have := Z21y
  cases this with
  | mk _ h => exact h tI5 (by simp [tL5, Ty.kids])
theorem Z220 : Asks Z21l Z21k [true, true, true] 2 (fun _ => 2) (fun i => i == 0) := by
  refine ⟨rfl, rfl, fun i nd hn _ j x hx => ?_, fun i nd hn _ => ?_⟩
  · match i, hn with
    | 0, hn =>
      cases hn
      match j, hx with
      | 0, hx => cases hx; exact ⟨rfl, rfl⟩
      | k + 1, hx => simp at hx
    | 1, hn =>
      cases hn
      match j, hx with
      | 0, hx => cases hx; exact ⟨rfl, rfl⟩
      | k + 1, hx => simp at hx
    | 2, hn => cases hn; simp at hx
    | k + 3, hn => simp [Z21l] at hn
  · match i, hn with
    | 0, hn =>
      cases hn
      refine ⟨by constructor <;> simp [Z21k], by constructor <;> simp [Z21k], by constructor <;> rfl, rfl, by simp, Z21x, rfl, by simp [Z21k], by simp [Z21k], by simp [Z21k], fun _ => rfl, fun h => by cases h⟩
    | 1, hn =>
      cases hn
      refine ⟨by constructor <;> simp [Z21k], by constructor <;> simp [Z21k], by constructor <;> rfl, rfl, by simp, Z21y, rfl, by simp [Z21k], by simp [Z21k], by simp [Z21k], (fun h => by cases h), fun h => by decide⟩
    | 2, hn =>
      cases hn
      refine ⟨by constructor <;> simp [Z21k], by constructor <;> simp [Z21k], by constructor <;> rfl, rfl, by simp, Z21z, rfl, fun i v hv => ?_, by simp [Z21k], by simp [Z21k], (fun h => by cases h), fun h => by cases h⟩
      match i, hv with
      | 0, hv => cases hv; rfl
      | k + 1, hv => simp [Z21k] at hv
    | k + 3, hn => simp [Z21l] at hn
theorem Z221 (σ : Zc) : Z1q Try.prog Zdi [] σ fun r σ' => r = .bool true ∧ σ' = σ := by
  have hS := Z21j tK5 Z21t [rowA5, rowB5] Z21u (by simp)
  rw [Z21o, Zlp] at hS
  have hFl := Znk tK5 Z21t
  rw [Z21n, Zlp] at hFl
  have hB := fun f σ => Z1yo tK5 Z21t Z21m Z21k 2 (by omega) [] [true, true, true] (.inl ⟨rfl, rfl⟩) rfl rfl (by rw [Z21n]; exact Z21v) (by rw [Z21n]; exact Z21w) _ _ (by rw [Z21n]; exact Z220) _ _ (by rw [Z21n]; exact Z21p) false f σ
  rw [Zlp] at hB
  have hC := Z1vd Z21l (by rw [← Z21n]; exact Z1yn _) (by decide) Z21k rfl (fun c hc => by obtain ⟨i, hi⟩ := List.getElem?_of_mem hc; exact Z21v.sm i c hi (by match i, hi with | 0, _ => rfl | 1, _ => rfl | 2, _ => rfl | k + 3, hi => simp [Z21k] at hi)) 2 true false
  rw [Z21q] at hC
  refine Z8t rfl Z21b (Nat.le_of_ble_eq_true rfl) ?_
  refine Z9z ?_
  (repeat (refine st_q rfl rfl rfl ?_))
  (refine Z8y ?_; (repeat (first | refine Z9v rfl ?_ | refine Z9w ?_)); refine Z9u ?_)
  refine Z9z ?_
  (repeat (refine st_q rfl rfl rfl ?_))
  refine Z9k (by simp [Z0.cells, Z0.one]) fun b1 hb1 => ?_
  (first | refine Z9a rfl Z8z rfl (by decide) (Kfi rfl) (fun h => by cases h) Z9b ?_ | refine Z8v rfl (Z9a rfl Z8z rfl (by decide) (Kfi rfl) (fun h => by cases h) Z9b ?_))
  (refine Z8y ?_; (repeat (first | refine Z9v rfl ?_ | refine Z9w ?_)); refine Z9u ?_)
  refine Zby (Zbx.view (ys := [.agg (Zlo tK5)]) rfl rfl (by
    simp only [Zlo, tK5, tL5, tI5, Ty.kind, Ty.names, Ty.kids, Ty.len, Ty.prec, Ty.scale, Zln, encT, List.map_cons, List.map_nil]
    (repeat (first | exact VRle.refl _ | exact Zc5 | refine Zc6 rfl rfl ?_ | refine Zc7 rfl ?_ | refine Zc4 ?_ ?_)))) ?_
  refine Zb3 (d := 1) (cs := Zlo tK5) rfl ?_
  have hfb := Z21u rowA5 (by simp)
  have hfc := Z21u rowB5 (by simp)
  have hsA := Z1b3 rowA5 hfb rowA5
  have hsB := Z1b3 rowB5 hfc rowB5
  rw [Z1b1, Zm7] at hsA hsB
  refine Z9z ?_
  (repeat (refine st_q rfl rfl rfl ?_))
  (refine Z8y ?_; (repeat (first | refine Z9v rfl ?_ | refine Z9w ?_)); refine Z9u ?_)
  refine Zbt (d := 2) (v' := .slc 5 (Zm5 [rowA5, rowB5]) false) rfl (Zb6.le (by
    simp only [Zm5, encV, rowA5, rowB5, bytes, List.map_nil]
    (repeat (first | exact VRle.refl _ | exact Zc5 | refine Zc6 rfl rfl ?_ | refine Zc7 rfl ?_ | refine Zc4 ?_ ?_))) (HSub.refl _)) ?_
  (repeat (first | refine st_q rfl rfl rfl ?_ | refine awp_seq ?_ | refine Zbm (fun _ _ => rfl) ?_))
  refine Z9t rfl (hS _) ?_
  (repeat (first | refine st_q rfl rfl rfl ?_ | refine Z8v rfl (st_q rfl rfl rfl ?_) | (refine Z8y ?_; (repeat (first | refine Z9v rfl ?_ | refine Z9w ?_)); refine Z9u ?_) | refine awp_seq ?_ | refine Zbm (fun _ _ => rfl) ?_ | refine Zbn (fun _ _ => rfl) ?_ | refine Kc2 rfl ?_))
  refine Z9t rfl (Z1q.args (VRle.cons (VRle.refl _) (VRle.cons (VRle.refl _) (VRle.cons (VRle.refl _) (VRle.nil_slc 0 1 true)))) (hB true _)) ?_
  (repeat (first | refine st_q rfl rfl rfl ?_ | (refine Z8y ?_; (repeat (first | refine Z9v rfl ?_ | refine Z9w ?_)); refine Z9u ?_) | refine awp_seq ?_ | refine Zbm (fun _ _ => rfl) ?_))
  refine Z9t rfl (hFl _) ?_
  (repeat refine st_q rfl rfl rfl ?_)
  refine Z9t rfl (hC _) ?_
  (repeat (first | refine st_q rfl rfl rfl ?_ | refine Z8v rfl (st_q rfl rfl rfl ?_) | (refine Z8y ?_; (repeat (first | refine Z9v rfl ?_ | refine Z9w ?_)); refine Z9u ?_) | refine awp_seq ?_ | refine Zbm (fun _ _ => rfl) ?_))
  refine Z8v rfl (Z9t rfl (hsA _) ?_)
  (repeat (first | refine st_q rfl rfl rfl ?_ | refine Z8v rfl (st_q rfl rfl rfl ?_)))
  refine Z8v rfl (Z9t rfl (hsB _) ?_)
  (repeat (first | refine st_q rfl rfl rfl ?_ | refine Z8v rfl (st_q rfl rfl rfl ?_)))
  refine Z8v rfl (Z9t rfl (Zxz ⟨[true, false], [], [], [], [2]⟩ (by simp) _) ?_)
  (repeat (first | refine st_q rfl rfl rfl ?_ | refine Z8v rfl (st_q rfl rfl rfl ?_)))
  refine Z8v rfl (Z9t rfl (Zxz ⟨[true, true], [], [], [], []⟩ (by simp) _) ?_)
  (repeat (first | refine st_q rfl rfl rfl ?_ | refine Z8v rfl (st_q rfl rfl rfl ?_) | (refine Z8y ?_; (repeat (first | refine Z9v rfl ?_ | refine Z9w ?_)); refine Z9u ?_)))
  refine Z8d ?_
  exact Kar rfl ⟨rfl, rfl⟩
end Go.Abs
namespace Go.Abs
open Go Go.Proofs
set_option linter.unusedVariables false
set_option linter.unusedSimpArgs false
set_option maxHeartbeats 4000000
attribute [local irreducible] AWp aops KP
theorem ab2sF {σ : Zc} {xs : List UInt8} {f : Bool} : ab2s σ [.slc 1 (bytes xs) f] = some (.str xs) := by
  simp [ab2s, Z1m, Zar]
theorem Z24d (xs : List Int) (hl : xs.length ≤ 1000000) (f g : Bool) (σ : Zc) : Z1q Try.prog Zev [.slc 1 (xs.map (.int .i64)) f, .slc 1 (xs.map (.int .i64)) g] σ fun r σ' => r = .bool true ∧ σ' = σ := by
  have hml : (xs.map (Z0.int .i64)).length = xs.length := List.length_map ..
  refine Z8t rfl Z24b (Nat.le_of_ble_eq_true rfl) ?_
  (repeat (first | refine st_q rfl rfl rfl ?_ | (refine Z8y ?_; (repeat (first | refine Z9v rfl ?_ | refine Z9w ?_)); refine Z9u ?_) | refine awp_seq ?_ | refine Zbm (fun _ _ => rfl) ?_))
  rw [hml]
  (rw [decide_eq_false (p := (xs.length : Int) ≠ (xs.length : Int)) (by omega)])
  (repeat (first | refine st_q rfl rfl rfl ?_ | (refine Z8y ?_; (repeat (first | refine Z9v rfl ?_ | refine Z9w ?_)); refine Z9u ?_) | refine awp_seq ?_ | refine Zbm (fun _ _ => rfl) ?_ | refine Z8h ?_ | refine Zbn (fun _ _ => rfl) ?_ | refine Kc2 rfl ?_))
  refine Zaa (fun m F σ' => ∃ i : Nat, F = fset 0 (some (.slc 1 (xs.map (.int .i64)) f)) (fset 1 (some (.slc 1 (xs.map (.int .i64)) g)) (fset 5 (some (.int .i64 i)) Z27)) ∧ σ = σ' ∧ i ≤ xs.length ∧ m = xs.length - i) (n := xs.length)
    ⟨0, rfl, rfl, by omega, by omega⟩ ?_
  rintro m F σ' ⟨i, rfl, rfl, hi, rfl⟩
  (repeat (first | refine st_q rfl rfl rfl ?_ | (refine Z8y ?_; (repeat (first | refine Z9v rfl ?_ | refine Z9w ?_)); refine Z9u ?_) | refine awp_seq ?_ | refine Zbm (fun _ _ => rfl) ?_))
  rw [hml]
  refine Za3 (p := (i : Int) < (xs.length : Nat)) rfl (fun h3 => ?_) (fun h3 => ?_)
  · have hil : i < xs.length := by omega
    have hx := Zxw (f := Z0.int .i64) hil
    generalize xs[i] = y at hx
    (repeat (first | refine st_q rfl rfl rfl ?_ | refine awp_seq ?_ | refine Zbm (fun _ _ => rfl) ?_ | refine Z8h ?_ | refine Zbn (fun _ _ => rfl) ?_))
    refine Z93 rfl (by omega) hx ?_
    (repeat refine st_q rfl rfl rfl ?_)
    refine Z93 rfl (by omega) hx ?_
    (repeat (first | refine st_q rfl rfl rfl ?_ | (refine Z8y ?_; (repeat (first | refine Z9v rfl ?_ | refine Z9w ?_)); refine Z9u ?_)))
    (rw [decide_eq_false (p := y ≠ y) (by omega)])
    (repeat (first | refine Zbn (fun _ _ => rfl) ?_ | refine Kc2 rfl ?_))
    refine Zbp ?_
    (repeat (refine st_q rfl rfl rfl ?_))
    rw [Kwr i (by omega)]
    (refine Z8y ?_; (repeat (first | refine Z9v rfl ?_ | refine Z9w ?_)); refine Z9u ?_)
    exact ⟨_, xs.length - (i + 1), HSub.refl _, ⟨i + 1, rfl, rfl, by omega, rfl⟩, by omega⟩
  · (repeat (first | refine st_q rfl rfl rfl ?_ | (refine Z8y ?_; (repeat (first | refine Z9v rfl ?_ | refine Z9w ?_)); refine Z9u ?_) | refine awp_seq ?_ | refine Zbm (fun _ _ => rfl) ?_ | refine Zbo (fun _ _ => rfl) ?_))
    refine Z8d ?_
    exact Kar rfl ⟨rfl, rfl⟩
theorem Z24e (c : Col) (hl : c.Sm) (σ : Zc) : Z1q Try.prog Zdk [encC c, encC c] σ fun r σ' => r = .bool true ∧ σ' = σ := by
  obtain ⟨l1, l2, l3, l4, l5⟩ := hl
  have el : ∀ {α : Type} (f : α → Z0) (l : List α), (l.map f).length = l.length := fun f l => List.length_map ..
  refine Z8t rfl Z249 (Nat.le_of_ble_eq_true rfl) ?_
  refine Z9z ?_
  refine Z9j rfl (Kfi rfl) fun b2 hb2 => ?_
  refine Z9j rfl (Kfi rfl) fun b3 hb3 => ?_
  (repeat (refine st_q rfl rfl rfl ?_))
  (refine Z8y ?_; (repeat (first | refine Z9v rfl ?_ | refine Z9w ?_)); refine Z9u ?_)
  refine Zb3 (d := 3) (cs := Zxu c) rfl ?_
  refine Zb3 (d := 2) (cs := Zxu c) rfl ?_
  (repeat (first | refine st_q rfl rfl rfl ?_ | refine awp_seq ?_ | refine Zbm (fun _ _ => rfl) ?_))
  rw [el]
  (rw [decide_eq_false (p := (c.here.length : Int) ≠ (c.here.length : Int)) (by omega)])
  (repeat (first | refine st_q rfl rfl rfl ?_ | refine Z8v rfl (st_q rfl rfl rfl ?_)))
  rw [el]
  (rw [decide_eq_false (p := (c.ns.length : Int) ≠ (c.ns.length : Int)) (by omega)])
  (repeat (first | refine st_q rfl rfl rfl ?_ | refine Z8v rfl (st_q rfl rfl rfl ?_)))
  rw [el]
  (rw [decide_eq_false (p := (c.texts.length : Int) ≠ (c.texts.length : Int)) (by omega)])
  (repeat refine Z8v rfl (st_q rfl rfl rfl ?_))
  refine Z8v rfl (Z9t rfl (Z24d c.ints (by omega) false false _) ?_)
  (repeat (first | refine st_q rfl rfl rfl ?_ | refine Z8v rfl (st_q rfl rfl rfl ?_)))
  refine Z8v rfl (Z9t rfl (Z24d c.lens (by omega) false false _) ?_)
  (repeat (first | refine st_q rfl rfl rfl ?_ | refine Z8v rfl (st_q rfl rfl rfl ?_) | (refine Z8y ?_; (repeat (first | refine Z9v rfl ?_ | refine Z9w ?_)); refine Z9u ?_) | refine awp_seq ?_ | refine Zbm (fun _ _ => rfl) ?_ | refine Z8h ?_ | refine Zbn (fun _ _ => rfl) ?_ | refine Kc2 rfl ?_))
  refine Zaa (fun m F σ' => ∃ i : Nat, F = fset 2 (some (.iptr (Zxu c))) (fset 3 (some (.iptr (Zxu c))) (fset 5 (some (.int .i64 i)) Z27)) ∧ σ = σ' ∧ i ≤ c.here.length ∧ m = c.here.length - i) (n := c.here.length)
    ⟨0, rfl, rfl, by omega, by omega⟩ ?_
  rintro m F σ' ⟨i, rfl, rfl, hi, rfl⟩
  (repeat (first | refine st_q rfl rfl rfl ?_ | (refine Z8y ?_; (repeat (first | refine Z9v rfl ?_ | refine Z9w ?_)); refine Z9u ?_) | refine awp_seq ?_ | refine Zbm (fun _ _ => rfl) ?_))
  rw [el]
  refine Za3 (p := (i : Int) < (c.here.length : Nat)) rfl (fun h3 => ?_) (fun h3 => ?_)
  · have hil : i < c.here.length := by omega
    have hx := Zxw (f := Z0.bool) hil
    generalize c.here[i] = y at hx
    (repeat (first | refine st_q rfl rfl rfl ?_ | refine awp_seq ?_ | refine Zbm (fun _ _ => rfl) ?_ | refine Z8h ?_ | refine Zbn (fun _ _ => rfl) ?_))
    refine Z93 rfl (by omega) hx ?_
    (repeat refine st_q rfl rfl rfl ?_)
    refine Z93 rfl (by omega) hx ?_
    cases y
    all_goals
      (repeat (first | refine st_q rfl rfl rfl ?_ | (refine Z8y ?_; (repeat (first | refine Z9v rfl ?_ | refine Z9w ?_)); refine Z9u ?_) | refine Zbn (fun _ _ => rfl) ?_ | refine Kc2 rfl ?_))
      refine Zbp ?_
      (repeat (refine st_q rfl rfl rfl ?_))
      rw [Kwr i (by omega)]
      (refine Z8y ?_; (repeat (first | refine Z9v rfl ?_ | refine Z9w ?_)); refine Z9u ?_)
      exact ⟨_, c.here.length - (i + 1), HSub.refl _, ⟨i + 1, rfl, rfl, by omega, rfl⟩, by omega⟩
  (repeat (first | refine st_q rfl rfl rfl ?_ | (refine Z8y ?_; (repeat (first | refine Z9v rfl ?_ | refine Z9w ?_)); refine Z9u ?_) | refine awp_seq ?_ | refine Zbm (fun _ _ => rfl) ?_ | refine Z8h ?_ | refine Zbo (fun _ _ => rfl) ?_))
  refine Zaa (fun m F σ' => ∃ i : Nat, F = fset 2 (some (.iptr (Zxu c))) (fset 3 (some (.iptr (Zxu c))) (fset 6 (some (.int .i64 i)) Z27)) ∧ σ = σ' ∧ i ≤ c.ns.length ∧ m = c.ns.length - i) (n := c.ns.length)
    ⟨0, rfl, rfl, by omega, by omega⟩ ?_
  rintro m F σ' ⟨i, rfl, rfl, hi, rfl⟩
  (repeat (first | refine st_q rfl rfl rfl ?_ | (refine Z8y ?_; (repeat (first | refine Z9v rfl ?_ | refine Z9w ?_)); refine Z9u ?_) | refine awp_seq ?_ | refine Zbm (fun _ _ => rfl) ?_))
  rw [el]
  refine Za3 (p := (i : Int) < (c.ns.length : Nat)) rfl (fun h3 => ?_) (fun h3 => ?_)
  · have hil : i < c.ns.length := by omega
    have hx := Zxw (f := Z0.int .i64) hil
    generalize c.ns[i] = y at hx
    (repeat (first | refine st_q rfl rfl rfl ?_ | refine awp_seq ?_ | refine Zbm (fun _ _ => rfl) ?_ | refine Z8h ?_ | refine Zbn (fun _ _ => rfl) ?_))
    refine Z93 rfl (by omega) hx ?_
    (repeat refine st_q rfl rfl rfl ?_)
    refine Z93 rfl (by omega) hx ?_
    (repeat (first | refine st_q rfl rfl rfl ?_ | (refine Z8y ?_; (repeat (first | refine Z9v rfl ?_ | refine Z9w ?_)); refine Z9u ?_)))
    (rw [decide_eq_false (p := y ≠ y) (by omega)])
    (repeat (first | refine Zbn (fun _ _ => rfl) ?_ | refine Kc2 rfl ?_))
    refine Zbp ?_
    (repeat (refine st_q rfl rfl rfl ?_))
    rw [Kwr i (by omega)]
    (refine Z8y ?_; (repeat (first | refine Z9v rfl ?_ | refine Z9w ?_)); refine Z9u ?_)
    exact ⟨_, c.ns.length - (i + 1), HSub.refl _, ⟨i + 1, rfl, rfl, by omega, rfl⟩, by omega⟩
  (repeat (first | refine st_q rfl rfl rfl ?_ | (refine Z8y ?_; (repeat (first | refine Z9v rfl ?_ | refine Z9w ?_)); refine Z9u ?_) | refine awp_seq ?_ | refine Zbm (fun _ _ => rfl) ?_ | refine Z8h ?_ | refine Zbo (fun _ _ => rfl) ?_))
  refine Zaa (fun m F σ' => ∃ i : Nat, F = fset 2 (some (.iptr (Zxu c))) (fset 3 (some (.iptr (Zxu c))) (fset 7 (some (.int .i64 i)) Z27)) ∧ σ = σ' ∧ i ≤ c.texts.length ∧ m = c.texts.length - i) (n := c.texts.length)
    ⟨0, rfl, rfl, by omega, by omega⟩ ?_
  rintro m F σ' ⟨i, rfl, rfl, hi, rfl⟩
  (repeat (first | refine st_q rfl rfl rfl ?_ | (refine Z8y ?_; (repeat (first | refine Z9v rfl ?_ | refine Z9w ?_)); refine Z9u ?_) | refine awp_seq ?_ | refine Zbm (fun _ _ => rfl) ?_))
  rw [el]
  refine Za3 (p := (i : Int) < (c.texts.length : Nat)) rfl (fun h3 => ?_) (fun h3 => ?_)
  · have hil : i < c.texts.length := by omega
    have hx := Zxw (f := fun b => Z0.slc 1 (bytes b) false) hil
    generalize c.texts[i] = y at hx
    (repeat (first | refine st_q rfl rfl rfl ?_ | refine awp_seq ?_ | refine Zbm (fun _ _ => rfl) ?_ | refine Z8h ?_ | refine Zbn (fun _ _ => rfl) ?_))
    refine Z93 rfl (by omega) hx ?_
    (repeat (refine st_q rfl rfl rfl ?_))
    refine st_q rfl ab2sF rfl ?_
    (repeat (refine st_q rfl rfl rfl ?_))
    refine Z93 rfl (by omega) hx ?_
    (repeat (refine st_q rfl rfl rfl ?_))
    refine st_q rfl ab2sF rfl ?_
    (repeat (refine st_q rfl rfl rfl ?_))
    rw [show decide (y ≠ y) = false from decide_eq_false (fun h => h rfl)]
    (repeat (first | (refine Z8y ?_; (repeat (first | refine Z9v rfl ?_ | refine Z9w ?_)); refine Z9u ?_) | refine Zbn (fun _ _ => rfl) ?_ | refine Kc2 rfl ?_))
    refine Zbp ?_
    (repeat (refine st_q rfl rfl rfl ?_))
    rw [Kwr i (by omega)]
    (refine Z8y ?_; (repeat (first | refine Z9v rfl ?_ | refine Z9w ?_)); refine Z9u ?_)
    exact ⟨_, c.texts.length - (i + 1), HSub.refl _, ⟨i + 1, rfl, rfl, by omega, rfl⟩, by omega⟩
  · (repeat (first | refine st_q rfl rfl rfl ?_ | (refine Z8y ?_; (repeat (first | refine Z9v rfl ?_ | refine Z9w ?_)); refine Z9u ?_) | refine awp_seq ?_ | refine Zbm (fun _ _ => rfl) ?_ | refine Zbo (fun _ _ => rfl) ?_))
    refine Z8d ?_
    exact Kar rfl ⟨rfl, rfl⟩
end Go.Abs
namespace Go.Abs
open Go Go.Proofs
set_option linter.unusedVariables false
set_option linter.unusedSimpArgs false
set_option maxHeartbeats 4000000
attribute [local irreducible] AWp aops KP
theorem Z24f (vs : List Vl) (n : Nat) : Zm5 (vs.take n) = (Zm5 vs).take n := by rw [Zm8, Zm8, List.map_take]
theorem Z24g (vs : List Vl) (n : Nat) : Zm5 (vs.drop n) = (Zm5 vs).drop n := by rw [Zm8, Zm8, List.map_drop]
theorem Z24h (a b : List Bool) (hl : a.length + b.length ≤ 1000000) (f g : Bool) (σ : Zc) : Z1q Try.prog Zdx [.slc 1 (a.map .bool) f, .slc 1 (b.map .bool) g] σ fun r σ' => r = .slc 1 ((a ++ b).map .bool) false ∧ σ' = σ := by
  have ha : (a.map Z0.bool).length = a.length := List.length_map ..
  have hb : (b.map Z0.bool).length = b.length := List.length_map ..
  refine Z8t rfl Z24a (Nat.le_of_ble_eq_true rfl) ?_
  refine Z9z ?_
  (repeat (refine st_q rfl rfl rfl ?_))
  (refine Z8y ?_; (repeat (first | refine Z9v rfl ?_ | refine Z9w ?_)); refine Z9u ?_)
  refine Z9z ?_
  (repeat (refine st_q rfl rfl rfl ?_))
  refine Zbs (β := []) (ys := a.map .bool) (Zbr.nil 1 1) rfl rfl (by rw [ha]; simp; omega) fun b1 hb1 => ?_
  (repeat (refine st_q rfl rfl rfl ?_))
  rw [List.nil_append]
  refine Zbs (β := [(b1, _)]) (xs := a.map .bool) (ys := b.map .bool) Zbr.mk rfl rfl (by rw [ha, hb]; omega) fun b2 hb2 => ?_
  (repeat (refine st_q rfl rfl rfl ?_))
  (refine Z8y ?_; (repeat (first | refine Z9v rfl ?_ | refine Z9w ?_)); refine Z9u ?_)
  refine Z8d ?_
  rw [List.map_append]
  exact Zbu rfl (Zb6.one (Zb6.freeze rfl)) ⟨rfl, rfl⟩
theorem Z24i {t : Ty} {rows : List Vl} (hf : ∀ v ∈ rows, v.Fit) (h : (Z1i6 t rows).2 = 0) (n : Nat) : (Z1i6 t (rows.take n)).2 = 0 ∧ (Z1i6 t (rows.drop n)).2 = 0 := by
  obtain ⟨h0, hE, _, _⟩ := Z1l1 h
  have hrow := Z1i8 hE
  have hb : ∀ c, c < (Zm4 t).length → (Z1lm (Zm4 t) c (rows.take n)).here.length + (Z1lm (Zm4 t) c (rows.drop n)).here.length ≤ 16384 := fun c hc => by
    have := (Z1l3 hf h (Z1lv h hc)).sm.here
    have e := Z1px (Zm4 t) c (rows.take n) (rows.drop n)
    rw [List.take_append_drop] at e
    rw [e, Z1pr] at this
    exact this
  exact ⟨Z1pw h0 (fun v hv => hrow v (List.mem_of_mem_take hv)) fun c hc => by have := hb c hc; omega, Z1pw h0 (fun v hv => hrow v (List.mem_of_mem_drop hv)) fun c hc => by have := hb c hc; omega⟩
theorem Z24j (t : Ty) (rows : List Vl) (cut : Int) (hr : ∀ v ∈ rows, v.Fit) (σ : Zc) : Z1q Try.prog Zck [encT t, .slc 5 (Zm5 rows) false, .int .i64 cut] σ fun r σ' => r = .bool true := by
  have hFew := Z1fl t rows false
  have hrl := Zm9 rows
  rw [Zlp] at hFew ⊢
  refine Z8t rfl Z24c (Nat.le_of_ble_eq_true rfl) ?_
  refine Z9z ?_
  refine Z9j rfl (Kfi rfl) fun b2 hb2 => ?_
  (repeat (refine st_q rfl rfl rfl ?_))
  (refine Z8y ?_; (repeat (first | refine Z9v rfl ?_ | refine Z9w ?_)); refine Z9u ?_)
  refine Zb3 (d := 3) (cs := Zlo t) rfl ?_
  (repeat (first | refine awp_seq ?_ | refine Zbm (fun _ _ => rfl) ?_))
  refine Z9t rfl (Z221 _) ?_
  (repeat (first | refine st_q rfl rfl rfl ?_ | (refine Z8y ?_; (repeat (first | refine Z9v rfl ?_ | refine Z9w ?_)); refine Z9u ?_) | refine awp_seq ?_ | refine Zbm (fun _ _ => rfl) ?_ | refine Zbn (fun _ _ => rfl) ?_ | refine Kc2 rfl ?_))
  refine Z9t rfl (hFew _) ?_
  cases hfw : few15 t rows with
  | false =>
    (repeat (first | refine st_q rfl rfl rfl ?_ | refine Z8w rfl ?_ | (refine Z8y ?_; (repeat (first | refine Z9v rfl ?_ | refine Z9w ?_)); refine Z9u ?_) | refine awp_seq ?_ | refine Zbm (fun _ _ => rfl) ?_ | refine Kc1 rfl ?_))
    refine Z8d ?_
    exact Kar rfl rfl
  | true =>
  obtain ⟨hfit, hlen⟩ := Z22m hfw
  (repeat (first | refine st_q rfl rfl rfl ?_ | refine Z8v rfl (st_q rfl rfl rfl ?_)))
  by_cases hc0 : cut < 0
  · (rw [decide_eq_true (p := cut < 0) (by omega)])
    (repeat (first | refine st_q rfl rfl rfl ?_ | refine Z8w rfl ?_ | (refine Z8y ?_; (repeat (first | refine Z9v rfl ?_ | refine Z9w ?_)); refine Z9u ?_) | refine awp_seq ?_ | refine Zbm (fun _ _ => rfl) ?_ | refine Kc1 rfl ?_))
    refine Z8d ?_
    exact Kar rfl rfl
  (rw [decide_eq_false (p := cut < 0) (by omega)])
  (repeat (first | refine st_q rfl rfl rfl ?_ | refine Z8v rfl (st_q rfl rfl rfl ?_) | (refine Z8y ?_; (repeat (first | refine Z9v rfl ?_ | refine Z9w ?_)); refine Z9u ?_)))
  rw [hrl]
  by_cases hc1 : (rows.length : Int) < cut
  · (rw [decide_eq_true (p := (rows.length : Int) < cut) (by omega)])
    (repeat (first | refine st_q rfl rfl rfl ?_ | (refine Z8y ?_; (repeat (first | refine Z9v rfl ?_ | refine Z9w ?_)); refine Z9u ?_) | refine awp_seq ?_ | refine Zbm (fun _ _ => rfl) ?_ | refine Kc1 rfl ?_))
    refine Z8d ?_
    exact Kar rfl rfl
  (rw [decide_eq_false (p := (rows.length : Int) < cut) (by omega)])
  obtain ⟨n, rfl⟩ : ∃ n : Nat, cut = n := ⟨cut.toNat, by omega⟩
  have hn : n ≤ rows.length := by omega
  have hr1 : ∀ v ∈ rows.take n, v.Fit := fun v hv => hr v (List.mem_of_mem_take hv)
  have hr2 : ∀ v ∈ rows.drop n, v.Fit := fun v hv => hr v (List.mem_of_mem_drop hv)
  have hSa := Z21j t hfit (rows.take n) hr1 (by simp; omega)
  have hSb := Z21j t hfit (rows.drop n) hr2 (by simp; omega)
  have hSc := Z21j t hfit rows hr (by omega)
  have hcola := fun (he : (Z1i6 t (rows.take n)).2 = 0) => @Z1l3 t (rows.take n) hr1 he
  have hcolb := fun (he : (Z1i6 t (rows.drop n)).2 = 0) => @Z1l3 t (rows.drop n) hr2 he
  have hcolc := fun (he : (Z1i6 t rows).2 = 0) => @Z1l3 t rows hr he
  have hcla := @Z1l2 t (rows.take n)
  have hclb := @Z1l2 t (rows.drop n)
  have htwo := @Z22l t (rows.take n) (rows.drop n)
  rw [List.take_append_drop] at htwo
  have hparts := fun he => @Z24i t rows hr he n
  have hL100 := Z1li t
  rw [Zlp] at hSa hSb hSc
  generalize Z1i6 t (rows.take n) = X at hSa hcola hcla htwo hparts
  generalize Z1i6 t (rows.drop n) = Y at hSb hcolb hclb htwo hparts
  generalize Z1i6 t rows = Z at hSc htwo hcolc hparts
  obtain ⟨ca, ea⟩ := X
  obtain ⟨cb, eb⟩ := Y
  obtain ⟨cc, ec⟩ := Z
  generalize Zm4 t = L at hcola hcla hcolb hclb hcolc hL100
  simp only at hSa hSb hSc hcola hcolb hcolc hcla hclb htwo hparts
  (repeat (first | refine st_q rfl rfl rfl ?_ | refine awp_seq ?_ | refine Zbm (fun _ _ => rfl) ?_ | refine Zbn (fun _ _ => rfl) ?_ | refine Kc2 rfl ?_))
  refine Z99 (a := 0) (b := (n : Int)) (c := (rows.length : Int)) rfl (by simp [bnds, Zm9]) (by simp [Zm9]; omega) ?_
  rw [show ((Zm5 rows).drop (0 : Int).toNat).take ((n : Int) - 0).toNat = Zm5 (rows.take n) by rw [Z24f]; simp]
  (repeat (refine st_q rfl rfl rfl ?_))
  refine Z9t rfl (Z1q.args (VRle.same VRle.full) (hSa _)) ?_
  (repeat (first | refine st_q rfl rfl rfl ?_ | (refine Z8y ?_; (repeat (first | refine Z9v rfl ?_ | refine Z9w ?_)); refine Z9u ?_) | refine awp_seq ?_ | refine Zbm (fun _ _ => rfl) ?_))
  refine Z99 (a := (n : Int)) (b := (rows.length : Int)) (c := (rows.length : Int)) rfl (by simp [bnds, Zm9]) (by simp [Zm9]; omega) ?_
  rw [show ((Zm5 rows).drop (n : Int).toNat).take ((rows.length : Int) - (n : Int)).toNat = Zm5 (rows.drop n) by
    rw [← Z24g, Int.toNat_natCast]; exact List.take_of_length_le (by simp [Zm9])]
  (repeat (refine st_q rfl rfl rfl ?_))
  refine Z9t rfl (Z1q.args (VRle.same VRle.full) (hSb _)) ?_
  (repeat (first | refine st_q rfl rfl rfl ?_ | (refine Z8y ?_; (repeat (first | refine Z9v rfl ?_ | refine Z9w ?_)); refine Z9u ?_) | refine awp_seq ?_ | refine Zbm (fun _ _ => rfl) ?_))
  refine Z9t rfl (hSc _) ?_
  (repeat (first | refine st_q rfl rfl rfl ?_ | (refine Z8y ?_; (repeat (first | refine Z9v rfl ?_ | refine Z9w ?_)); refine Z9u ?_) | refine awp_seq ?_ | refine Zbm (fun _ _ => rfl) ?_))
  by_cases hea : ea = 0
  rotate_left
  · have hec : ec ≠ 0 := fun e => hea (hparts e).1
    (rw [decide_eq_true (p := (ea : Int) ≠ 0) (by omega)])
    (repeat (first | refine st_q rfl rfl rfl ?_ | refine Z8w rfl ?_ | (refine Z8y ?_; (repeat (first | refine Z9v rfl ?_ | refine Z9w ?_)); refine Z9u ?_) | refine awp_seq ?_ | refine Zbm (fun _ _ => rfl) ?_ | refine Kc1 rfl ?_))
    refine Z8d ?_
    exact Kar rfl (by simp [Z8m]; omega)
  (rw [decide_eq_false (p := (ea : Int) ≠ 0) (by omega)])
  (repeat (first | refine st_q rfl rfl rfl ?_ | refine Z8v rfl (st_q rfl rfl rfl ?_)))
  by_cases heb : eb = 0
  rotate_left
  · have hec : ec ≠ 0 := fun e => heb (hparts e).2
    (rw [decide_eq_true (p := (eb : Int) ≠ 0) (by omega)])
    (repeat (first | refine st_q rfl rfl rfl ?_ | refine Z8w rfl ?_ | (refine Z8y ?_; (repeat (first | refine Z9v rfl ?_ | refine Z9w ?_)); refine Z9u ?_) | refine awp_seq ?_ | refine Zbm (fun _ _ => rfl) ?_ | refine Kc1 rfl ?_))
    refine Z8d ?_
    exact Kar rfl (by simp [Z8m]; omega)
  (rw [decide_eq_false (p := (eb : Int) ≠ 0) (by omega)])
  (repeat (first | refine st_q rfl rfl rfl ?_ | refine Z8v rfl (st_q rfl rfl rfl ?_) | (refine Z8y ?_; (repeat (first | refine Z9v rfl ?_ | refine Z9w ?_)); refine Z9u ?_)))
  by_cases hec : ec = 0
  rotate_left
  · (rw [decide_eq_true (p := (ec : Int) ≠ 0) (by omega)])
    (repeat (first | refine st_q rfl rfl rfl ?_ | (refine Z8y ?_; (repeat (first | refine Z9v rfl ?_ | refine Z9w ?_)); refine Z9u ?_) | refine awp_seq ?_ | refine Zbm (fun _ _ => rfl) ?_ | refine Kc1 rfl ?_))
    refine Z8d ?_
    exact Kar rfl (by simp [Z8m]; omega)
  (rw [decide_eq_false (p := (ec : Int) ≠ 0) (by omega)])
  have htw := htwo hea heb hec
  have hla := hcla hea
  have hlb := hclb heb
  have hcola := fun (i : Nat) (c : Col) => @hcola hea i c
  have hcolb := fun (i : Nat) (c : Col) => @hcolb heb i c
  have hcolc := fun (i : Nat) (c : Col) => @hcolc hec i c
  have hlc : cc.length = L.length := by rw [htw, appCs, List.length_zipWith]; omega
  have hma : (ca.map encC).length = ca.length := List.length_map ..
  have hmb : (cb.map encC).length = cb.length := List.length_map ..
  have hmc : (cc.map encC).length = cc.length := List.length_map ..
  (repeat (first | refine st_q rfl rfl rfl ?_ | refine awp_seq ?_ | refine Zbm (fun _ _ => rfl) ?_ | refine Zbn (fun _ _ => rfl) ?_ | refine Kc2 rfl ?_))
  rw [hma, hmc]
  (rw [decide_eq_false (p := (ca.length : Int) ≠ (cc.length : Int)) (by omega)])
  (repeat (first | refine st_q rfl rfl rfl ?_ | refine Z8v rfl (st_q rfl rfl rfl ?_) | (refine Z8y ?_; (repeat (first | refine Z9v rfl ?_ | refine Z9w ?_)); refine Z9u ?_)))
  rw [hmb, hmc]
  (rw [decide_eq_false (p := (cb.length : Int) ≠ (cc.length : Int)) (by omega)])
  (repeat (first | refine st_q rfl rfl rfl ?_ | (refine Z8y ?_; (repeat (first | refine Z9v rfl ?_ | refine Z9w ?_)); refine Z9u ?_) | refine awp_seq ?_ | refine Zbm (fun _ _ => rfl) ?_ | refine Z8h ?_ | refine Zbn (fun _ _ => rfl) ?_ | refine Kc2 rfl ?_))
  refine Zaa (fun m F σ' => ∃ i : Nat, F = fset 7 (some (.slc 5 (ca.map encC) false)) (fset 9 (some (.slc 5 (cb.map encC) false)) (fset 11 (some (.slc 5 (cc.map encC) false)) (fset 13 (some (.int .i64 (i : Nat))) Z27))) ∧ σ = σ' ∧ i ≤ cc.length ∧ m = cc.length - i) (n := cc.length)
    ⟨0, rfl, rfl, by omega, by omega⟩ ?_
  rintro m F σ' ⟨i, rfl, rfl, hi, rfl⟩
  (repeat (first | refine st_q rfl rfl rfl ?_ | (refine Z8y ?_; (repeat (first | refine Z9v rfl ?_ | refine Z9w ?_)); refine Z9u ?_) | refine awp_seq ?_ | refine Zbm (fun _ _ => rfl) ?_))
  rw [hmc]
  refine Za3 (p := (i : Int) < (cc.length : Nat)) rfl (fun h3 => ?_) (fun h3 => ?_)
  · have hil : i < cc.length := by omega
    have hia : i < ca.length := by omega
    have hib : i < cb.length := by omega
    have hxa := Zxw (f := encC) hia
    have hxb := Zxw (f := encC) hib
    have hxc := Zxw (f := encC) hil
    have hsa := (hcola i _ (List.getElem?_eq_getElem hia)).sm
    have hsb := (hcolb i _ (List.getElem?_eq_getElem hib)).sm
    have hsc := (hcolc i _ (List.getElem?_eq_getElem hil)).sm
    have hcc : cc[i] = appC ca[i] cb[i] := by
      have : cc[i]? = some (appC ca[i] cb[i]) := by rw [htw, appCs, List.getElem?_zipWith, List.getElem?_eq_getElem hia, List.getElem?_eq_getElem hib]
      rw [List.getElem?_eq_getElem hil] at this
      exact Option.some.inj this
    rw [hcc] at hxc hsc
    generalize ca[i] = A at hxa hsa hxc hsc
    generalize cb[i] = B at hxb hsb hxc hsc
    obtain ⟨a1, a2, a3, a4, a5⟩ := hsa
    obtain ⟨b1, b2, b3, b4, b5⟩ := hsb
    (repeat (first | refine st_q rfl rfl rfl ?_ | refine awp_seq ?_ | refine Zbm (fun _ _ => rfl) ?_ | refine Z8h ?_ | refine Zbn (fun _ _ => rfl) ?_))
    refine Z93 rfl (by omega) hxa ?_
    (repeat (refine st_q rfl rfl rfl ?_))
    refine Z93 rfl (by omega) hxb ?_
    (repeat (refine st_q rfl rfl rfl ?_))
    refine Zbw rfl (fun σ => Z24h A.here B.here (by omega) false false σ) ?_
    (repeat (refine st_q rfl rfl rfl ?_))
    refine Z93 rfl (by omega) hxa ?_
    (repeat (refine st_q rfl rfl rfl ?_))
    refine Zbs (β := []) (ys := A.ints.map (.int .i64)) (Zbr.nil 1 1) rfl rfl (by rw [List.length_map]; simp; omega) fun p1 hp1 => ?_
    (repeat (refine st_q rfl rfl rfl ?_))
    rw [List.nil_append]
    refine Z93 rfl (by omega) hxb ?_
    (repeat (refine st_q rfl rfl rfl ?_))
    refine Zbs (β := [(p1, _)]) (xs := A.ints.map (.int .i64)) (ys := B.ints.map (.int .i64)) Zbr.mk rfl rfl (by rw [List.length_map, List.length_map]; omega) fun q1 hq1 => ?_
    (repeat (refine st_q rfl rfl rfl ?_))
    refine Z93 rfl (by omega) hxa ?_
    (repeat (refine st_q rfl rfl rfl ?_))
    refine Zbs (β := []) (ys := A.ns.map (.int .i64)) (Zbr.nil 1 1) rfl rfl (by rw [List.length_map]; simp; omega) fun p2 hp2 => ?_
    (repeat (refine st_q rfl rfl rfl ?_))
    rw [List.nil_append]
    refine Z93 rfl (by omega) hxb ?_
    (repeat (refine st_q rfl rfl rfl ?_))
    refine Zbs (β := [(p2, _)]) (xs := A.ns.map (.int .i64)) (ys := B.ns.map (.int .i64)) Zbr.mk rfl rfl (by rw [List.length_map, List.length_map]; omega) fun q2 hq2 => ?_
    (repeat (refine st_q rfl rfl rfl ?_))
    refine Z93 rfl (by omega) hxa ?_
    (repeat (refine st_q rfl rfl rfl ?_))
    refine Zbs (β := []) (ys := A.texts.map fun b => .slc 1 (bytes b) false) (Zbr.nil 1 1) rfl rfl (by rw [List.length_map]; simp; omega) fun p3 hp3 => ?_
    (repeat (refine st_q rfl rfl rfl ?_))
    rw [List.nil_append]
    refine Z93 rfl (by omega) hxb ?_
    (repeat (refine st_q rfl rfl rfl ?_))
    refine Zbs (β := [(p3, _)]) (xs := A.texts.map fun b => .slc 1 (bytes b) false) (ys := B.texts.map fun b => .slc 1 (bytes b) false) Zbr.mk rfl rfl (by rw [List.length_map, List.length_map]; omega) fun q3 hq3 => ?_
    (repeat (refine st_q rfl rfl rfl ?_))
    refine Z93 rfl (by omega) hxa ?_
    (repeat (refine st_q rfl rfl rfl ?_))
    refine Zbs (β := []) (ys := A.lens.map (.int .i64)) (Zbr.nil 1 1) rfl rfl (by rw [List.length_map]; simp; omega) fun p4 hp4 => ?_
    (repeat (refine st_q rfl rfl rfl ?_))
    rw [List.nil_append]
    refine Z93 rfl (by omega) hxb ?_
    (repeat (refine st_q rfl rfl rfl ?_))
    refine Zbs (β := [(p4, _)]) (xs := A.lens.map (.int .i64)) (ys := B.lens.map (.int .i64)) Zbr.mk rfl rfl (by rw [List.length_map, List.length_map]; omega) fun q4 hq4 => ?_
    (repeat (refine st_q rfl rfl rfl ?_))
    refine Z9k (by simp [Z0.cells, Z0.one]) fun b14 hb14 => ?_
    (first | refine Z9a rfl Z8z rfl (by decide) (Kfi rfl) (fun h => by cases h) Z9b ?_ | refine Z8v rfl (Z9a rfl Z8z rfl (by decide) (Kfi rfl) (fun h => by cases h) Z9b ?_))
    (refine Z8y ?_; (repeat (first | refine Z9v rfl ?_ | refine Z9w ?_)); refine Z9u ?_)
    refine Zby (Zbx.cellS (b := b14) (sz := 5) (s := 1) (v := .arr 1 q4 0 (A.lens.map (Z0.int .i64) ++ B.lens.map (Z0.int .i64)).length) (β := [(q4, .cells 1 (A.lens.map (Z0.int .i64) ++ B.lens.map (Z0.int .i64)))]) (σ := (q3, .cells 1 (A.texts.map (fun b => Z0.slc 1 (bytes b) false) ++ B.texts.map (fun b => Z0.slc 1 (bytes b) false))) :: (q2, .cells 1 (A.ns.map (Z0.int .i64) ++ B.ns.map (Z0.int .i64))) :: (q1, .cells 1 (A.ints.map (Z0.int .i64) ++ B.ints.map (Z0.int .i64))) :: σ) (ks := A.lens.map (Z0.int .i64) ++ B.lens.map (Z0.int .i64)) (A := []) (B := []) (p := [.slc 1 ((A.here ++ B.here).map .bool) false, .arr 1 q1 0 (A.ints.map (Z0.int .i64) ++ B.ints.map (Z0.int .i64)).length, .arr 1 q2 0 (A.ns.map (Z0.int .i64) ++ B.ns.map (Z0.int .i64)).length, .arr 1 q3 0 (A.texts.map (fun b => Z0.slc 1 (bytes b) false) ++ B.texts.map (fun b => Z0.slc 1 (bytes b) false)).length]) (q := []) Zbr.mk (fun y hy => by
      simp only [List.nil_append, List.append_nil, List.cons_append, List.mem_singleton] at hy
      subst hy
      exact Z0.fit_iff.1 rfl)) ?_
    refine Zby (Zbx.cellS (b := b14) (sz := 5) (s := 1) (v := .arr 1 q3 0 (A.texts.map (fun b => Z0.slc 1 (bytes b) false) ++ B.texts.map (fun b => Z0.slc 1 (bytes b) false)).length) (β := [(q3, .cells 1 (A.texts.map (fun b => Z0.slc 1 (bytes b) false) ++ B.texts.map (fun b => Z0.slc 1 (bytes b) false)))]) (σ := (q2, .cells 1 (A.ns.map (Z0.int .i64) ++ B.ns.map (Z0.int .i64))) :: (q1, .cells 1 (A.ints.map (Z0.int .i64) ++ B.ints.map (Z0.int .i64))) :: σ) (ks := A.texts.map (fun b => Z0.slc 1 (bytes b) false) ++ B.texts.map (fun b => Z0.slc 1 (bytes b) false)) (A := []) (B := []) (p := [.slc 1 ((A.here ++ B.here).map .bool) false, .arr 1 q1 0 (A.ints.map (Z0.int .i64) ++ B.ints.map (Z0.int .i64)).length, .arr 1 q2 0 (A.ns.map (Z0.int .i64) ++ B.ns.map (Z0.int .i64)).length]) (q := [.slc 1 (A.lens.map (Z0.int .i64) ++ B.lens.map (Z0.int .i64)) false]) Zbr.mk (fun y hy => by
      simp only [List.nil_append, List.append_nil, List.cons_append, List.mem_singleton] at hy
      subst hy
      exact Z0.fit_iff.1 rfl)) ?_
    refine Zby (Zbx.cellS (b := b14) (sz := 5) (s := 1) (v := .arr 1 q2 0 (A.ns.map (Z0.int .i64) ++ B.ns.map (Z0.int .i64)).length) (β := [(q2, .cells 1 (A.ns.map (Z0.int .i64) ++ B.ns.map (Z0.int .i64)))]) (σ := (q1, .cells 1 (A.ints.map (Z0.int .i64) ++ B.ints.map (Z0.int .i64))) :: σ) (ks := A.ns.map (Z0.int .i64) ++ B.ns.map (Z0.int .i64)) (A := []) (B := []) (p := [.slc 1 ((A.here ++ B.here).map .bool) false, .arr 1 q1 0 (A.ints.map (Z0.int .i64) ++ B.ints.map (Z0.int .i64)).length]) (q := [.slc 1 (A.texts.map (fun b => Z0.slc 1 (bytes b) false) ++ B.texts.map (fun b => Z0.slc 1 (bytes b) false)) false, .slc 1 (A.lens.map (Z0.int .i64) ++ B.lens.map (Z0.int .i64)) false]) Zbr.mk (fun y hy => by
      simp only [List.nil_append, List.append_nil, List.cons_append, List.mem_singleton] at hy
      subst hy
      exact Z0.fit_iff.1 rfl)) ?_
    refine Zby (Zbx.cellS (b := b14) (sz := 5) (s := 1) (v := .arr 1 q1 0 (A.ints.map (Z0.int .i64) ++ B.ints.map (Z0.int .i64)).length) (β := [(q1, .cells 1 (A.ints.map (Z0.int .i64) ++ B.ints.map (Z0.int .i64)))]) (σ := σ) (ks := A.ints.map (Z0.int .i64) ++ B.ints.map (Z0.int .i64)) (A := []) (B := []) (p := [.slc 1 ((A.here ++ B.here).map .bool) false]) (q := [.slc 1 (A.ns.map (Z0.int .i64) ++ B.ns.map (Z0.int .i64)) false, .slc 1 (A.texts.map (fun b => Z0.slc 1 (bytes b) false) ++ B.texts.map (fun b => Z0.slc 1 (bytes b) false)) false, .slc 1 (A.lens.map (Z0.int .i64) ++ B.lens.map (Z0.int .i64)) false]) Zbr.mk (fun y hy => by
      simp only [List.nil_append, List.append_nil, List.cons_append, List.mem_singleton] at hy
      subst hy
      exact Z0.fit_iff.1 rfl)) ?_
    have hcs : [Z0.slc 1 ((A.here ++ B.here).map .bool) false, .slc 1 (A.ints.map (Z0.int .i64) ++ B.ints.map (Z0.int .i64)) false, .slc 1 (A.ns.map (Z0.int .i64) ++ B.ns.map (Z0.int .i64)) false, .slc 1 (A.texts.map (fun b => Z0.slc 1 (bytes b) false) ++ B.texts.map (fun b => Z0.slc 1 (bytes b) false)) false, .slc 1 (A.lens.map (Z0.int .i64) ++ B.lens.map (Z0.int .i64)) false] = Zxu (appC A B) := by simp [Zxu, appC, List.map_append]
    refine Zb3 (d := 14) (cs := [Z0.slc 1 ((A.here ++ B.here).map .bool) false, .slc 1 (A.ints.map (Z0.int .i64) ++ B.ints.map (Z0.int .i64)) false, .slc 1 (A.ns.map (Z0.int .i64) ++ B.ns.map (Z0.int .i64)) false, .slc 1 (A.texts.map (fun b => Z0.slc 1 (bytes b) false) ++ B.texts.map (fun b => Z0.slc 1 (bytes b) false)) false, .slc 1 (A.lens.map (Z0.int .i64) ++ B.lens.map (Z0.int .i64)) false]) rfl ?_
    rw [hcs]
    (refine Z9y (keep := [7, 9, 11, 13, 14]) ?_; ((repeat (first | refine Z9v rfl ?_ | refine Z9w ?_)); refine Z9u ?_))
    (repeat (first | refine st_q rfl rfl rfl ?_ | refine awp_seq ?_ | refine Zbm (fun _ _ => rfl) ?_))
    refine Z93 rfl (by omega) hxc ?_
    (repeat refine st_q rfl rfl rfl ?_)
    refine Z9t rfl (Z24e (appC A B) hsc _) ?_
    (repeat (first | refine st_q rfl rfl rfl ?_ | (refine Z8y ?_; (repeat (first | refine Z9v rfl ?_ | refine Z9w ?_)); refine Z9u ?_) | refine Zbn (fun _ _ => rfl) ?_ | refine Kc2 rfl ?_))
    refine Zbp ?_
    (repeat (refine st_q rfl rfl rfl ?_))
    rw [Kwr i (by omega)]
    (refine Z8y ?_; (repeat (first | refine Z9v rfl ?_ | refine Z9w ?_)); refine Z9u ?_)
    exact ⟨_, cc.length - (i + 1), HSub.refl _, ⟨i + 1, rfl, rfl, by omega, rfl⟩, by omega⟩
  · (repeat (first | refine st_q rfl rfl rfl ?_ | (refine Z8y ?_; (repeat (first | refine Z9v rfl ?_ | refine Z9w ?_)); refine Z9u ?_) | refine awp_seq ?_ | refine Zbm (fun _ _ => rfl) ?_ | refine Zbo (fun _ _ => rfl) ?_))
    refine Z8d ?_
    exact Kar rfl rfl
end Go.Abs

