/- Part U of a proof: merged by program. -/
import Derived.Test.YtgmefkhincnajaaPkT
import Derived.Test.YtgmefkhincnajaaProg
import Derived.KernelRfl
set_option linter.unusedVariables false
set_option linter.unusedSimpArgs false
set_option maxHeartbeats 4000000
namespace Go.Abs
open Go
def Z1hc : List Z2b := [
 ⟨some 2,(.box 6),[.t 0],none⟩,⟨some 4,.mov,[.c (.slc 0 [] true)],none⟩,⟨some 5,.mov,[.c (.int .i64 0)],none⟩]
def Z1hd : List Z2b := [
 ⟨some 13,(.load true 6),[.t 2],none⟩,⟨some 14,(.call Zdc),[.t 13],none⟩,⟨some 6,.mov,[.t 14],none⟩]
def Z1he : List Z2b := [
 ⟨some 15,.mov,[.t 6],none⟩,⟨some 16,(.bin .neq),[.t 15,.c (.int .i64 0)],none⟩]
def Z1hf : List Z2b := [
 ⟨some 17,.mov,[.t 6],none⟩,⟨some 4,.mov,[.c (.slc 0 [] true)],none⟩,⟨some 5,.mov,[.t 17],none⟩]
def Z1hg : List Z2b := [
 ⟨some 18,.mov,[.t 1],none⟩,⟨some 19,.lens,[.t 18],none⟩,⟨some 20,.mov,[.c (.int .i64 0)],none⟩]
def Z1hh : List Z2b := [
 ⟨some 21,(.bin .lss),[.t 20,.t 19],none⟩]
def Z1hi : List Z2b := [
 ⟨some 22,(.iad 5),[.t 18,.t 20],none⟩,⟨some 23,(.load true 5),[.t 22],none⟩,⟨some 8,(.alloc (.agg [(.bool false),(.int .i64 0),(.int .i64 0),(.slc 0 [] true),(.slc 0 [] true)])),[],none⟩,⟨none,(.store 5),[.t 8,.t 23],none⟩]
def Z1hj : List Z2b := [
 ⟨some 24,(.load true 6),[.t 2],none⟩,⟨some 25,(.load true 5),[.t 8],none⟩,⟨some 26,(.call Ze3),[.t 24,.t 25],none⟩,⟨some 9,.mov,[.t 26],none⟩]
def Z1hk : List Z2b := [
 ⟨some 27,.mov,[.t 9],none⟩,⟨some 28,(.bin .neq),[.t 27,.c (.int .i64 0)],none⟩]
def Z1hl : List Z2b := [
 ⟨some 29,.mov,[.t 9],none⟩,⟨some 4,.mov,[.c (.slc 0 [] true)],none⟩,⟨some 5,.mov,[.t 29],none⟩]
def Z1hm : List Z2b := [
 ⟨some 30,(.fad 0),[.t 8],none⟩,⟨some 31,(.load false 1),[.t 30],none⟩]
def Z1hn : List Z2b := [
 ⟨some 4,.mov,[.c (.slc 0 [] true)],none⟩,⟨some 5,.mov,[.c (.int .i64 1)],none⟩]
def Z1ho : List Z2b := [
 ⟨some 32,(.bin .add),[.t 20,.c (.int .i64 1)],none⟩,⟨some 20,.mov,[.t 32],none⟩]
def Z1hp : Z2c := (.seq (.region Z1hh [1,2,18,19,20,21]) (.seq (.cond (.t 21) .skip (.exit 0)) (.seq (.block 1 (.seq (.region Z1hi [1,2,8,18,19,20]) (.seq (.seq (.region Z1hj [1,2,8,9,18,19,20]) (.seq (.region Z1hk [1,2,8,9,18,19,20,28]) (.cond (.t 28) (.seq (.region Z1hl [4,5]) .ret) .skip))) (.seq (.region Z1hm [1,2,18,19,20,31]) (.cond (.t 31) (.seq (.region Z1hn [4,5]) .ret) .skip))))) (.region Z1ho [1,2,18,19,20]))))
def Z1hq : List Z2b := [
 ⟨some 33,(.load true 6),[.t 2],none⟩,⟨some 34,(.call Zc2),[.t 33],none⟩,⟨some 35,(.bld [(.slc 0 [] true),(.slc 0 [] true)] [(0,1)]),[.t 34],none⟩,⟨some 36,(.box 2),[.t 35],none⟩,⟨some 10,.mov,[.t 36],none⟩]
def Z1hr : List Z2b := [
 ⟨some 37,.mov,[.t 10],none⟩,⟨some 38,.mov,[.t 10],none⟩,⟨some 39,.nilc,[.t 38],none⟩,⟨some 40,(.fad 0),[.t 39],none⟩,⟨some 41,(.load false 1),[.t 40],none⟩,⟨some 42,.lens,[.t 41],none⟩,⟨some 43,(.mks 5 120 (.agg [(.slc 0 [] true),(.slc 0 [] true),(.slc 0 [] true),(.slc 0 [] true),(.slc 0 [] true)])),[.t 42,.t 42],none⟩,⟨some 44,.nilc,[.t 37],none⟩,⟨some 45,(.fad 1),[.t 44],none⟩,⟨none,(.store 1),[.t 45,.t 43],none⟩]
def Z1hs : List Z2b := [
 ⟨some 46,.mov,[.t 1],none⟩,⟨some 47,.lens,[.t 46],none⟩,⟨some 48,.mov,[.c (.int .i64 0)],none⟩]
def Z1ht : List Z2b := [
 ⟨some 49,(.bin .lss),[.t 48,.t 47],none⟩]
def Z1hu : List Z2b := [
 ⟨some 50,(.iad 5),[.t 46,.t 48],none⟩,⟨some 51,(.load true 5),[.t 50],none⟩,⟨some 12,(.alloc (.agg [(.bool false),(.int .i64 0),(.int .i64 0),(.slc 0 [] true),(.slc 0 [] true)])),[],none⟩,⟨none,(.store 5),[.t 12,.t 51],none⟩]
def Z1hv : List Z2b := [
 ⟨some 52,.mov,[.t 10],none⟩,⟨some 53,(.load true 5),[.t 12],none⟩,⟨some 54,(.call Ze4),[.t 52,.c (.int .i64 0),.t 53],none⟩,⟨some 55,.unot,[.t 54],none⟩]
def Z1hw : List Z2b := [
 ⟨some 4,.mov,[.c (.slc 0 [] true)],none⟩,⟨some 5,.mov,[.c (.int .i64 4)],none⟩]
def Z1hx : List Z2b := [
 ⟨some 56,(.bin .add),[.t 48,.c (.int .i64 1)],none⟩,⟨some 48,.mov,[.t 56],none⟩]
def Z1hy : Z2c := (.seq (.region Z1ht [10,46,47,48,49]) (.seq (.cond (.t 49) .skip (.exit 2)) (.seq (.block 3 (.seq (.region Z1hu [10,12,46,47,48]) (.seq (.region Z1hv [10,46,47,48,55]) (.cond (.t 55) (.seq (.region Z1hw [4,5]) .ret) .skip)))) (.region Z1hx [10,46,47,48]))))
def Z1hz : List Z2b := [
 ⟨some 57,.mov,[.t 10],none⟩,⟨some 58,.nilc,[.t 57],none⟩,⟨some 59,(.fad 1),[.t 58],none⟩,⟨some 60,(.load false 1),[.t 59],none⟩,⟨some 4,.mov,[.t 60],none⟩,⟨some 5,.mov,[.c (.int .i64 0)],none⟩]
def Z1i0 : Z2z := ⟨61,(.seq (.region Z1hc [1,2]) (.seq (.seq (.region Z1hd [1,2,6]) (.seq (.region Z1he [1,2,6,16]) (.cond (.t 16) (.seq (.region Z1hf [4,5]) .ret) .skip))) (.seq (.seq (.region Z1hg [1,2,18,19,20]) (.block 0 (.loop Z1hp))) (.seq (.region Z1hq [1,10]) (.seq (.region Z1hr [1,10]) (.seq (.seq (.region Z1hs [10,46,47,48]) (.block 2 (.loop Z1hy))) (.seq (.region Z1hz [4,5]) .ret))))))),[.t 4,.t 5]⟩
def Z1i1 : List Z2b := [
 ⟨some 5,(.box 5),[.t 2],none⟩,⟨some 6,.mov,[.c (.bool false)],none⟩]
def Z1i2 : List Z2b := [
 ⟨some 13,.mov,[.t 0],none⟩,⟨some 14,.nilc,[.t 13],none⟩,⟨some 15,(.fad 1),[.t 14],none⟩,⟨some 16,(.load false 1),[.t 15],none⟩,⟨some 17,.mov,[.t 1],none⟩,⟨some 18,(.iad 5),[.t 16,.t 17],none⟩,⟨some 19,.mov,[.t 0],none⟩,⟨some 20,.nilc,[.t 19],none⟩,⟨some 21,(.fad 0),[.t 20],none⟩,⟨some 22,(.load false 1),[.t 21],none⟩,⟨some 23,.mov,[.t 1],none⟩,⟨some 24,(.iad 8),[.t 22,.t 23],none⟩,⟨some 25,(.load true 8),[.t 24],none⟩,⟨some 8,(.alloc (.agg [(.int .i64 0),(.slc 0 [] true),(.slc 0 [] true),(.int .i64 0),(.int .i64 0),(.int .i64 0),(.int .i64 0),(.int .i64 0)])),[],none⟩,⟨some 7,.mov,[.t 18],none⟩,⟨none,(.store 8),[.t 8,.t 25],none⟩]
def Z1i3 : List Z2b := [
 ⟨some 26,.mov,[.t 7],none⟩,⟨some 27,.nilc,[.t 26],none⟩,⟨some 28,(.fad 0),[.t 27],none⟩,⟨some 29,(.load false 1),[.t 28],none⟩,⟨some 30,.lens,[.t 29],none⟩,⟨some 31,(.bin .geq),[.t 30,.c (.int .i64 16384)],none⟩]
def Z1i4 : List Z2b := [
 ⟨some 6,.mov,[.c (.bool false)],none⟩]
def Z1i5 : List Z2b := [
 ⟨some 32,.mov,[.t 7],none⟩,⟨some 33,.mov,[.t 7],none⟩,⟨some 34,.nilc,[.t 33],none⟩,⟨some 35,(.fad 0),[.t 34],none⟩,⟨some 36,(.load false 1),[.t 35],none⟩,⟨some 37,(.fad 0),[.t 5],none⟩,⟨some 38,(.load false 1),[.t 37],none⟩,⟨some 39,.unot,[.t 38],none⟩,⟨some 40,(.bsl 1),[.t 39],none⟩,⟨some 41,(.app 1 1),[.t 36,.t 40],none⟩,⟨some 42,.nilc,[.t 32],none⟩,⟨some 43,(.fad 0),[.t 42],none⟩,⟨none,(.store 1),[.t 43,.t 41],none⟩]
def Z1i6 : List Z2b := [
 ⟨some 44,(.fad 0),[.t 5],none⟩,⟨some 45,(.load false 1),[.t 44],none⟩]
def Z1i7 : List Z2b := [
 ⟨some 6,.mov,[.c (.bool true)],none⟩]
def Z1i8 : List Z2b := [
 ⟨some 46,(.fad 0),[.t 8],none⟩,⟨some 47,(.load false 1),[.t 46],none⟩,⟨some 48,(.call Zf7),[.t 47],none⟩,⟨some 9,(.alloc (.agg [(.bool false),(.bool false),(.bool false),(.bool false)])),[],none⟩,⟨none,(.store 4),[.t 9,.t 48],none⟩]
def Z1i9 : List Z2b := [
 ⟨some 49,(.fad 0),[.t 9],none⟩,⟨some 50,(.load false 1),[.t 49],none⟩]
def Z1ia : List Z2b := [
 ⟨some 51,.mov,[.t 7],none⟩,⟨some 52,.mov,[.t 7],none⟩,⟨some 53,.nilc,[.t 52],none⟩,⟨some 54,(.fad 1),[.t 53],none⟩,⟨some 55,(.load false 1),[.t 54],none⟩,⟨some 56,(.fad 1),[.t 5],none⟩,⟨some 57,(.load false 1),[.t 56],none⟩,⟨some 58,(.bsl 1),[.t 57],none⟩,⟨some 59,(.app 1 8),[.t 55,.t 58],none⟩,⟨some 60,.nilc,[.t 51],none⟩,⟨some 61,(.fad 1),[.t 60],none⟩,⟨none,(.store 1),[.t 61,.t 59],none⟩]
def Z1ib : List Z2b := [
 ⟨some 62,(.fad 1),[.t 9],none⟩,⟨some 63,(.load false 1),[.t 62],none⟩]
def Z1ic : List Z2b := [
 ⟨some 64,.mov,[.t 7],none⟩,⟨some 65,.mov,[.t 7],none⟩,⟨some 66,.nilc,[.t 65],none⟩,⟨some 67,(.fad 2),[.t 66],none⟩,⟨some 68,(.load false 1),[.t 67],none⟩,⟨some 69,(.fad 2),[.t 5],none⟩,⟨some 70,(.load false 1),[.t 69],none⟩,⟨some 71,(.bsl 1),[.t 70],none⟩,⟨some 72,(.app 1 8),[.t 68,.t 71],none⟩,⟨some 73,.nilc,[.t 64],none⟩,⟨some 74,(.fad 2),[.t 73],none⟩,⟨none,(.store 1),[.t 74,.t 72],none⟩]
def Z1id : List Z2b := [
 ⟨some 75,(.fad 2),[.t 9],none⟩,⟨some 76,(.load false 1),[.t 75],none⟩]
def Z1ie : List Z2b := [
 ⟨some 77,.mov,[.t 7],none⟩,⟨some 78,.mov,[.t 7],none⟩,⟨some 79,.nilc,[.t 78],none⟩,⟨some 80,(.fad 3),[.t 79],none⟩,⟨some 81,(.load false 1),[.t 80],none⟩,⟨some 82,(.fad 3),[.t 5],none⟩,⟨some 83,(.load false 1),[.t 82],none⟩,⟨some 84,(.callp Zf0),[.t 83],none⟩,⟨some 85,(.callp Zez),[.t 84],none⟩,⟨some 86,(.bsl 1),[.t 85],none⟩,⟨some 87,(.app 1 24),[.t 81,.t 86],none⟩,⟨some 88,.nilc,[.t 77],none⟩,⟨some 89,(.fad 3),[.t 88],none⟩,⟨none,(.store 1),[.t 89,.t 87],none⟩]
def Z1if : List Z2b := [
 ⟨some 90,(.fad 3),[.t 9],none⟩,⟨some 91,(.load false 1),[.t 90],none⟩]
def Z1ig : List Z2b := [
 ⟨some 92,.mov,[.t 7],none⟩,⟨some 93,.mov,[.t 7],none⟩,⟨some 94,.nilc,[.t 93],none⟩,⟨some 95,(.fad 4),[.t 94],none⟩,⟨some 96,(.load false 1),[.t 95],none⟩,⟨some 97,(.fad 4),[.t 5],none⟩,⟨some 98,(.load false 1),[.t 97],none⟩,⟨some 99,.lens,[.t 98],none⟩,⟨some 100,(.fad 1),[.t 8],none⟩,⟨some 101,(.load false 1),[.t 100],none⟩,⟨some 102,.lens,[.t 101],none⟩,⟨some 103,(.bin .quo),[.t 99,.t 102],none⟩,⟨some 104,(.bsl 1),[.t 103],none⟩,⟨some 105,(.app 1 8),[.t 96,.t 104],none⟩,⟨some 106,.nilc,[.t 92],none⟩,⟨some 107,(.fad 4),[.t 106],none⟩,⟨none,(.store 1),[.t 107,.t 105],none⟩]
def Z1ih : List Z2b := [
 ⟨some 108,(.fad 4),[.t 5],none⟩,⟨some 109,(.load false 1),[.t 108],none⟩,⟨some 110,.lens,[.t 109],none⟩,⟨some 111,.mov,[.c (.int .i64 0)],none⟩]
def Z1ii : List Z2b := [
 ⟨some 112,(.bin .lss),[.t 111,.t 110],none⟩]
def Z1ij : List Z2b := [
 ⟨some 113,.mov,[.t 111],none⟩,⟨some 114,(.iad 5),[.t 109,.t 111],none⟩,⟨some 115,(.load true 5),[.t 114],none⟩,⟨some 11,(.alloc (.agg [(.bool false),(.int .i64 0),(.int .i64 0),(.slc 0 [] true),(.slc 0 [] true)])),[],none⟩,⟨some 10,.mov,[.t 113],none⟩,⟨none,(.store 5),[.t 11,.t 115],none⟩]
def Z1ik : List Z2b := [
 ⟨some 116,.mov,[.t 10],none⟩,⟨some 12,.mov,[.t 116],none⟩]
def Z1il : List Z2b := [
 ⟨some 117,(.fad 0),[.t 8],none⟩,⟨some 118,(.load false 1),[.t 117],none⟩]
def Z1im : List Z2b := [
 ⟨some 120,(.bin .eql),[.t 118,.c (.int .i64 10)],none⟩,⟨some 119,.mov,[.t 120],none⟩]
def Z1in : List Z2b := [
 ⟨some 12,.mov,[.c (.int .i64 0)],none⟩]
def Z1io : List Z2b := [
 ⟨some 122,(.bin .eql),[.t 118,.c (.int .i64 11)],none⟩,⟨some 121,.mov,[.t 122],none⟩]
def Z1ip : List Z2b := [
 ⟨some 123,.mov,[.t 10],none⟩,⟨some 124,(.bin .rem),[.t 123,.c (.int .i64 2)],none⟩,⟨some 12,.mov,[.t 124],none⟩]
def Z1iq : List Z2b := [
 ⟨some 126,(.bin .eql),[.t 118,.c (.int .i64 13)],none⟩,⟨some 125,.mov,[.t 126],none⟩]
def Z1ir : List Z2b := [
 ⟨some 127,(.fad 1),[.t 5],none⟩,⟨some 128,(.load false 1),[.t 127],none⟩,⟨some 12,.mov,[.t 128],none⟩]
def Z1is : List Z2b := [
 ⟨some 129,.mov,[.t 0],none⟩,⟨some 130,(.fad 1),[.t 8],none⟩,⟨some 131,(.load false 1),[.t 130],none⟩,⟨some 132,.mov,[.t 12],none⟩,⟨some 133,(.iad 1),[.t 131,.t 132],none⟩,⟨some 134,(.load false 1),[.t 133],none⟩,⟨some 135,(.load true 5),[.t 11],none⟩,⟨some 136,(.call Ze4),[.t 129,.t 134,.t 135],none⟩,⟨some 137,.unot,[.t 136],none⟩]
def Z1it : List Z2b := [
 ⟨some 6,.mov,[.c (.bool false)],none⟩]
def Z1iu : List Z2b := [
 ⟨some 138,(.bin .add),[.t 111,.c (.int .i64 1)],none⟩,⟨some 111,.mov,[.t 138],none⟩]
def Z1iv : Z2c := (.seq (.region Z1ii [0,5,8,109,110,111,112]) (.seq (.cond (.t 112) .skip (.exit 0)) (.seq (.block 1 (.seq (.region Z1ij [0,5,8,10,11,109,110,111]) (.seq (.region Z1ik [0,5,8,10,11,12,109,110,111]) (.seq (.seq (.region Z1il [0,5,8,10,11,12,109,110,111,118]) (.block 2 (.seq (.region Z1im [0,5,8,10,11,12,109,110,111,118,119]) (.cond (.t 119) (.region Z1in [0,5,8,11,12,109,110,111]) (.seq (.region Z1io [0,5,8,10,11,12,109,110,111,118,121]) (.cond (.t 121) (.region Z1ip [0,5,8,11,12,109,110,111]) (.seq (.region Z1iq [0,5,8,11,12,109,110,111,125]) (.cond (.t 125) (.region Z1ir [0,5,8,11,12,109,110,111]) .skip)))))))) (.seq (.region Z1is [0,5,8,109,110,111,137]) (.cond (.t 137) (.seq (.region Z1it [6]) .ret) .skip)))))) (.region Z1iu [0,5,8,109,110,111]))))
def Z1iw : List Z2b := [
 ⟨some 6,.mov,[.c (.bool true)],none⟩]
def Z1ix : Z2z := ⟨139,(.seq (.region Z1i1 [0,1,5]) (.seq (.region Z1i2 [0,5,7,8]) (.seq (.seq (.region Z1i3 [0,5,7,8,31]) (.cond (.t 31) (.seq (.region Z1i4 [6]) .ret) .skip)) (.seq (.region Z1i5 [0,5,7,8]) (.seq (.seq (.region Z1i6 [0,5,7,8,45]) (.cond (.t 45) (.seq (.region Z1i7 [6]) .ret) .skip)) (.seq (.region Z1i8 [0,5,7,8,9]) (.seq (.seq (.region Z1i9 [0,5,7,8,9,50]) (.cond (.t 50) (.region Z1ia [0,5,7,8,9]) .skip)) (.seq (.seq (.region Z1ib [0,5,7,8,9,63]) (.cond (.t 63) (.region Z1ic [0,5,7,8,9]) .skip)) (.seq (.seq (.region Z1id [0,5,7,8,9,76]) (.cond (.t 76) (.region Z1ie [0,5,7,8,9]) .skip)) (.seq (.seq (.region Z1if [0,5,7,8,91]) (.cond (.t 91) (.region Z1ig [0,5,8]) .skip)) (.seq (.seq (.region Z1ih [0,5,8,109,110,111]) (.block 0 (.loop Z1iv))) (.seq (.region Z1iw [6]) .ret)))))))))))),[.t 6]⟩
def Z1iy : List Z2b := [
 ⟨some 4,(.box 6),[.t 0],none⟩,⟨some 8,.mov,[.c (.bool false)],none⟩]
def Z1iz : List Z2b := [
 ⟨some 18,(.call Zcs),[],none⟩,⟨some 19,.unot,[.t 18],none⟩]
def Z1j0 : List Z2b := [
 ⟨some 8,.mov,[.c (.bool false)],none⟩]
def Z1j1 : List Z2b := [
 ⟨some 20,(.load true 6),[.t 4],none⟩,⟨some 21,(.call Zd1),[.t 20],none⟩,⟨some 22,.unot,[.t 21],none⟩,⟨some 23,.mov,[.t 22],none⟩,⟨some 24,.mov,[.t 1],some (23,false)⟩,⟨some 25,.lens,[.t 24],some (23,false)⟩,⟨some 26,(.bin .gtr),[.t 25,.c (.int .i64 150)],some (23,false)⟩,⟨some 27,.pick,[.t 23,.c (.bool true),.t 26],none⟩,⟨some 28,.mov,[.t 27],none⟩,⟨some 29,.mov,[.t 3],some (28,false)⟩,⟨some 30,.lens,[.t 29],some (28,false)⟩,⟨some 31,(.bin .gtr),[.t 30,.c (.int .i64 20)],some (28,false)⟩,⟨some 32,.pick,[.t 28,.c (.bool true),.t 31],none⟩,⟨some 33,.mov,[.t 32],none⟩,⟨some 34,.mov,[.t 2],some (33,false)⟩,⟨some 35,(.bin .gtr),[.t 34,.c (.int .i64 400)],some (33,false)⟩,⟨some 36,.pick,[.t 33,.c (.bool true),.t 35],none⟩]
def Z1j2 : List Z2b := [
 ⟨some 8,.mov,[.c (.bool true)],none⟩]
def Z1j3 : List Z2b := [
 ⟨some 9,.mov,[.c (.slc 0 [] true)],none⟩]
def Z1j4 : List Z2b := [
 ⟨some 10,.mov,[.c (.int .i64 0)],none⟩]
def Z1j5 : List Z2b := [
 ⟨some 37,.mov,[.t 10],none⟩,⟨some 38,.mov,[.t 1],none⟩,⟨some 39,.lens,[.t 38],none⟩,⟨some 40,(.bin .lss),[.t 37,.t 39],none⟩]
def Z1j6 : List Z2b := [
 ⟨some 43,.mov,[.t 1],none⟩,⟨some 44,.mov,[.t 10],none⟩,⟨some 45,(.iad 5),[.t 43,.t 44],none⟩,⟨some 46,(.load true 5),[.t 45],none⟩,⟨some 47,(.call Zd2),[.t 46],none⟩,⟨some 48,.unot,[.t 47],none⟩]
def Z1j7 : List Z2b := [
 ⟨some 8,.mov,[.c (.bool true)],none⟩]
def Z1j8 : List Z2b := [
 ⟨some 49,.mov,[.t 9],none⟩,⟨some 50,.mov,[.t 1],none⟩,⟨some 51,.mov,[.t 10],none⟩,⟨some 52,(.iad 5),[.t 50,.t 51],none⟩,⟨some 53,(.load true 5),[.t 52],none⟩,⟨some 54,(.call Zd3),[.t 53],none⟩,⟨some 55,(.bsl 5),[.t 54],none⟩,⟨some 56,(.app 5 120),[.t 49,.t 55],none⟩,⟨some 9,.mov,[.t 56],none⟩]
def Z1j9 : List Z2b := [
 ⟨some 41,.mov,[.t 10],none⟩,⟨some 42,(.bin .add),[.t 41,.c (.int .i64 1)],none⟩,⟨some 10,.mov,[.t 42],none⟩]
def Z1ja : Z2c := (.seq (.seq (.region Z1j5 [1,2,3,4,9,10,40]) (.cond (.t 40) .skip (.exit 0))) (.seq (.block 1 (.seq (.seq (.region Z1j6 [1,2,3,4,9,10,48]) (.cond (.t 48) (.seq (.region Z1j7 [8]) .ret) .skip)) (.region Z1j8 [1,2,3,4,9,10]))) (.region Z1j9 [1,2,3,4,9,10])))
def Z1jb : List Z2b := [
 ⟨some 11,.mov,[.c (.slc 0 [] true)],none⟩]
def Z1jc : List Z2b := [
 ⟨some 57,(.load true 6),[.t 4],none⟩,⟨some 58,(.call Zch),[.t 57],none⟩,⟨some 59,(.bin .eql),[.t 58,.c (.int .i64 0)],none⟩,⟨some 60,.mov,[.t 59],none⟩,⟨some 61,.mov,[.t 3],some (60,true)⟩,⟨some 62,.lens,[.t 61],some (60,true)⟩,⟨some 63,(.bin .gtr),[.t 62,.c (.int .i64 0)],some (60,true)⟩,⟨some 64,.pick,[.t 60,.t 63,.c (.bool false)],none⟩]
def Z1jd : List Z2b := [
 ⟨some 66,(.load true 6),[.t 4],none⟩,⟨some 67,(.call Zc1),[.t 66],none⟩,⟨some 68,.mov,[.t 3],none⟩,⟨some 69,(.call Zd4),[.t 67,.t 68],none⟩,⟨some 65,.mov,[.t 69],none⟩,⟨some 70,(.ext 0),[.t 65],none⟩,⟨some 71,(.ext 1),[.t 65],none⟩,⟨some 12,.mov,[.t 70],none⟩,⟨some 13,.mov,[.t 71],none⟩]
def Z1je : List Z2b := [
 ⟨some 72,.mov,[.t 13],none⟩,⟨some 73,(.bin .neq),[.t 72,.c (.int .i64 0)],none⟩]
def Z1jf : List Z2b := [
 ⟨some 8,.mov,[.c (.bool true)],none⟩]
def Z1jg : List Z2b := [
 ⟨some 74,.mov,[.t 12],none⟩,⟨some 11,.mov,[.t 74],none⟩]
def Z1jh : List Z2b := [
 ⟨some 76,(.load true 6),[.t 4],none⟩,⟨some 77,.mov,[.t 1],none⟩,⟨some 78,.mov,[.t 2],none⟩,⟨some 79,.mov,[.t 11],none⟩,⟨some 80,(.call Zcz),[.t 76,.t 77,.t 78,.t 79],none⟩,⟨some 75,.mov,[.t 80],none⟩,⟨some 81,(.ext 0),[.t 75],none⟩,⟨some 82,(.ext 1),[.t 75],none⟩,⟨some 14,.mov,[.t 81],none⟩,⟨some 15,.mov,[.t 82],none⟩]
def Z1ji : List Z2b := [
 ⟨some 84,(.load true 6),[.t 4],none⟩,⟨some 85,.mov,[.t 9],none⟩,⟨some 86,.mov,[.t 2],none⟩,⟨some 87,.mov,[.t 11],none⟩,⟨some 88,(.call Zd5),[.t 84,.t 85,.t 86,.t 87],none⟩,⟨some 83,.mov,[.t 88],none⟩,⟨some 89,(.ext 0),[.t 83],none⟩,⟨some 90,(.ext 1),[.t 83],none⟩,⟨some 16,.mov,[.t 89],none⟩,⟨some 17,.mov,[.t 90],none⟩]
def Z1jj : List Z2b := [
 ⟨some 91,.mov,[.t 15],none⟩,⟨some 92,.mov,[.t 17],none⟩,⟨some 93,(.bin .eql),[.t 91,.t 92],none⟩,⟨some 94,.mov,[.t 93],none⟩,⟨some 95,.mov,[.t 14],some (94,true)⟩,⟨some 96,.mov,[.t 16],some (94,true)⟩,⟨some 97,(.call Zd0),[.t 95,.t 96],some (94,true)⟩,⟨some 98,.pick,[.t 94,.t 97,.c (.bool false)],none⟩,⟨some 8,.mov,[.t 98],none⟩]
def Z1jk : Z2z := ⟨99,(.seq (.region Z1iy [1,2,3,4]) (.seq (.seq (.region Z1iz [1,2,3,4,19]) (.cond (.t 19) (.seq (.region Z1j0 [8]) .ret) .skip)) (.seq (.seq (.region Z1j1 [1,2,3,4,36]) (.cond (.t 36) (.seq (.region Z1j2 [8]) .ret) .skip)) (.seq (.region Z1j3 [1,2,3,4,9]) (.seq (.seq (.region Z1j4 [1,2,3,4,9,10]) (.block 0 (.loop Z1ja))) (.seq (.region Z1jb [1,2,3,4,9,11]) (.seq (.seq (.region Z1jc [1,2,3,4,9,11,64]) (.cond (.t 64) (.seq (.region Z1jd [1,2,4,9,12,13]) (.seq (.seq (.region Z1je [1,2,4,9,12,73]) (.cond (.t 73) (.seq (.region Z1jf [8]) .ret) .skip)) (.region Z1jg [1,2,4,9,11]))) .skip)) (.seq (.region Z1jh [2,4,9,11,14,15]) (.seq (.region Z1ji [14,15,16,17]) (.seq (.region Z1jj [8]) .ret)))))))))),[.t 8]⟩
def Z1jl : List Z2b := [
 ⟨some 0,.mov,[.c (.bool false)],none⟩]
def Z1jm : List Z2b := [
 ⟨some 8,(.bsl 1),[.c (.str [97])],none⟩,⟨some 9,(.bld [(.int .i64 0),(.slc 0 [] true),(.slc 0 [] true),(.int .i64 0),(.int .i64 0),(.int .i64 0)] [(0,1)]),[.c (.int .i64 3)],none⟩,⟨some 10,(.bsl 6),[.t 9],none⟩,⟨some 11,(.bld [(.int .i64 0),(.slc 0 [] true),(.slc 0 [] true),(.int .i64 0),(.int .i64 0),(.int .i64 0)] [(0,1),(2,1)]),[.c (.int .i64 10),.t 10],none⟩,⟨some 12,(.bsl 6),[.t 11],none⟩,⟨some 13,(.bld [(.int .i64 0),(.slc 0 [] true),(.slc 0 [] true),(.int .i64 0),(.int .i64 0),(.int .i64 0)] [(0,1),(1,1),(2,1)]),[.c (.int .i64 12),.t 8,.t 12],none⟩,⟨some 1,(.alloc (.agg [(.int .i64 0),(.slc 0 [] true),(.slc 0 [] true),(.int .i64 0),(.int .i64 0),(.int .i64 0)])),[],none⟩,⟨none,(.store 6),[.t 1,.t 13],none⟩]
def Z1jn : List Z2b := [
 ⟨some 14,(.bld [(.bool false),(.int .i64 0),(.int .i64 0),(.slc 0 [] true),(.slc 0 [] true)] [(1,1)]),[.c (.int .i64 1)],none⟩,⟨some 15,(.bld [(.bool false),(.int .i64 0),(.int .i64 0),(.slc 0 [] true),(.slc 0 [] true)] [(0,1)]),[.c (.bool true)],none⟩,⟨some 16,(.bsl 5),[.t 14,.t 15],none⟩,⟨some 17,(.bld [(.bool false),(.int .i64 0),(.int .i64 0),(.slc 0 [] true),(.slc 0 [] true)] [(4,1)]),[.t 16],none⟩,⟨some 18,(.bsl 5),[.t 17],none⟩,⟨some 19,(.bld [(.bool false),(.int .i64 0),(.int .i64 0),(.slc 0 [] true),(.slc 0 [] true)] [(4,1)]),[.t 18],none⟩,⟨some 20,(.bld [(.bool false),(.int .i64 0),(.int .i64 0),(.slc 0 [] true),(.slc 0 [] true)] [(0,1)]),[.c (.bool true)],none⟩,⟨some 21,(.bsl 5),[.t 20],none⟩,⟨some 22,(.bld [(.bool false),(.int .i64 0),(.int .i64 0),(.slc 0 [] true),(.slc 0 [] true)] [(4,1)]),[.t 21],none⟩,⟨some 23,(.bsl 5),[.t 19,.t 22],none⟩,⟨some 2,.mov,[.t 23],none⟩]
def Z1jo : List Z2b := [
 ⟨some 25,(.load true 6),[.t 1],none⟩,⟨some 26,.mov,[.t 2],none⟩,⟨some 27,(.call Zct),[.t 25,.t 26],none⟩,⟨some 24,.mov,[.t 27],none⟩,⟨some 28,(.ext 0),[.t 24],none⟩,⟨some 29,(.ext 1),[.t 24],none⟩,⟨some 3,.mov,[.t 28],none⟩,⟨some 4,.mov,[.t 29],none⟩]
def Z1jp : List Z2b := [
 ⟨some 30,.mov,[.t 4],none⟩,⟨some 31,(.bin .neq),[.t 30,.c (.int .i64 0)],none⟩,⟨some 32,.mov,[.t 31],none⟩,⟨some 33,.mov,[.t 3],some (32,false)⟩,⟨some 34,.lens,[.t 33],some (32,false)⟩,⟨some 35,(.bin .neq),[.t 34,.c (.int .i64 3)],some (32,false)⟩,⟨some 36,.pick,[.t 32,.c (.bool true),.t 35],none⟩]
def Z1jq : List Z2b := [
 ⟨some 0,.mov,[.c (.bool false)],none⟩]
def Z1jr : List Z2b := [
 ⟨some 38,(.load true 6),[.t 1],none⟩,⟨some 39,.mov,[.t 3],none⟩,⟨some 40,(.call Zcz),[.t 38,.t 39,.c (.int .i64 2),.c (.slc 0 [] true)],none⟩,⟨some 37,.mov,[.t 40],none⟩,⟨some 41,(.ext 0),[.t 37],none⟩,⟨some 42,(.ext 1),[.t 37],none⟩,⟨some 5,.mov,[.t 41],none⟩,⟨some 6,.mov,[.t 42],none⟩]
def Z1js : List Z2b := [
 ⟨some 43,(.load true 6),[.t 1],none⟩,⟨some 44,(.call Zc2),[.t 43],none⟩,⟨some 45,.mov,[.t 3],none⟩,⟨some 46,(.call Zcx),[.t 44,.t 45,.c (.int .i64 2)],none⟩,⟨some 7,.mov,[.t 46],none⟩]
def Z1jt : List Z2b := [
 ⟨some 47,.mov,[.t 6],none⟩,⟨some 48,(.bin .eql),[.t 47,.c (.int .i64 0)],none⟩,⟨some 49,.mov,[.t 48],none⟩,⟨some 50,.mov,[.t 5],some (49,true)⟩,⟨some 51,.lens,[.t 50],some (49,true)⟩,⟨some 52,(.bin .eql),[.t 51,.c (.int .i64 2)],some (49,true)⟩,⟨some 53,.pick,[.t 49,.t 52,.c (.bool false)],none⟩,⟨some 54,.mov,[.t 53],none⟩,⟨some 55,.mov,[.t 5],some (54,true)⟩,⟨some 56,(.iad 5),[.t 55,.c (.int .i64 0)],some (54,true)⟩,⟨some 57,(.load true 5),[.t 56],some (54,true)⟩,⟨some 58,.mov,[.t 2],some (54,true)⟩,⟨some 59,(.iad 5),[.t 58,.c (.int .i64 0)],some (54,true)⟩,⟨some 60,(.load true 5),[.t 59],some (54,true)⟩,⟨some 61,(.call Zcc),[.t 57,.t 60],some (54,true)⟩,⟨some 62,.pick,[.t 54,.t 61,.c (.bool false)],none⟩,⟨some 63,.mov,[.t 62],none⟩,⟨some 64,.mov,[.t 5],some (63,true)⟩,⟨some 65,(.iad 5),[.t 64,.c (.int .i64 1)],some (63,true)⟩,⟨some 66,(.load true 5),[.t 65],some (63,true)⟩,⟨some 67,.mov,[.t 2],some (63,true)⟩,⟨some 68,(.iad 5),[.t 67,.c (.int .i64 1)],some (63,true)⟩,⟨some 69,(.load true 5),[.t 68],some (63,true)⟩,⟨some 70,(.call Zcc),[.t 66,.t 69],some (63,true)⟩,⟨some 71,.pick,[.t 63,.t 70,.c (.bool false)],none⟩,⟨some 72,.mov,[.t 71],none⟩,⟨some 73,.mov,[.t 7],some (72,true)⟩,⟨some 74,.lens,[.t 73],some (72,true)⟩,⟨some 75,(.bin .eql),[.t 74,.c (.int .i64 3)],some (72,true)⟩,⟨some 76,.pick,[.t 72,.t 75,.c (.bool false)],none⟩,⟨some 77,.mov,[.t 76],none⟩,⟨some 78,.mov,[.t 7],some (77,true)⟩,⟨some 79,(.iad 1),[.t 78,.c (.int .i64 2)],some (77,true)⟩,⟨some 80,(.load false 1),[.t 79],some (77,true)⟩,⟨some 81,(.bin .eql),[.t 80,.c (.int .i64 2)],some (77,true)⟩,⟨some 82,.pick,[.t 77,.t 81,.c (.bool false)],none⟩,⟨some 83,.mov,[.t 82],none⟩,⟨some 84,.mov,[.t 3],some (83,true)⟩,⟨some 85,(.iad 5),[.t 84,.c (.int .i64 1)],some (83,true)⟩,⟨some 86,(.load true 5),[.t 85],some (83,true)⟩,⟨some 87,(.call Zcv),[.t 86],some (83,true)⟩,⟨some 88,.pick,[.t 83,.t 87,.c (.bool false)],none⟩,⟨some 89,.mov,[.t 88],none⟩,⟨some 90,.mov,[.t 3],some (89,true)⟩,⟨some 91,(.iad 5),[.t 90,.c (.int .i64 0)],some (89,true)⟩,⟨some 92,(.load true 5),[.t 91],some (89,true)⟩,⟨some 93,(.call Zcv),[.t 92],some (89,true)⟩,⟨some 94,.unot,[.t 93],some (89,true)⟩,⟨some 95,.pick,[.t 89,.t 94,.c (.bool false)],none⟩,⟨some 96,.mov,[.t 95],none⟩,⟨some 97,.mov,[.t 3],some (96,true)⟩,⟨some 98,(.iad 5),[.t 97,.c (.int .i64 2)],some (96,true)⟩,⟨some 99,(.fad 1),[.t 98],some (96,true)⟩,⟨some 100,(.load false 1),[.t 99],some (96,true)⟩,⟨some 101,.lens,[.t 100],some (96,true)⟩,⟨some 102,(.bin .eql),[.t 101,.c (.int .i64 1)],some (96,true)⟩,⟨some 103,.pick,[.t 96,.t 102,.c (.bool false)],none⟩,⟨some 0,.mov,[.t 103],none⟩]
def Z1ju : Z2z := ⟨104,(.seq (.region Z1jl []) (.seq (.region Z1jm [1]) (.seq (.region Z1jn [1,2]) (.seq (.region Z1jo [1,2,3,4]) (.seq (.seq (.region Z1jp [1,2,3,36]) (.cond (.t 36) (.seq (.region Z1jq [0]) .ret) .skip)) (.seq (.region Z1jr [1,2,3,5,6]) (.seq (.region Z1js [2,3,5,6,7]) (.seq (.region Z1jt [0]) .ret)))))))),[.t 0]⟩
def Z1jv : List Z2b := [
 ⟨some 4,.mov,[.c (.bool false)],none⟩]
def Z1jw : List Z2b := [
 ⟨some 6,.mov,[.t 0],none⟩,⟨some 7,.lens,[.t 6],none⟩,⟨some 8,.mov,[.t 1],none⟩,⟨some 9,.lens,[.t 8],none⟩,⟨some 10,(.bin .neq),[.t 7,.t 9],none⟩]
def Z1jx : List Z2b := [
 ⟨some 4,.mov,[.c (.bool false)],none⟩]
def Z1jy : List Z2b := [
 ⟨some 5,.mov,[.c (.int .i64 0)],none⟩]
def Z1jz : List Z2b := [
 ⟨some 11,.mov,[.t 5],none⟩,⟨some 12,.mov,[.t 0],none⟩,⟨some 13,.lens,[.t 12],none⟩,⟨some 14,(.bin .lss),[.t 11,.t 13],none⟩]
def Z1k0 : List Z2b := [
 ⟨some 17,.mov,[.t 0],none⟩,⟨some 18,.mov,[.t 5],none⟩,⟨some 19,(.iad 5),[.t 17,.t 18],none⟩,⟨some 20,(.load true 5),[.t 19],none⟩,⟨some 21,.mov,[.t 1],none⟩,⟨some 22,.mov,[.t 5],none⟩,⟨some 23,(.iad 5),[.t 21,.t 22],none⟩,⟨some 24,(.load true 5),[.t 23],none⟩,⟨some 25,(.call Zcc),[.t 20,.t 24],none⟩,⟨some 26,.unot,[.t 25],none⟩]
def Z1k1 : List Z2b := [
 ⟨some 4,.mov,[.c (.bool false)],none⟩]
def Z1k2 : List Z2b := [
 ⟨some 15,.mov,[.t 5],none⟩,⟨some 16,(.bin .add),[.t 15,.c (.int .i64 1)],none⟩,⟨some 5,.mov,[.t 16],none⟩]
def Z1k3 : Z2c := (.seq (.seq (.region Z1jz [0,1,5,14]) (.cond (.t 14) .skip (.exit 0))) (.seq (.block 1 (.seq (.region Z1k0 [0,1,5,26]) (.cond (.t 26) (.seq (.region Z1k1 [4]) .ret) .skip))) (.region Z1k2 [0,1,5])))
def Z1k4 : List Z2b := [
 ⟨some 4,.mov,[.c (.bool true)],none⟩]
def Z1k5 : Z2z := ⟨27,(.seq (.region Z1jv [0,1]) (.seq (.seq (.region Z1jw [0,1,10]) (.cond (.t 10) (.seq (.region Z1jx [4]) .ret) .skip)) (.seq (.seq (.region Z1jy [0,1,5]) (.block 0 (.loop Z1k3))) (.seq (.region Z1k4 [4]) .ret)))),[.t 4]⟩
end Go.Abs
namespace Go.Abs
open Go Go.Proofs
theorem Z1k6 : Z30 Try.prog [] Zct = some Z1i0.erase := by kernel_rfl
theorem Z1k7 : Z30 Try.prog [(13, 8), (13, 7)] Ze4 = some Z1ix.erase := by kernel_rfl
theorem Z1k8 : Z30 Try.prog [] Zbs = some Z1jk.erase := by kernel_rfl
theorem Z1k9 : Z30 Try.prog [] Zcs = some Z1ju.erase := by kernel_rfl
theorem Z1ka : Z30 Try.prog [] Zd0 = some Z1k5.erase := by kernel_rfl
end Go.Abs
namespace Go.Abs
open Go Go.Proofs
attribute [local irreducible] AWp aops KP
theorem Z1h6 {c : Z2c} {R R' : Z8i} (hR : ∀ F σ, R .normal F σ = AWp Try.prog Z1ix.n c R' F σ) (b at_ : Nat) (ws : List Z0) (w : Z0) (hw : ws[at_]? = some w) (C : Col) (β : Zc) (hG : ColG w C β) (hl : C.here.length ≤ 16384)
  (v : Vl) (W M : Z0) (ρ : Zc)
  (h : ∀ w' β', ColG w' (Zry (!v.null) C) β' → AWp Try.prog Z1ix.n c R' (fset 0 (some W) (fset 5 (some (.iptr (Zmh v))) (fset 7 (some (.ptr b at_ 0)) (fset 8 (some M) Z28)))) ((b, .cells 5 (ws.set at_ w')) :: (β' ++ ρ))) :
  AWp Try.prog Z1ix.n (.region Z1i5 [0, 5, 7, 8]) R (fset 0 (some W) (fset 5 (some (.iptr (Zmh v))) (fset 7 (some (.ptr b at_ 0)) (fset 8 (some M) Z28)))) ((b, .cells 5 ws) :: (β ++ ρ)) := by
 obtain ⟨v1, v2, v3, v4, v5, β1, β2, β3, β4, β5, rfl, g1, g2, g3, g4, g5, rfl⟩ := hG
 refine Z8l (FSub.refl _) (show HSub (β1 ++ ((b, .cells 5 ws) :: (([]) ++ (β2 ++ (β3 ++ (β4 ++ (β5 ++ (ρ)))))))) ((b, .cells 5 ws) :: ((β1 ++ (β2 ++ (β3 ++ (β4 ++ β5)))) ++ ρ)) from by
  have := @Zsk b (.cells 5 ws) ([]) β1 (β2 ++ (β3 ++ (β4 ++ (β5 ++ (ρ)))))
  simpa [List.append_assoc] using this) ?_
 refine Z8k fun nd => ?_
 refine Zb1 hR ?_
 repeat refine Kq rfl rfl rfl ?_
 refine Z9c rfl (Zrv nd) hw rfl ?_
 repeat refine Kq rfl rfl rfl ?_
 refine Zb6 g1 rfl (ys := [.bool (!v.null)]) rfl (by rw [List.length_singleton]; simp only [Zrr, List.length_map]; omega) fun b' hb' => ?_
 have hne : b' ≠ b := fun e => hb' (by rw [e]; simp [Zh])
 repeat refine Kq rfl rfl rfl ?_
 refine Z9g rfl (Z9b hne Z9a) hw (by decide) (Kfi rfl) (fun h => by cases h) (Z9i hne Z9h) ?_
 (refine Z99 ?_; (repeat(first|refine Z9x rfl ?_|refine Z9y ?_)); refine Z9w ?_)
 have e : List.map Z0.bool (C.here) ++ [.bool (!v.null)] = List.map Z0.bool ((Zry (!v.null) C).here) := by simp [Zry]
 rw [e]
 refine Z8l (FSub.refl _) (show HSub ((b, .cells 5 (ws.set at_ (.agg [(.arr 1 b' 0 (List.map Z0.bool ((Zry (!v.null) C).here)).length), v2, v3, v4, v5]))) :: (([(b', .cells 1 (List.map Z0.bool ((Zry (!v.null) C).here)))] ++ (β2 ++ (β3 ++ (β4 ++ β5)))) ++ ρ)) ((b', .cells 1 (List.map Z0.bool ((Zry (!v.null) C).here))) :: (b, .cells 5 (ws.set at_ (.agg [(.arr 1 b' 0 (List.map Z0.bool ((Zry (!v.null) C).here)).length), v2, v3, v4, v5]))) :: (([]) ++ (β2 ++ (β3 ++ (β4 ++ (β5 ++ (ρ))))))) from by
  have := @Zsl b (.cells 5 (ws.set at_ (.agg [(.arr 1 b' 0 (List.map Z0.bool ((Zry (!v.null) C).here)).length), v2, v3, v4, v5]))) ([]) [(b', .cells 1 (List.map Z0.bool ((Zry (!v.null) C).here)))] (β2 ++ (β3 ++ (β4 ++ (β5 ++ (ρ)))))
  simpa [List.append_assoc] using this) ?_
 exact h _ _ ⟨_, _, _, _, _, [(b', .cells 1 (List.map Z0.bool ((Zry (!v.null) C).here)))], β2, β3, β4, β5, rfl, Zb5.mk, g2, g3, g4, g5, rfl⟩
theorem Z1h7 {c : Z2c} {R R' : Z8i} (hR : ∀ F σ, R .normal F σ = AWp Try.prog Z1ix.n c R' F σ) (b at_ : Nat) (ws : List Z0) (w : Z0) (hw : ws[at_]? = some w) (C : Col) (β : Zc) (hG : ColG w C β) (hl : C.ints.length ≤ 16384)
  (v : Vl) (W M H : Z0) (ρ : Zc)
  (h : ∀ w' β', ColG w' ({ C with ints := C.ints ++ [v.i] }) β' → AWp Try.prog Z1ix.n c R' (fset 0 (some W) (fset 5 (some (.iptr (Zmh v))) (fset 7 (some (.ptr b at_ 0)) (fset 8 (some M) (fset 9 (some H) Z28))))) ((b, .cells 5 (ws.set at_ w')) :: (β' ++ ρ))) :
  AWp Try.prog Z1ix.n (.region Z1ia [0, 5, 7, 8, 9]) R (fset 0 (some W) (fset 5 (some (.iptr (Zmh v))) (fset 7 (some (.ptr b at_ 0)) (fset 8 (some M) (fset 9 (some H) Z28))))) ((b, .cells 5 ws) :: (β ++ ρ)) := by
 obtain ⟨v1, v2, v3, v4, v5, β1, β2, β3, β4, β5, rfl, g1, g2, g3, g4, g5, rfl⟩ := hG
 refine Z8l (FSub.refl _) (show HSub (β2 ++ ((b, .cells 5 ws) :: ((β1) ++ (β3 ++ (β4 ++ (β5 ++ (ρ))))))) ((b, .cells 5 ws) :: ((β1 ++ (β2 ++ (β3 ++ (β4 ++ β5)))) ++ ρ)) from by
  have := @Zsk b (.cells 5 ws) (β1) β2 (β3 ++ (β4 ++ (β5 ++ (ρ))))
  simpa [List.append_assoc] using this) ?_
 refine Z8k fun nd => ?_
 refine Zb1 hR ?_
 repeat refine Kq rfl rfl rfl ?_
 refine Z9c rfl (Zrv nd) hw rfl ?_
 repeat refine Kq rfl rfl rfl ?_
 refine Zb6 g2 rfl (ys := [.int .i64 v.i]) rfl (by rw [List.length_singleton]; simp only [Zrr, List.length_map]; omega) fun b' hb' => ?_
 have hne : b' ≠ b := fun e => hb' (by rw [e]; simp [Zh])
 repeat refine Kq rfl rfl rfl ?_
 refine Z9g rfl (Z9b hne Z9a) hw (by decide) (Kfi rfl) (fun h => by cases h) (Z9i hne Z9h) ?_
 (refine Z99 ?_; (repeat(first|refine Z9x rfl ?_|refine Z9y ?_)); refine Z9w ?_)
 have e : List.map (Z0.int .i64) (C.ints) ++ [.int .i64 v.i] = List.map (Z0.int .i64) ({ C with ints := C.ints ++ [v.i] }.ints) := by simp
 rw [e]
 refine Z8l (FSub.refl _) (show HSub ((b, .cells 5 (ws.set at_ (.agg [v1, (.arr 1 b' 0 (List.map (Z0.int .i64) ({ C with ints := C.ints ++ [v.i] }.ints)).length), v3, v4, v5]))) :: ((β1 ++ ([(b', .cells 1 (List.map (Z0.int .i64) ({ C with ints := C.ints ++ [v.i] }.ints)))] ++ (β3 ++ (β4 ++ β5)))) ++ ρ)) ((b', .cells 1 (List.map (Z0.int .i64) ({ C with ints := C.ints ++ [v.i] }.ints))) :: (b, .cells 5 (ws.set at_ (.agg [v1, (.arr 1 b' 0 (List.map (Z0.int .i64) ({ C with ints := C.ints ++ [v.i] }.ints)).length), v3, v4, v5]))) :: ((β1) ++ (β3 ++ (β4 ++ (β5 ++ (ρ)))))) from by
  have := @Zsl b (.cells 5 (ws.set at_ (.agg [v1, (.arr 1 b' 0 (List.map (Z0.int .i64) ({ C with ints := C.ints ++ [v.i] }.ints)).length), v3, v4, v5]))) (β1) [(b', .cells 1 (List.map (Z0.int .i64) ({ C with ints := C.ints ++ [v.i] }.ints)))] (β3 ++ (β4 ++ (β5 ++ (ρ))))
  simpa [List.append_assoc] using this) ?_
 exact h _ _ ⟨_, _, _, _, _, β1, [(b', .cells 1 (List.map (Z0.int .i64) ({ C with ints := C.ints ++ [v.i] }.ints)))], β3, β4, β5, rfl, g1, Zb5.mk, g3, g4, g5, rfl⟩
theorem Z1h8 {c : Z2c} {R R' : Z8i} (hR : ∀ F σ, R .normal F σ = AWp Try.prog Z1ix.n c R' F σ) (b at_ : Nat) (ws : List Z0) (w : Z0) (hw : ws[at_]? = some w) (C : Col) (β : Zc) (hG : ColG w C β) (hl : C.ns.length ≤ 16384)
  (v : Vl) (W M H : Z0) (ρ : Zc)
  (h : ∀ w' β', ColG w' ({ C with ns := C.ns ++ [v.n] }) β' → AWp Try.prog Z1ix.n c R' (fset 0 (some W) (fset 5 (some (.iptr (Zmh v))) (fset 7 (some (.ptr b at_ 0)) (fset 8 (some M) (fset 9 (some H) Z28))))) ((b, .cells 5 (ws.set at_ w')) :: (β' ++ ρ))) :
  AWp Try.prog Z1ix.n (.region Z1ic [0, 5, 7, 8, 9]) R (fset 0 (some W) (fset 5 (some (.iptr (Zmh v))) (fset 7 (some (.ptr b at_ 0)) (fset 8 (some M) (fset 9 (some H) Z28))))) ((b, .cells 5 ws) :: (β ++ ρ)) := by
 obtain ⟨v1, v2, v3, v4, v5, β1, β2, β3, β4, β5, rfl, g1, g2, g3, g4, g5, rfl⟩ := hG
 refine Z8l (FSub.refl _) (show HSub (β3 ++ ((b, .cells 5 ws) :: ((β1 ++ β2) ++ (β4 ++ (β5 ++ (ρ)))))) ((b, .cells 5 ws) :: ((β1 ++ (β2 ++ (β3 ++ (β4 ++ β5)))) ++ ρ)) from by
  have := @Zsk b (.cells 5 ws) (β1 ++ β2) β3 (β4 ++ (β5 ++ (ρ)))
  simpa [List.append_assoc] using this) ?_
 refine Z8k fun nd => ?_
 refine Zb1 hR ?_
 repeat refine Kq rfl rfl rfl ?_
 refine Z9c rfl (Zrv nd) hw rfl ?_
 repeat refine Kq rfl rfl rfl ?_
 refine Zb6 g3 rfl (ys := [.int .i64 v.n]) rfl (by rw [List.length_singleton]; simp only [Zrr, List.length_map]; omega) fun b' hb' => ?_
 have hne : b' ≠ b := fun e => hb' (by rw [e]; simp [Zh])
 repeat refine Kq rfl rfl rfl ?_
 refine Z9g rfl (Z9b hne Z9a) hw (by decide) (Kfi rfl) (fun h => by cases h) (Z9i hne Z9h) ?_
 (refine Z99 ?_; (repeat(first|refine Z9x rfl ?_|refine Z9y ?_)); refine Z9w ?_)
 have e : List.map (Z0.int .i64) (C.ns) ++ [.int .i64 v.n] = List.map (Z0.int .i64) ({ C with ns := C.ns ++ [v.n] }.ns) := by simp
 rw [e]
 refine Z8l (FSub.refl _) (show HSub ((b, .cells 5 (ws.set at_ (.agg [v1, v2, (.arr 1 b' 0 (List.map (Z0.int .i64) ({ C with ns := C.ns ++ [v.n] }.ns)).length), v4, v5]))) :: ((β1 ++ (β2 ++ ([(b', .cells 1 (List.map (Z0.int .i64) ({ C with ns := C.ns ++ [v.n] }.ns)))] ++ (β4 ++ β5)))) ++ ρ)) ((b', .cells 1 (List.map (Z0.int .i64) ({ C with ns := C.ns ++ [v.n] }.ns))) :: (b, .cells 5 (ws.set at_ (.agg [v1, v2, (.arr 1 b' 0 (List.map (Z0.int .i64) ({ C with ns := C.ns ++ [v.n] }.ns)).length), v4, v5]))) :: ((β1 ++ β2) ++ (β4 ++ (β5 ++ (ρ))))) from by
  have := @Zsl b (.cells 5 (ws.set at_ (.agg [v1, v2, (.arr 1 b' 0 (List.map (Z0.int .i64) ({ C with ns := C.ns ++ [v.n] }.ns)).length), v4, v5]))) (β1 ++ β2) [(b', .cells 1 (List.map (Z0.int .i64) ({ C with ns := C.ns ++ [v.n] }.ns)))] (β4 ++ (β5 ++ (ρ)))
  simpa [List.append_assoc] using this) ?_
 exact h _ _ ⟨_, _, _, _, _, β1, β2, [(b', .cells 1 (List.map (Z0.int .i64) ({ C with ns := C.ns ++ [v.n] }.ns)))], β4, β5, rfl, g1, g2, Zb5.mk, g4, g5, rfl⟩
theorem Z1h9 {c : Z2c} {R R' : Z8i} (hR : ∀ F σ, R .normal F σ = AWp Try.prog Z1ix.n c R' F σ) (b at_ : Nat) (ws : List Z0) (w : Z0) (hw : ws[at_]? = some w) (C : Col) (β : Zc) (hG : ColG w C β) (hl : C.texts.length ≤ 16384)
  (v : Vl) (hb : v.b.length ≤ 4096) (W M H : Z0) (ρ : Zc)
  (h : ∀ w' β', ColG w' ({ C with texts := C.texts ++ [v.b] }) β' → AWp Try.prog Z1ix.n c R' (fset 0 (some W) (fset 5 (some (.iptr (Zmh v))) (fset 7 (some (.ptr b at_ 0)) (fset 8 (some M) (fset 9 (some H) Z28))))) ((b, .cells 5 (ws.set at_ w')) :: (β' ++ ρ))) :
  AWp Try.prog Z1ix.n (.region Z1ie [0, 5, 7, 8, 9]) R (fset 0 (some W) (fset 5 (some (.iptr (Zmh v))) (fset 7 (some (.ptr b at_ 0)) (fset 8 (some M) (fset 9 (some H) Z28))))) ((b, .cells 5 ws) :: (β ++ ρ)) := by
 obtain ⟨v1, v2, v3, v4, v5, β1, β2, β3, β4, β5, rfl, g1, g2, g3, g4, g5, rfl⟩ := hG
 refine Z8l (FSub.refl _) (show HSub (β4 ++ ((b, .cells 5 ws) :: ((β1 ++ β2 ++ β3) ++ (β5 ++ (ρ))))) ((b, .cells 5 ws) :: ((β1 ++ (β2 ++ (β3 ++ (β4 ++ β5)))) ++ ρ)) from by
  have := @Zsk b (.cells 5 ws) (β1 ++ β2 ++ β3) β4 (β5 ++ (ρ))
  simpa [List.append_assoc] using this) ?_
 refine Z8k fun nd => ?_
 refine Zb1 hR ?_
 repeat refine Kq rfl rfl rfl ?_
 refine Z9c rfl (Zrv nd) hw rfl ?_
 repeat refine Kq rfl rfl rfl ?_
 refine Zb9 rfl (Zr7 (bytes v.b) false (fun x hx => by obtain ⟨y, _, rfl⟩ := List.mem_map.1 hx; exact ⟨rfl, by simp [Zx, Z0.cells, Z0.one]⟩) (by rw [Zac]; omega)) ?_
 refine Zb9 rfl (fun σ => Z23.le (Zr4 (bytes v.b) false σ) VRle.full) ?_
 repeat refine Kq rfl rfl rfl ?_
 refine Zb6 g4 rfl (ys := [.slc 1 (bytes v.b) false]) rfl (by rw [List.length_singleton]; simp only [Zrr, List.length_map]; omega) fun b' hb' => ?_
 have hne : b' ≠ b := fun e => hb' (by rw [e]; simp [Zh])
 repeat refine Kq rfl rfl rfl ?_
 refine Z9g rfl (Z9b hne Z9a) hw (by decide) (Kfi rfl) (fun h => by cases h) (Z9i hne Z9h) ?_
 (refine Z99 ?_; (repeat(first|refine Z9x rfl ?_|refine Z9y ?_)); refine Z9w ?_)
 have e : Zrr (C.texts) ++ [.slc 1 (bytes v.b) false] = Zrr ({ C with texts := C.texts ++ [v.b] }.texts) := by simp [Zrr]
 rw [e]
 refine Z8l (FSub.refl _) (show HSub ((b, .cells 5 (ws.set at_ (.agg [v1, v2, v3, (.arr 1 b' 0 (Zrr ({ C with texts := C.texts ++ [v.b] }.texts)).length), v5]))) :: ((β1 ++ (β2 ++ (β3 ++ ([(b', .cells 1 (Zrr ({ C with texts := C.texts ++ [v.b] }.texts)))] ++ β5)))) ++ ρ)) ((b', .cells 1 (Zrr ({ C with texts := C.texts ++ [v.b] }.texts))) :: (b, .cells 5 (ws.set at_ (.agg [v1, v2, v3, (.arr 1 b' 0 (Zrr ({ C with texts := C.texts ++ [v.b] }.texts)).length), v5]))) :: ((β1 ++ β2 ++ β3) ++ (β5 ++ (ρ)))) from by
  have := @Zsl b (.cells 5 (ws.set at_ (.agg [v1, v2, v3, (.arr 1 b' 0 (Zrr ({ C with texts := C.texts ++ [v.b] }.texts)).length), v5]))) (β1 ++ β2 ++ β3) [(b', .cells 1 (Zrr ({ C with texts := C.texts ++ [v.b] }.texts)))] (β5 ++ (ρ))
  simpa [List.append_assoc] using this) ?_
 exact h _ _ ⟨_, _, _, _, _, β1, β2, β3, [(b', .cells 1 (Zrr ({ C with texts := C.texts ++ [v.b] }.texts)))], β5, rfl, g1, g2, g3, Zb5.mk, g5, rfl⟩
theorem Z1ha {c : Z2c} {R R' : Z8i} (hR : ∀ F σ, R .normal F σ = AWp Try.prog Z1ix.n c R' F σ) (b at_ : Nat) (ws : List Z0) (w : Z0) (hw : ws[at_]? = some w) (C : Col) (β : Zc) (hG : ColG w C β) (hl : C.lens.length ≤ 16384)
  (v : Vl) (hk : v.kids.length ≤ 9223372036854775807) (k1 n0 n2 n3 n4 n5 n6 n7 : Z0) (W : Z0) (ρ : Zc)
  (h : ∀ w' β', ColG w' ({ C with lens := C.lens ++ [(v.kids.length : Int)] }) β' → AWp Try.prog Z1ix.n c R' (fset 0 (some W) (fset 5 (some (.iptr (Zmh v))) (fset 8 (some (.iptr [n0, .slc 1 [k1] true, n2, n3, n4, n5, n6, n7])) Z28))) ((b, .cells 5 (ws.set at_ w')) :: (β' ++ ρ))) :
  AWp Try.prog Z1ix.n (.region Z1ig [0, 5, 8]) R (fset 0 (some W) (fset 5 (some (.iptr (Zmh v))) (fset 7 (some (.ptr b at_ 0)) (fset 8 (some (.iptr [n0, .slc 1 [k1] true, n2, n3, n4, n5, n6, n7])) Z28)))) ((b, .cells 5 ws) :: (β ++ ρ)) := by
 obtain ⟨v1, v2, v3, v4, v5, β1, β2, β3, β4, β5, rfl, g1, g2, g3, g4, g5, rfl⟩ := hG
 refine Z8l (FSub.refl _) (show HSub (β5 ++ ((b, .cells 5 ws) :: ((β1 ++ β2 ++ β3 ++ β4) ++ (ρ)))) ((b, .cells 5 ws) :: ((β1 ++ (β2 ++ (β3 ++ (β4 ++ β5)))) ++ ρ)) from by
  have := @Zsk b (.cells 5 ws) (β1 ++ β2 ++ β3 ++ β4) β5 (ρ)
  simpa [List.append_assoc] using this) ?_
 refine Z8k fun nd => ?_
 refine Zb1 hR ?_
 repeat refine Kq rfl rfl rfl ?_
 refine Z9c rfl (Zrv nd) hw rfl ?_
 repeat refine Kq rfl rfl rfl ?_
 refine Zb6 g5 rfl (ys := [.int .i64 (IntKind.wrap .i64 (((Zmg v.kids).length : Int).tdiv 1))]) rfl (by rw [List.length_singleton]; simp only [Zrr, List.length_map]; omega) fun b' hb' => ?_
 have hne : b' ≠ b := fun e => hb' (by rw [e]; simp [Zh])
 repeat refine Kq rfl rfl rfl ?_
 refine Z9g rfl (Z9b hne Z9a) hw (by decide) (Kfi rfl) (fun h => by cases h) (Z9i hne Z9h) ?_
 (refine Z99 ?_; (repeat(first|refine Z9x rfl ?_|refine Z9y ?_)); refine Z9w ?_)
 have e : List.map (Z0.int .i64) (C.lens) ++ [.int .i64 (IntKind.wrap .i64 (((Zmg v.kids).length : Int).tdiv 1))] = List.map (Z0.int .i64) ({ C with lens := C.lens ++ [(v.kids.length : Int)] }.lens) := by rw [Zmk, show IntKind.wrap .i64 ((v.kids.length : Int).tdiv 1) = (v.kids.length : Int) by rw [Int.tdiv_one, w64 _ (by omega) (by omega)]]; simp
 rw [e]
 refine Z8l (FSub.refl _) (show HSub ((b, .cells 5 (ws.set at_ (.agg [v1, v2, v3, v4, (.arr 1 b' 0 (List.map (Z0.int .i64) ({ C with lens := C.lens ++ [(v.kids.length : Int)] }.lens)).length)]))) :: ((β1 ++ (β2 ++ (β3 ++ (β4 ++ [(b', .cells 1 (List.map (Z0.int .i64) ({ C with lens := C.lens ++ [(v.kids.length : Int)] }.lens)))])))) ++ ρ)) ((b', .cells 1 (List.map (Z0.int .i64) ({ C with lens := C.lens ++ [(v.kids.length : Int)] }.lens))) :: (b, .cells 5 (ws.set at_ (.agg [v1, v2, v3, v4, (.arr 1 b' 0 (List.map (Z0.int .i64) ({ C with lens := C.lens ++ [(v.kids.length : Int)] }.lens)).length)]))) :: ((β1 ++ β2 ++ β3 ++ β4) ++ (ρ))) from by
  have := @Zsl b (.cells 5 (ws.set at_ (.agg [v1, v2, v3, v4, (.arr 1 b' 0 (List.map (Z0.int .i64) ({ C with lens := C.lens ++ [(v.kids.length : Int)] }.lens)).length)]))) (β1 ++ β2 ++ β3 ++ β4) [(b', .cells 1 (List.map (Z0.int .i64) ({ C with lens := C.lens ++ [(v.kids.length : Int)] }.lens)))] (ρ)
  simpa [List.append_assoc] using this) ?_
 exact h _ _ ⟨_, _, _, _, _, β1, β2, β3, β4, [(b', .cells 1 (List.map (Z0.int .i64) ({ C with lens := C.lens ++ [(v.kids.length : Int)] }.lens)))], rfl, g1, g2, g3, g4, Zb5.mk, rfl⟩
theorem Z1hb {c : Z2c} {R R' : Z8i} (hR : ∀ F σ, R .normal F σ = AWp Try.prog Z1ix.n c R' F σ) (b at_ : Nat) (ws : List Z0) (w : Z0) (hw : ws[at_]? = some w) (C : Col) (β : Zc) (hG : ColG w C β) (hl : C.lens.length ≤ 16384)
  (v : Vl) (hk : v.kids.length ≤ 9223372036854775807) (k1 k2 n0 n2 n3 n4 n5 n6 n7 : Z0) (W : Z0) (ρ : Zc)
  (h : ∀ w' β', ColG w' ({ C with lens := C.lens ++ [((v.kids.length / 2 : Nat) : Int)] }) β' → AWp Try.prog Z1ix.n c R' (fset 0 (some W) (fset 5 (some (.iptr (Zmh v))) (fset 8 (some (.iptr [n0, .slc 1 [k1, k2] true, n2, n3, n4, n5, n6, n7])) Z28))) ((b, .cells 5 (ws.set at_ w')) :: (β' ++ ρ))) :
  AWp Try.prog Z1ix.n (.region Z1ig [0, 5, 8]) R (fset 0 (some W) (fset 5 (some (.iptr (Zmh v))) (fset 7 (some (.ptr b at_ 0)) (fset 8 (some (.iptr [n0, .slc 1 [k1, k2] true, n2, n3, n4, n5, n6, n7])) Z28)))) ((b, .cells 5 ws) :: (β ++ ρ)) := by
 obtain ⟨v1, v2, v3, v4, v5, β1, β2, β3, β4, β5, rfl, g1, g2, g3, g4, g5, rfl⟩ := hG
 refine Z8l (FSub.refl _) (show HSub (β5 ++ ((b, .cells 5 ws) :: ((β1 ++ β2 ++ β3 ++ β4) ++ (ρ)))) ((b, .cells 5 ws) :: ((β1 ++ (β2 ++ (β3 ++ (β4 ++ β5)))) ++ ρ)) from by
  have := @Zsk b (.cells 5 ws) (β1 ++ β2 ++ β3 ++ β4) β5 (ρ)
  simpa [List.append_assoc] using this) ?_
 refine Z8k fun nd => ?_
 refine Zb1 hR ?_
 repeat refine Kq rfl rfl rfl ?_
 refine Z9c rfl (Zrv nd) hw rfl ?_
 repeat refine Kq rfl rfl rfl ?_
 refine Zb6 g5 rfl (ys := [.int .i64 (IntKind.wrap .i64 (((Zmg v.kids).length : Int).tdiv 2))]) rfl (by rw [List.length_singleton]; simp only [Zrr, List.length_map]; omega) fun b' hb' => ?_
 have hne : b' ≠ b := fun e => hb' (by rw [e]; simp [Zh])
 repeat refine Kq rfl rfl rfl ?_
 refine Z9g rfl (Z9b hne Z9a) hw (by decide) (Kfi rfl) (fun h => by cases h) (Z9i hne Z9h) ?_
 (refine Z99 ?_; (repeat(first|refine Z9x rfl ?_|refine Z9y ?_)); refine Z9w ?_)
 have e : List.map (Z0.int .i64) (C.lens) ++ [.int .i64 (IntKind.wrap .i64 (((Zmg v.kids).length : Int).tdiv 2))] = List.map (Z0.int .i64) ({ C with lens := C.lens ++ [((v.kids.length / 2 : Nat) : Int)] }.lens) := by rw [Zmk, quo2 _ hk]; simp
 rw [e]
 refine Z8l (FSub.refl _) (show HSub ((b, .cells 5 (ws.set at_ (.agg [v1, v2, v3, v4, (.arr 1 b' 0 (List.map (Z0.int .i64) ({ C with lens := C.lens ++ [((v.kids.length / 2 : Nat) : Int)] }.lens)).length)]))) :: ((β1 ++ (β2 ++ (β3 ++ (β4 ++ [(b', .cells 1 (List.map (Z0.int .i64) ({ C with lens := C.lens ++ [((v.kids.length / 2 : Nat) : Int)] }.lens)))])))) ++ ρ)) ((b', .cells 1 (List.map (Z0.int .i64) ({ C with lens := C.lens ++ [((v.kids.length / 2 : Nat) : Int)] }.lens))) :: (b, .cells 5 (ws.set at_ (.agg [v1, v2, v3, v4, (.arr 1 b' 0 (List.map (Z0.int .i64) ({ C with lens := C.lens ++ [((v.kids.length / 2 : Nat) : Int)] }.lens)).length)]))) :: ((β1 ++ β2 ++ β3 ++ β4) ++ (ρ))) from by
  have := @Zsl b (.cells 5 (ws.set at_ (.agg [v1, v2, v3, v4, (.arr 1 b' 0 (List.map (Z0.int .i64) ({ C with lens := C.lens ++ [((v.kids.length / 2 : Nat) : Int)] }.lens)).length)]))) (β1 ++ β2 ++ β3 ++ β4) [(b', .cells 1 (List.map (Z0.int .i64) ({ C with lens := C.lens ++ [((v.kids.length / 2 : Nat) : Int)] }.lens)))] (ρ)
  simpa [List.append_assoc] using this) ?_
 exact h _ _ ⟨_, _, _, _, _, β1, β2, β3, β4, [(b', .cells 1 (List.map (Z0.int .i64) ({ C with lens := C.lens ++ [((v.kids.length / 2 : Nat) : Int)] }.lens)))], rfl, g1, g2, g3, g4, Zb5.mk, rfl⟩
end Go.Abs
namespace Go.Abs
open Go Go.Proofs
attribute [local irreducible] AWp aops KP
theorem Z1kb (l : List Nd) : ∀ (v : Vl), v.Fit → ∀ (t : Ty) (at_ : Nat), At l at_ t → t.Ok → vchk t v = 0 → ∀ (ws : List Z0) (cs : List Col) (β : Zc) (b : Nat) (σ : Zc), Zrs ws cs β → cs.length = l.length → cs.length ≤ 1000 → (∀ c ∈ cs, c.Sm) →
  Z1s Try.prog Ze4 [.iptr [.slc 8 (l.map encN) true, .arr 5 b 0 cs.length], .int .i64 (at_ : Int), encV v] ((b, .cells 5 ws) :: (β ++ σ)) fun r σ' => ∃ ws' β', Zrs ws' (putF l at_ v cs).1 β' ∧ r = .bool (putF l at_ v cs).2 ∧ σ' = (b, .cells 5 ws') :: (β' ++ σ) := by
 refine Vl.ind fun nu i n bs vks ih hfit t at_ hAt hok hchk ws cs β b σ hG hlen h1000 hSm => ?_
 cases hfit with
 | mk hi hbl hkl hkids =>
 have hatl := hAt.lt
 cases hAt with
 | @mk _ _ nd hnd ht hkn hkds =>
 have hat : at_ < cs.length := by omega
 have hwl : at_ < ws.length := by rw [hG.len]; exact hat
 obtain ⟨w, hw⟩ : ∃ w, ws[at_]? = some w := ⟨_, List.getElem?_eq_getElem hwl⟩
 obtain ⟨c, hc⟩ : ∃ c, cs[at_]? = some c := ⟨_, List.getElem?_eq_getElem hat⟩
 have hcSm := hSm c (List.mem_of_getElem? hc)
 have hcD : cs.getD at_ col0 = c := by rw [List.getD_eq_getElem?_getD, hc, Option.getD_some]
 have hnd' : (l.map encN)[((at_ : Nat) : Int).toNat]? = some (encN nd) := by rw [Int.toNat_natCast, List.getElem?_map, hnd]; rfl
 obtain ⟨β1, γ, hC, hperm, hback⟩ := hG.pick at_ w c hw hc
 rw [Zmi]
 generalize hX : putF l at_ (.mk nu i n bs vks) cs = X
 rw [putF, hcD] at hX
 refine Z94 rfl Z1k7 (Nat.le_of_ble_eq_true rfl) ?_
 refine Za1 ?_
 refine Z9n rfl (Kfi rfl) fun b7 hb7 => ?_
 repeat refine Kq rfl rfl rfl ?_
 (refine Z99 ?_; (repeat(first|refine Z9x rfl ?_|refine Z9y ?_)); refine Z9w ?_)
 refine Zaj (d := 5) (cs := Zmh (.mk nu i n bs vks)) rfl ?_
 refine Za1 ?_
 repeat refine Kq rfl rfl rfl ?_
 refine Z9e rfl ⟨by omega, by omega⟩ ?_
 rw [show 0 + ((at_ : Nat) : Int).toNat = at_ from by simp]
 repeat refine Kq rfl rfl rfl ?_
 refine Z9d rfl (by omega) hnd' ?_
 repeat refine Kq rfl rfl rfl ?_
 refine Z9o (by simp [Z0.cells, Z0.one]) fun b8 hb8 => ?_
 repeat refine Kq rfl rfl rfl ?_
 (first|refine Z9g rfl Z9a rfl (by decide) (Kfi rfl) (fun h => by cases h) Z9h ?_|refine Z96 rfl (Z9g rfl Z9a rfl (by decide) (Kfi rfl) (fun h => by cases h) Z9h ?_))
 (refine Z99 ?_; (repeat(first|refine Z9x rfl ?_|refine Z9y ?_)); refine Z9w ?_)
 refine Zaj (d := 8) (cs := Zmd nd) rfl ?_
 (refine Za0 (keep := [0, 5, 7, 8]) ?_; ((repeat(first|refine Z9x rfl ?_|refine Z9y ?_)); refine Z9w ?_))
 have hp1 : HSub ((b, .cells 5 ws) :: (β1 ++ (γ ++ σ))) ((b, .cells 5 ws) :: (β ++ σ)) := HSub.of_perm (List.Perm.cons _ (by rw [← List.append_assoc]; exact (hperm.symm).append_right σ))
 have hp2 : HSub ((b, .cells 5 ws) :: (β ++ σ)) ((b, .cells 5 ws) :: (β1 ++ (γ ++ σ))) := HSub.of_perm (List.Perm.cons _ (by rw [← List.append_assoc]; exact hperm.append_right σ))
 refine Z8l (FSub.refl _) hp1 ?_
 have hC' := hC
 obtain ⟨v1, v2, v3, v4, v5, α1, α2, α3, α4, α5, rfl, g1, g2, g3, g4, g5, rfl⟩ := hC'
 refine Ks ?_
 refine Ks ?_
 refine Zb1 (fun _ _ => rfl) ?_
 repeat refine Kq rfl rfl rfl ?_
 refine Z9c rfl Z9a hw rfl ?_
 refine Kq rfl g1.lens rfl ?_
 repeat refine Kq rfl rfl rfl ?_
 (refine Z99 ?_; (repeat(first|refine Z9x rfl ?_|refine Z9y ?_)); refine Z9w ?_)
 rw [List.length_map]
 refine Za2 (p := (c.here.length : Int) ≥ 16384) rfl (fun h3 => ?_) (fun h3 => ?_)
 ·rw [if_pos (by omega)] at hX
  subst hX
  (repeat(first|refine Kq rfl rfl rfl ?_|(refine Z99 ?_; (repeat(first|refine Z9x rfl ?_|refine Z9y ?_)); refine Z9w ?_)|refine Ks ?_|refine Zb1 (fun _ _ => rfl) ?_))
  refine Z8o ?_
  exact ares rfl hp2 ⟨ws, β, hG, rfl, rfl⟩
 rw [if_neg (by omega)] at hX
 refine Zb2 (fun _ _ => rfl) ?_
 refine Ks ?_
 (refine Za0 (keep := [0, 5, 7, 8]) ?_; ((repeat(first|refine Z9x rfl ?_|refine Z9y ?_)); refine Z9w ?_))
 refine Z1h6 (fun _ _ => rfl) b at_ ws _ hw c _ hC (by omega) (.mk nu i n bs vks) _ _ (γ ++ σ) fun w1 β2 hC1 => ?_
 have hp3 : ∀ {x : Zb} {δ β' : Zc}, δ.Perm (β' ++ γ) → HSub ((b, x) :: (δ ++ σ)) ((b, x) :: (β' ++ (γ ++ σ))) := fun k => HSub.of_perm (List.Perm.cons _ (by rw [← List.append_assoc]; exact k.append_right σ))
 cases nu with
 | true =>
  rw [if_pos rfl] at hX
  subst hX
  (repeat(first|refine Kq rfl rfl rfl ?_|(refine Z99 ?_; (repeat(first|refine Z9x rfl ?_|refine Z9y ?_)); refine Z9w ?_)|refine Ks ?_|refine Zb1 (fun _ _ => rfl) ?_|refine Kc1 rfl ?_))
  refine Z8o ?_
  obtain ⟨δ, k1, k2⟩ := hback w1 _ β2 hC1
  exact ares rfl (hp3 k2) ⟨_, δ, k1, rfl, rfl⟩
 | false =>
  rw [if_neg (by simp)] at hX
  have hown : ownV t i n bs vks.length = 0 ∧ Zmr t i 0 vks = 0 := by
   rw [vchk, if_neg (by simp)] at hchk
   split at hchk
   ·omega
   ·exact ⟨by omega, hchk⟩
  have hbs : bs.length ≤ 4096 := by
   have h1' := hown.1
   unfold ownV at h1'
   split at h1'
   ·omega
   ·split at h1'
    ·omega
    ·rename_i h2
     omega
  have hkind : Zrz l at_ = t.kind := by rw [Zrz, hnd]; exact congrArg Ty.kind ht
  have htk : nd.t.kind = t.kind := congrArg Ty.kind ht
  rw [hkind] at hX
  have hC1 : ColG w1 (Zry true c) β2 := hC1
  have b1 := hcSm.texts
  have b2 := hcSm.here
  have b3 := hcSm.lens
  have b4 := hcSm.ints
  have b5 := hcSm.ns
  have hw1 : ∀ w', (ws.set at_ w')[at_]? = some w' := fun w' => by rw [List.getElem?_set_self hwl]
  have fin : ∀ w3 β4, ColG w3 (addC t.kind (.mk false i n bs vks) c) β4 → AWp Try.prog Z1ix.n (Z1ix.code.snd 10) (ARet Z1ix.res fun r σ' => ∃ ws' β', Zrs ws' X.fst β' ∧ r = Z0.bool X.snd ∧ σ' = (b, Zb.cells 5 ws') :: (β' ++ σ))
    (fset 0 (some (.iptr [.slc 8 (l.map encN) true, .arr 5 b 0 cs.length])) (fset 5 (some (.iptr (Zmh (.mk false i n bs vks)))) (fset 8 (some (.iptr (Zmd nd))) Z28))) ((b, .cells 5 (ws.set at_ w3)) :: (β4 ++ (γ ++ σ))) := by
   intro w3 β4 hC3
   obtain ⟨δ, k1, k2⟩ := hback w3 _ β4 hC3
   refine Z8l (FSub.refl _) (hp3 k2) ?_
   have hCs : ∀ x ∈ cs.set at_ (addC t.kind (.mk false i n bs vks) c), x.Sm := Zso hSm (Zsn _ _ hcSm (by omega))
   have hevl : (Zmg (Vl.mk false i n bs vks).kids).length = vks.length := Zmk _
   (repeat(first|refine Kq rfl rfl rfl ?_|(refine Z99 ?_; (repeat(first|refine Z9x rfl ?_|refine Z9y ?_)); refine Z9w ?_)|refine Ks ?_|refine Zb1 (fun _ _ => rfl) ?_|refine Z8s ?_))
   rw [hevl]
   obtain ⟨I, hI⟩ : ∃ I : Nat → Z27 → Zc → Prop, I = fun m F σ' => ∃ (j : Nat) (ws' : List Z0) (cs' : List Col) (β' : Zc), F = fset 0 (some (.iptr [.slc 8 (l.map encN) true, .arr 5 b 0 cs.length])) (fset 5 (some (.iptr (Zmh (.mk false i n bs vks)))) (fset 8 (some (.iptr (Zmd nd))) (fset 109 (some (.slc 5 (Zmg vks) false)) (fset 110 (some (.int .i64 (vks.length : Nat))) (fset 111 (some (.int .i64 (j : Int))) Z28))))) ∧
    (b, Zb.cells 5 ws') :: (β' ++ σ) = σ' ∧ Zrs ws' cs' β' ∧ cs'.length = cs.length ∧ (∀ x ∈ cs', x.Sm) ∧ j ≤ vks.length ∧ putL l at_ i j (vks.drop j) cs' = X ∧ Zmr t i j (vks.drop j) = 0 ∧ m = vks.length - j := ⟨_, rfl⟩
   refine Za6 I (n := vks.length)
    (by rw [hI]; exact ⟨0, _, _, δ, rfl, rfl, k1, List.length_set, hCs, by omega, hX, hown.2, rfl⟩) ?_
   intro m F σ' hIm
   rw [hI] at hIm
   obtain ⟨j, ws', cs', β', rfl, rfl, hG', hl', hS', hj, hXj, hvj, rfl⟩ := hIm
   have hkl' : vks.length ≤ 9223372036854775807 := hkl
   (repeat(first|refine Kq rfl rfl rfl ?_|(refine Z99 ?_; (repeat(first|refine Z9x rfl ?_|refine Z9y ?_)); refine Z9w ?_)|refine Ks ?_|refine Zb1 (fun _ _ => rfl) ?_))
   refine Za2 (p := (j : Int) < (vks.length : Int)) rfl (fun h5 => ?_) (fun h5 => ?_)
   ·have hjl : j < vks.length := by omega
    have Zd : vks[j]? = some vks[j] := List.getElem?_eq_getElem hjl
    obtain ⟨hka, hi0⟩ := Zqt hok hown.1 hjl
    rw [List.drop_eq_getElem_cons hjl, Zmr] at hvj
    rw [List.drop_eq_getElem_cons hjl, putL] at hXj
    have hv0 : vchk (kidT t i j) vks[j] = 0 ∧ Zmr t i (j + 1) (vks.drop (j + 1)) = 0 := by
     split at hvj
     ·omega
     ·split at hvj
      ·omega
      ·exact ⟨by omega, hvj⟩
    have hleaf : Zm4 t.kind = false := by
     cases e : Zm4 t.kind with
     | false => rfl
     | true =>
      have := hown.1
      rw [ownV, if_pos (.inr (.inr ⟨by omega, e⟩))] at this
      omega
    have hkl2 : Zmq t.kind i j < nd.kids.length := by omega
    obtain ⟨kx, hkx⟩ : ∃ kx, nd.kids[Zmq t.kind i j]? = some kx := ⟨_, List.getElem?_eq_getElem hkl2⟩
    have hAtk : At l kx (kidT t i j) := hkds _ _ _ hkx (by rw [kidT, List.getD_eq_getElem?_getD, List.getElem?_eq_getElem hka]; rfl)
    have hkC : kidC l at_ t.kind i j = kx := by
     rw [kidC, hnd]
     show nd.kids.getD _ 0 = kx
     rw [List.getD_eq_getElem?_getD, hkx, Option.getD_some]
    rw [hkind, hkC] at hXj
    have hcall := ih vks[j] (List.getElem_mem hjl) (hkids _ (List.getElem_mem hjl)) (kidT t i j) kx hAtk (Zqu hok hka) hv0.1 ws' cs' β' b σ hG' (by omega) (by omega) hS'
    rw [hl'] at hcall
    have hxv : (Zmg vks)[((j : Nat) : Int).toNat]? = some (encV vks[j]) := Zml (by rw [Int.toNat_natCast, Zd])
    have hxk : (ints nd.kids)[((Zmq t.kind i j : Nat) : Int).toNat]? = some (.int .i64 (kx : Int)) := by rw [Int.toNat_natCast]; simp [ints, hkx]
    rw [Zmi] at hcall hxv
    have hvnull : ∀ (u : Vl), Zmh u = [.bool u.null, .int .i64 u.i, .int .i64 u.n, .slc 1 (bytes u.b) false, .slc 5 (Zmg u.kids) false] := fun u => rfl
    generalize vks[j] = vj at hXj hcall hxv hv0
    have tail : AWp Try.prog Z1ix.n (.seq (.region Z1is [0, 5, 8, 109, 110, 111, 137]) (.cond (.t 137) (.seq (.region Z1it [6]) .ret) .skip)) (Z8r 1 (Z8p Try.prog Z1ix.n (.region Z1iu [0, 5, 8, 109, 110, 111]) (Za5 I (vks.length - j) (Z8r 0 (Z8p Try.prog Z1ix.n (Z1ix.code.snd 11) (ARet Z1ix.res fun r σ' => ∃ ws' β', Zrs ws' X.fst β' ∧ r = Z0.bool X.snd ∧ σ' = (b, Zb.cells 5 ws') :: (β' ++ σ)))))))
      (fset 0 (some (.iptr [.slc 8 (l.map encN) true, .arr 5 b 0 cs.length])) (fset 5 (some (.iptr (Zmh (.mk false i n bs vks)))) (fset 8 (some (.iptr (Zmd nd))) (fset 11 (some (.iptr (Zmh vj))) (fset 12 (some (.int .i64 (Zmq t.kind i j : Int))) (fset 109 (some (.slc 5 (Zmg vks) false)) (fset 110 (some (.int .i64 (vks.length : Nat))) (fset 111 (some (.int .i64 (j : Int))) Z28)))))))) ((b, .cells 5 ws') :: (β' ++ σ)) := by
     refine Za1 ?_
     repeat refine Kq rfl rfl rfl ?_
     refine Z9d rfl (by omega) hxk ?_
     repeat refine Kq rfl rfl rfl ?_
     obtain ⟨wsx, βx, hx⟩ := Zrs.ex (putF l kx vj cs').1
     refine Z9u rfl hcall ⟨_, _, wsx, βx, hx, rfl, rfl⟩ ?_
     rintro r σ2 ⟨ws2, β5, hG2, rfl, rfl⟩
     repeat refine Kq rfl rfl rfl ?_
     (refine Z99 ?_; (repeat(first|refine Z9x rfl ?_|refine Z9y ?_)); refine Z9w ?_)
     have hlen2 := Zsp l vj kx cs'
     have hSm2 := Zsq l vj kx cs' hS'
     generalize putF l kx vj cs' = pr at hXj hG2 hlen2 hSm2
     obtain ⟨cs2, ok⟩ := pr
     cases ok with
     | true =>
      rw [if_pos rfl] at hXj
      (repeat(first|refine Zb2 (fun _ _ => rfl) ?_|refine Kc2 rfl ?_))
      refine Zb4 ?_
      repeat refine Kq rfl rfl rfl ?_
      rw [Kwr j (by omega)]
      (refine Z99 ?_; (repeat(first|refine Z9x rfl ?_|refine Z9y ?_)); refine Z9w ?_)
      refine ⟨_, vks.length - (j + 1), HSub.refl _, ?_, by omega⟩
      rw [hI]
      exact ⟨j + 1, ws2, cs2, β5, rfl, rfl, hG2, by rw [← hl', ← hlen2], hSm2, by omega, hXj, hv0.2, rfl⟩
     | false =>
      rw [if_neg (by simp)] at hXj
      subst hXj
      (repeat(first|refine Kq rfl rfl rfl ?_|(refine Z99 ?_; (repeat(first|refine Z9x rfl ?_|refine Z9y ?_)); refine Z9w ?_)|refine Ks ?_|refine Zb1 (fun _ _ => rfl) ?_|refine Kc1 rfl ?_))
      refine Z8o ?_
      exact Kar rfl ⟨ws2, β5, hG2, rfl, rfl⟩
    refine Zb2 (fun _ _ => rfl) ?_
    refine Ks ?_
    refine Z8s ?_
    refine Za1 ?_
    repeat refine Kq rfl rfl rfl ?_
    refine Z9d rfl (by omega) hxv ?_
    repeat refine Kq rfl rfl rfl ?_
    refine Z9o (by simp [Z0.cells, Z0.one]) fun b11 hb11 => ?_
    repeat refine Kq rfl rfl rfl ?_
    (first|refine Z9g rfl Z9a rfl (by decide) (Kfi rfl) (fun h => by cases h) Z9h ?_|refine Z96 rfl (Z9g rfl Z9a rfl (by decide) (Kfi rfl) (fun h => by cases h) Z9h ?_))
    (refine Z99 ?_; (repeat(first|refine Z9x rfl ?_|refine Z9y ?_)); refine Z9w ?_)
    refine Zaj (d := 11) (cs := Zmh vj) rfl ?_
    (refine Za0 (keep := [0, 5, 8, 10, 11, 109, 110, 111]) ?_; ((repeat(first|refine Z9x rfl ?_|refine Z9y ?_)); refine Z9w ?_))
    refine Za1 ?_
    repeat refine Kq rfl rfl rfl ?_
    (refine Z99 ?_; (repeat(first|refine Z9x rfl ?_|refine Z9y ?_)); refine Z9w ?_)
    refine Ks ?_
    refine Ks ?_
    refine Zb1 (fun _ _ => rfl) ?_
    repeat refine Kq rfl rfl rfl ?_
    (refine Z99 ?_; (repeat(first|refine Z9x rfl ?_|refine Z9y ?_)); refine Z9w ?_)
    refine Z8s ?_
    refine Za1 ?_
    repeat refine Kq rfl rfl rfl ?_
    (refine Z99 ?_; (repeat(first|refine Z9x rfl ?_|refine Z9y ?_)); refine Z9w ?_)
    rw [htk]
    refine Za2 (p := t.kind = 10) rfl (fun k10 => ?_) (fun k10 => ?_)
    ·refine Zb1 (fun _ _ => rfl) ?_
     repeat refine Kq rfl rfl rfl ?_
     (refine Z99 ?_; (repeat(first|refine Z9x rfl ?_|refine Z9y ?_)); refine Z9w ?_)
     have e : Zmq t.kind i j = 0 := by simp [Zmq, k10]
     rw [e] at tail
     exact tail
    refine Za1 ?_
    repeat refine Kq rfl rfl rfl ?_
    (refine Z99 ?_; (repeat(first|refine Z9x rfl ?_|refine Z9y ?_)); refine Z9w ?_)
    refine Za2 (p := t.kind = 11) rfl (fun k11 => ?_) (fun k11 => ?_)
    ·refine Zb1 (fun _ _ => rfl) ?_
     repeat refine Kq rfl rfl rfl ?_
     (refine Z99 ?_; (repeat(first|refine Z9x rfl ?_|refine Z9y ?_)); refine Z9w ?_)
     have e : ((Zmq t.kind i j : Nat) : Int) = (j : Int).tmod 2 := by
      rw [Int.tmod_eq_emod_of_nonneg (by omega)]
      simp [Zmq, k11]
     rw [e] at tail
     exact tail
    refine Za1 ?_
    repeat refine Kq rfl rfl rfl ?_
    (refine Z99 ?_; (repeat(first|refine Z9x rfl ?_|refine Z9y ?_)); refine Z9w ?_)
    refine Za2 (p := t.kind = 13) rfl (fun k13 => ?_) (fun k13 => ?_)
    ·refine Zb1 (fun _ _ => rfl) ?_
     repeat refine Kq rfl rfl rfl ?_
     (refine Z99 ?_; (repeat(first|refine Z9x rfl ?_|refine Z9y ?_)); refine Z9w ?_)
     have e : ((Zmq t.kind i j : Nat) : Int) = i := by
      have := hi0 k13
      simp [Zmq, k13]
      omega
     rw [e] at tail
     exact tail
    ·refine Zb2 (fun _ _ => rfl) ?_
     (refine Za0 (keep := [0, 5, 8, 11, 12, 109, 110, 111]) ?_; ((repeat(first|refine Z9x rfl ?_|refine Z9y ?_)); refine Z9w ?_))
     have e : Zmq t.kind i j = j := by simp [Zmq, k10, k11, k13]
     rw [e] at tail
     exact tail
   ·rw [List.drop_of_length_le (by omega), putL] at hXj
    subst hXj
    (repeat(first|refine Kq rfl rfl rfl ?_|(refine Z99 ?_; (repeat(first|refine Z9x rfl ?_|refine Z9y ?_)); refine Z9w ?_)|refine Ks ?_|refine Zb1 (fun _ _ => rfl) ?_|refine Zb3 (fun _ _ => rfl) ?_))
    refine Z8o ?_
    exact Kar rfl ⟨ws', β', hG', rfl, rfl⟩
  refine Ks ?_
  refine Ks ?_
  refine Zb1 (fun _ _ => rfl) ?_
  repeat refine Kq rfl rfl rfl ?_
  (refine Z99 ?_; (repeat(first|refine Z9x rfl ?_|refine Z9y ?_)); refine Z9w ?_)
  refine Kc2 rfl ?_
  refine Zb2 (fun _ _ => rfl) ?_
  (refine Za0 (keep := [0, 5, 7, 8]) ?_; ((repeat(first|refine Z9x rfl ?_|refine Z9y ?_)); refine Z9w ?_))
  refine Za1 ?_
  repeat refine Kq rfl rfl rfl ?_
  rw [htk]
  refine Z9v rfl (c_of t.kind _) ?_
  refine Z9o (by simp [Z0.cells, Z0.one]) fun b9 hb9 => ?_
  repeat refine Kq rfl rfl rfl ?_
  (first|refine Z9g rfl Z9a rfl (by decide) (Kfi rfl) (fun h => by cases h) Z9h ?_|refine Z96 rfl (Z9g rfl Z9a rfl (by decide) (Kfi rfl) (fun h => by cases h) Z9h ?_))
  (refine Z99 ?_; (repeat(first|refine Z9x rfl ?_|refine Z9y ?_)); refine Z9w ?_)
  refine Zaj (d := 9) (cs := Zxm t.kind) rfl ?_
  (refine Za0 (keep := [0, 5, 7, 8, 9]) ?_; ((repeat(first|refine Z9x rfl ?_|refine Z9y ?_)); refine Z9w ?_))
  rw [Zxm]
  cases hT : Zmm t.kind with
  | true =>
   have hk := Zt2 hT
   rw [show intF t.kind = false by simp [intF, hT], show decide (t.kind = 9) = false from decide_eq_false (by omega), show lenF t.kind = false by simp [lenF]; omega]
   refine Ks ?_
   refine Ks ?_
   refine Zb1 (fun _ _ => rfl) ?_
   repeat refine Kq rfl rfl rfl ?_
   (refine Z99 ?_; (repeat(first|refine Z9x rfl ?_|refine Z9y ?_)); refine Z9w ?_)
   refine Kc2 rfl ?_
   refine Zb2 (fun _ _ => rfl) ?_
   (refine Za0 (keep := [0, 5, 7, 8, 9]) ?_; ((repeat(first|refine Z9x rfl ?_|refine Z9y ?_)); refine Z9w ?_))
   refine Ks ?_
   refine Ks ?_
   refine Zb1 (fun _ _ => rfl) ?_
   repeat refine Kq rfl rfl rfl ?_
   (refine Z99 ?_; (repeat(first|refine Z9x rfl ?_|refine Z9y ?_)); refine Z9w ?_)
   refine Kc2 rfl ?_
   refine Zb2 (fun _ _ => rfl) ?_
   (refine Za0 (keep := [0, 5, 7, 8, 9]) ?_; ((repeat(first|refine Z9x rfl ?_|refine Z9y ?_)); refine Z9w ?_))
   refine Ks ?_
   refine Ks ?_
   refine Zb1 (fun _ _ => rfl) ?_
   repeat refine Kq rfl rfl rfl ?_
   (refine Z99 ?_; (repeat(first|refine Z9x rfl ?_|refine Z9y ?_)); refine Z9w ?_)
   refine Kc1 rfl ?_
   (refine Za0 (keep := [0, 5, 7, 8, 9]) ?_; ((repeat(first|refine Z9x rfl ?_|refine Z9y ?_)); refine Z9w ?_))
   refine Z1h9 (fun _ _ => rfl) b at_ _ w1 (hw1 w1) (Zry true c) β2 hC1 (show c.texts.length ≤ 16384 by omega) (.mk false i n bs vks) hbs _ _ _ (γ ++ σ) fun w' β' hC2 => ?_
   rw [List.set_set]
   refine Ks ?_
   refine Ks ?_
   refine Zb1 (fun _ _ => rfl) ?_
   repeat refine Kq rfl rfl rfl ?_
   (refine Z99 ?_; (repeat(first|refine Z9x rfl ?_|refine Z9y ?_)); refine Z9w ?_)
   refine Kc2 rfl ?_
   refine Zb2 (fun _ _ => rfl) ?_
   (refine Za0 (keep := [0, 5, 8]) ?_; ((repeat(first|refine Z9x rfl ?_|refine Z9y ?_)); refine Z9w ?_))
   refine fin w' β' ?_
   rw [addC, Zrx, if_neg (by omega), Zrw, if_pos hT]
   exact hC2
  | false =>
  by_cases k10 : t.kind = 10
  ·rw [show intF t.kind = false by simp [intF, k10], show decide (t.kind = 9) = false from decide_eq_false (by omega), show lenF t.kind = true by simp [lenF, k10]]
   refine Ks ?_
   refine Ks ?_
   refine Zb1 (fun _ _ => rfl) ?_
   repeat refine Kq rfl rfl rfl ?_
   (refine Z99 ?_; (repeat(first|refine Z9x rfl ?_|refine Z9y ?_)); refine Z9w ?_)
   refine Kc2 rfl ?_
   refine Zb2 (fun _ _ => rfl) ?_
   (refine Za0 (keep := [0, 5, 7, 8, 9]) ?_; ((repeat(first|refine Z9x rfl ?_|refine Z9y ?_)); refine Z9w ?_))
   refine Ks ?_
   refine Ks ?_
   refine Zb1 (fun _ _ => rfl) ?_
   repeat refine Kq rfl rfl rfl ?_
   (refine Z99 ?_; (repeat(first|refine Z9x rfl ?_|refine Z9y ?_)); refine Z9w ?_)
   refine Kc2 rfl ?_
   refine Zb2 (fun _ _ => rfl) ?_
   (refine Za0 (keep := [0, 5, 7, 8, 9]) ?_; ((repeat(first|refine Z9x rfl ?_|refine Z9y ?_)); refine Z9w ?_))
   refine Ks ?_
   refine Ks ?_
   refine Zb1 (fun _ _ => rfl) ?_
   repeat refine Kq rfl rfl rfl ?_
   (refine Z99 ?_; (repeat(first|refine Z9x rfl ?_|refine Z9y ?_)); refine Z9w ?_)
   refine Kc2 rfl ?_
   refine Zb2 (fun _ _ => rfl) ?_
   (refine Za0 (keep := [0, 5, 7, 8, 9]) ?_; ((repeat(first|refine Z9x rfl ?_|refine Z9y ?_)); refine Z9w ?_))
   refine Ks ?_
   refine Ks ?_
   refine Zb1 (fun _ _ => rfl) ?_
   repeat refine Kq rfl rfl rfl ?_
   (refine Z99 ?_; (repeat(first|refine Z9x rfl ?_|refine Z9y ?_)); refine Z9w ?_)
   refine Kc1 rfl ?_
   (refine Za0 (keep := [0, 5, 7, 8]) ?_; ((repeat(first|refine Z9x rfl ?_|refine Z9y ?_)); refine Z9w ?_))
   have hkl3 : nd.kids.length = 1 := by
    have := hok.kinds.1
    rw [Zm6] at this
    simp [k10] at this
    omega
   obtain ⟨x1, hx1⟩ : ∃ x1, nd.kids = [x1] := List.length_eq_one_iff.1 hkl3
   have fin' := fin
   rw [Zmd, hx1] at fin' ⊢
   refine Z1ha (fun _ _ => rfl) b at_ _ w1 (hw1 w1) (Zry true c) β2 hC1 (show c.lens.length ≤ 16384 by omega) (.mk false i n bs vks) hkl _ _ _ _ _ _ _ _ _ (γ ++ σ) fun w' β' hC2 => ?_
   rw [List.set_set]
   refine fin' w' β' ?_
   rw [addC, Zrx, if_neg (by omega), Zrw, if_neg (by simp [hT]), if_pos k10]
   exact hC2
  by_cases k11 : t.kind = 11
  ·rw [show intF t.kind = false by simp [intF, k11], show decide (t.kind = 9) = false from decide_eq_false (by omega), show lenF t.kind = true by simp [lenF, k11]]
   refine Ks ?_
   refine Ks ?_
   refine Zb1 (fun _ _ => rfl) ?_
   repeat refine Kq rfl rfl rfl ?_
   (refine Z99 ?_; (repeat(first|refine Z9x rfl ?_|refine Z9y ?_)); refine Z9w ?_)
   refine Kc2 rfl ?_
   refine Zb2 (fun _ _ => rfl) ?_
   (refine Za0 (keep := [0, 5, 7, 8, 9]) ?_; ((repeat(first|refine Z9x rfl ?_|refine Z9y ?_)); refine Z9w ?_))
   refine Ks ?_
   refine Ks ?_
   refine Zb1 (fun _ _ => rfl) ?_
   repeat refine Kq rfl rfl rfl ?_
   (refine Z99 ?_; (repeat(first|refine Z9x rfl ?_|refine Z9y ?_)); refine Z9w ?_)
   refine Kc2 rfl ?_
   refine Zb2 (fun _ _ => rfl) ?_
   (refine Za0 (keep := [0, 5, 7, 8, 9]) ?_; ((repeat(first|refine Z9x rfl ?_|refine Z9y ?_)); refine Z9w ?_))
   refine Ks ?_
   refine Ks ?_
   refine Zb1 (fun _ _ => rfl) ?_
   repeat refine Kq rfl rfl rfl ?_
   (refine Z99 ?_; (repeat(first|refine Z9x rfl ?_|refine Z9y ?_)); refine Z9w ?_)
   refine Kc2 rfl ?_
   refine Zb2 (fun _ _ => rfl) ?_
   (refine Za0 (keep := [0, 5, 7, 8, 9]) ?_; ((repeat(first|refine Z9x rfl ?_|refine Z9y ?_)); refine Z9w ?_))
   refine Ks ?_
   refine Ks ?_
   refine Zb1 (fun _ _ => rfl) ?_
   repeat refine Kq rfl rfl rfl ?_
   (refine Z99 ?_; (repeat(first|refine Z9x rfl ?_|refine Z9y ?_)); refine Z9w ?_)
   refine Kc1 rfl ?_
   (refine Za0 (keep := [0, 5, 7, 8]) ?_; ((repeat(first|refine Z9x rfl ?_|refine Z9y ?_)); refine Z9w ?_))
   have hkl3 : nd.kids.length = 2 := by
    have := hok.kinds.1
    rw [Zm6] at this
    simp [k11] at this
    omega
   obtain ⟨x1, x2, hx1⟩ : ∃ x1 x2, nd.kids = [x1, x2] := by
    match nd.kids, hkl3 with
    | [a, b], _ => exact ⟨a, b, rfl⟩
   have fin' := fin
   rw [Zmd, hx1] at fin' ⊢
   refine Z1hb (fun _ _ => rfl) b at_ _ w1 (hw1 w1) (Zry true c) β2 hC1 (show c.lens.length ≤ 16384 by omega) (.mk false i n bs vks) hkl _ _ _ _ _ _ _ _ _ _ (γ ++ σ) fun w' β' hC2 => ?_
   rw [List.set_set]
   refine fin' w' β' ?_
   rw [addC, Zrx, if_neg (by omega), Zrw, if_neg (by simp [hT]), if_neg (by omega), if_pos k11]
   exact hC2
  by_cases k12 : t.kind = 12
  ·rw [show intF t.kind = false by simp [intF, k12], show decide (t.kind = 9) = false from decide_eq_false (by omega), show lenF t.kind = false by simp [lenF, k12]]
   refine Ks ?_
   refine Ks ?_
   refine Zb1 (fun _ _ => rfl) ?_
   repeat refine Kq rfl rfl rfl ?_
   (refine Z99 ?_; (repeat(first|refine Z9x rfl ?_|refine Z9y ?_)); refine Z9w ?_)
   refine Kc2 rfl ?_
   refine Zb2 (fun _ _ => rfl) ?_
   (refine Za0 (keep := [0, 5, 7, 8, 9]) ?_; ((repeat(first|refine Z9x rfl ?_|refine Z9y ?_)); refine Z9w ?_))
   refine Ks ?_
   refine Ks ?_
   refine Zb1 (fun _ _ => rfl) ?_
   repeat refine Kq rfl rfl rfl ?_
   (refine Z99 ?_; (repeat(first|refine Z9x rfl ?_|refine Z9y ?_)); refine Z9w ?_)
   refine Kc2 rfl ?_
   refine Zb2 (fun _ _ => rfl) ?_
   (refine Za0 (keep := [0, 5, 7, 8, 9]) ?_; ((repeat(first|refine Z9x rfl ?_|refine Z9y ?_)); refine Z9w ?_))
   refine Ks ?_
   refine Ks ?_
   refine Zb1 (fun _ _ => rfl) ?_
   repeat refine Kq rfl rfl rfl ?_
   (refine Z99 ?_; (repeat(first|refine Z9x rfl ?_|refine Z9y ?_)); refine Z9w ?_)
   refine Kc2 rfl ?_
   refine Zb2 (fun _ _ => rfl) ?_
   (refine Za0 (keep := [0, 5, 7, 8, 9]) ?_; ((repeat(first|refine Z9x rfl ?_|refine Z9y ?_)); refine Z9w ?_))
   refine Ks ?_
   refine Ks ?_
   refine Zb1 (fun _ _ => rfl) ?_
   repeat refine Kq rfl rfl rfl ?_
   (refine Z99 ?_; (repeat(first|refine Z9x rfl ?_|refine Z9y ?_)); refine Z9w ?_)
   refine Kc2 rfl ?_
   refine Zb2 (fun _ _ => rfl) ?_
   (refine Za0 (keep := [0, 5, 8]) ?_; ((repeat(first|refine Z9x rfl ?_|refine Z9y ?_)); refine Z9w ?_))
   refine fin w1 β2 ?_
   rw [addC, Zrx, if_neg (by omega), Zrw, if_neg (by simp [hT]), if_neg k10, if_neg k11, if_neg (by omega)]
   exact hC1
  by_cases k9 : t.kind = 9
  ·rw [show intF t.kind = true by simp [intF, hT, k10, k11, k12], show decide (t.kind = 9) = true from decide_eq_true k9, show lenF t.kind = false by simp [lenF, k10, k11]]
   refine Ks ?_
   refine Ks ?_
   refine Zb1 (fun _ _ => rfl) ?_
   repeat refine Kq rfl rfl rfl ?_
   (refine Z99 ?_; (repeat(first|refine Z9x rfl ?_|refine Z9y ?_)); refine Z9w ?_)
   refine Kc1 rfl ?_
   (refine Za0 (keep := [0, 5, 7, 8, 9]) ?_; ((repeat(first|refine Z9x rfl ?_|refine Z9y ?_)); refine Z9w ?_))
   refine Z1h7 (fun _ _ => rfl) b at_ _ w1 (hw1 w1) (Zry true c) β2 hC1 (show c.ints.length ≤ 16384 by omega) (.mk false i n bs vks) _ _ _ (γ ++ σ) fun w2 β3 hC2 => ?_
   rw [List.set_set]
   refine Ks ?_
   refine Ks ?_
   refine Zb1 (fun _ _ => rfl) ?_
   repeat refine Kq rfl rfl rfl ?_
   (refine Z99 ?_; (repeat(first|refine Z9x rfl ?_|refine Z9y ?_)); refine Z9w ?_)
   refine Kc1 rfl ?_
   (refine Za0 (keep := [0, 5, 7, 8, 9]) ?_; ((repeat(first|refine Z9x rfl ?_|refine Z9y ?_)); refine Z9w ?_))
   refine Z1h8 (fun _ _ => rfl) b at_ _ w2 (hw1 w2) _ β3 hC2 (show c.ns.length ≤ 16384 by omega) (.mk false i n bs vks) _ _ _ (γ ++ σ) fun w' β' hC3 => ?_
   rw [List.set_set]
   refine Ks ?_
   refine Ks ?_
   refine Zb1 (fun _ _ => rfl) ?_
   repeat refine Kq rfl rfl rfl ?_
   (refine Z99 ?_; (repeat(first|refine Z9x rfl ?_|refine Z9y ?_)); refine Z9w ?_)
   refine Kc2 rfl ?_
   refine Zb2 (fun _ _ => rfl) ?_
   (refine Za0 (keep := [0, 5, 7, 8, 9]) ?_; ((repeat(first|refine Z9x rfl ?_|refine Z9y ?_)); refine Z9w ?_))
   refine Ks ?_
   refine Ks ?_
   refine Zb1 (fun _ _ => rfl) ?_
   repeat refine Kq rfl rfl rfl ?_
   (refine Z99 ?_; (repeat(first|refine Z9x rfl ?_|refine Z9y ?_)); refine Z9w ?_)
   refine Kc2 rfl ?_
   refine Zb2 (fun _ _ => rfl) ?_
   (refine Za0 (keep := [0, 5, 8]) ?_; ((repeat(first|refine Z9x rfl ?_|refine Z9y ?_)); refine Z9w ?_))
   refine fin w' β' ?_
   rw [addC, Zrx, if_pos k9, Zrw, if_neg (by simp [hT]), if_neg k10, if_neg k11, if_pos k12]
   exact hC3
  ·rw [show intF t.kind = true by simp [intF, hT, k10, k11, k12], show decide (t.kind = 9) = false from decide_eq_false k9, show lenF t.kind = false by simp [lenF, k10, k11]]
   refine Ks ?_
   refine Ks ?_
   refine Zb1 (fun _ _ => rfl) ?_
   repeat refine Kq rfl rfl rfl ?_
   (refine Z99 ?_; (repeat(first|refine Z9x rfl ?_|refine Z9y ?_)); refine Z9w ?_)
   refine Kc1 rfl ?_
   (refine Za0 (keep := [0, 5, 7, 8, 9]) ?_; ((repeat(first|refine Z9x rfl ?_|refine Z9y ?_)); refine Z9w ?_))
   refine Z1h7 (fun _ _ => rfl) b at_ _ w1 (hw1 w1) (Zry true c) β2 hC1 (show c.ints.length ≤ 16384 by omega) (.mk false i n bs vks) _ _ _ (γ ++ σ) fun w' β' hC2 => ?_
   rw [List.set_set]
   refine Ks ?_
   refine Ks ?_
   refine Zb1 (fun _ _ => rfl) ?_
   repeat refine Kq rfl rfl rfl ?_
   (refine Z99 ?_; (repeat(first|refine Z9x rfl ?_|refine Z9y ?_)); refine Z9w ?_)
   refine Kc2 rfl ?_
   refine Zb2 (fun _ _ => rfl) ?_
   (refine Za0 (keep := [0, 5, 7, 8, 9]) ?_; ((repeat(first|refine Z9x rfl ?_|refine Z9y ?_)); refine Z9w ?_))
   refine Ks ?_
   refine Ks ?_
   refine Zb1 (fun _ _ => rfl) ?_
   repeat refine Kq rfl rfl rfl ?_
   (refine Z99 ?_; (repeat(first|refine Z9x rfl ?_|refine Z9y ?_)); refine Z9w ?_)
   refine Kc2 rfl ?_
   refine Zb2 (fun _ _ => rfl) ?_
   (refine Za0 (keep := [0, 5, 7, 8, 9]) ?_; ((repeat(first|refine Z9x rfl ?_|refine Z9y ?_)); refine Z9w ?_))
   refine Ks ?_
   refine Ks ?_
   refine Zb1 (fun _ _ => rfl) ?_
   repeat refine Kq rfl rfl rfl ?_
   (refine Z99 ?_; (repeat(first|refine Z9x rfl ?_|refine Z9y ?_)); refine Z9w ?_)
   refine Kc2 rfl ?_
   refine Zb2 (fun _ _ => rfl) ?_
   (refine Za0 (keep := [0, 5, 8]) ?_; ((repeat(first|refine Z9x rfl ?_|refine Z9y ?_)); refine Z9w ?_))
   refine fin w' β' ?_
   rw [addC, Zrx, if_neg k9, Zrw, if_neg (by simp [hT]), if_neg k10, if_neg k11, if_pos k12]
   exact hC2
end Go.Abs
namespace Go.Abs
open Go Go.Proofs
attribute [local irreducible] AWp aops KP
theorem Z1kc (t : Ty) (ht : t.Fit) (rows : List Vl) (hr : ∀ v ∈ rows, v.Fit) (hl : rows.length ≤ 140737488355328) (σ : Zc) :
  Z1s Try.prog Zct [encT t, .slc 5 (Zmg rows) false] σ fun r σ' => r = .tup [.slc 5 ((Zst t rows).1.map Kc) false, .int .i64 ((Zst t rows).2 : Int)] ∧ σ' = σ := by
 have hcT := Znk t ht
 have hfl := Zxe t ht
 have hrl := Zmk rows
 generalize hX : Zst t rows = X
 rw [Zm0] at hcT hfl ⊢
 refine Z94 rfl Z1k6 (Nat.le_of_ble_eq_true rfl) ?_
 refine Za1 ?_
 refine Z9n rfl (Kfi rfl) fun b2 hb2 => ?_
 repeat refine Kq rfl rfl rfl ?_
 (refine Z99 ?_; (repeat(first|refine Z9x rfl ?_|refine Z9y ?_)); refine Z9w ?_)
 refine Zaj (d := 2) (cs := Zlz t) rfl ?_
 (repeat(first|refine Kq rfl rfl rfl ?_|refine Ks ?_|refine Zb1 (fun _ _ => rfl) ?_))
 refine Z9v rfl (hcT _) ?_
 by_cases h0 : Zm8 t = 0
 rotate_left
 ·rw [Zst, if_pos h0] at hX
  subst hX
  (repeat(first|refine Kq rfl rfl rfl ?_|(refine Z99 ?_; (repeat(first|refine Z9x rfl ?_|refine Z9y ?_)); refine Z9w ?_)|refine Ks ?_|refine Zb1 (fun _ _ => rfl) ?_))
  (rw [decide_eq_true (p := (Zm8 t : Int) ≠ 0) (by omega)])
  (repeat(first|refine Kq rfl rfl rfl ?_|(refine Z99 ?_; (repeat(first|refine Z9x rfl ?_|refine Z9y ?_)); refine Z9w ?_)|refine Ks ?_|refine Zb1 (fun _ _ => rfl) ?_|refine Kc1 rfl ?_))
  refine Z8o ?_
  exact Zag rfl (VRle.tup (VRle.cons (VRle.nilF _ _) (VRle.refl _))) (HSub.refl _) ⟨rfl, rfl⟩
 have hTok : t.Ok := Zqs t _ _ h0
 rw [Zst, if_neg (by omega)] at hX
 (repeat(first|refine Kq rfl rfl rfl ?_|(refine Z99 ?_; (repeat(first|refine Z9x rfl ?_|refine Z9y ?_)); refine Z9w ?_)|refine Ks ?_|refine Zb1 (fun _ _ => rfl) ?_))
 (rw [decide_eq_false (p := (Zm8 t : Int) ≠ 0) (by omega)])
 (repeat(first|refine Kq rfl rfl rfl ?_|(refine Z99 ?_; (repeat(first|refine Z9x rfl ?_|refine Z9y ?_)); refine Z9w ?_)|refine Ks ?_|refine Zb1 (fun _ _ => rfl) ?_|refine Z8s ?_|refine Zb2 (fun _ _ => rfl) ?_|refine Kc2 rfl ?_))
 rw [hrl]
 refine Za6 (fun m F σ' => ∃ (j : Nat), F = fset 1 (some (.slc 5 (Zmg rows) false)) (fset 2 (some (.iptr (Zlz t))) (fset 18 (some (.slc 5 (Zmg rows) false)) (fset 19 (some (.int .i64 (rows.length : Nat))) (fset 20 (some (.int .i64 (j : Int))) Z28)))) ∧
  σ = σ' ∧ j ≤ rows.length ∧ Zsr t (rows.drop j) = Zsr t rows ∧ m = rows.length - j) (n := rows.length) ⟨0, rfl, rfl, by omega, rfl, rfl⟩ ?_
 rintro m F σ' ⟨j, rfl, rfl, hj, hE, rfl⟩
 (repeat(first|refine Kq rfl rfl rfl ?_|(refine Z99 ?_; (repeat(first|refine Z9x rfl ?_|refine Z9y ?_)); refine Z9w ?_)|refine Ks ?_|refine Zb1 (fun _ _ => rfl) ?_))
 refine Za2 (p := (j : Int) < (rows.length : Nat)) rfl (fun h5 => ?_) (fun h5 => ?_)
 ·have hjl : j < rows.length := by omega
  have hxv : (Zmg rows)[((j : Nat) : Int).toNat]? = some (encV rows[j]) := Zml (by rw [Int.toNat_natCast, List.getElem?_eq_getElem hjl])
  have hcv := Z13h rows[j] (hr _ (List.getElem_mem hjl)) t hTok
  rw [Zsu t hjl, rowE] at hE
  generalize rows[j] = v at hxv hcv hE
  rw [Zmi] at hxv
  simp only [Zmi, Zm0] at hcv
  (repeat(first|refine Ks ?_|refine Zb1 (fun _ _ => rfl) ?_|refine Z8s ?_|refine Zb2 (fun _ _ => rfl) ?_))
  refine Z9d rfl (by omega) hxv ?_
  repeat refine Kq rfl rfl rfl ?_
  refine Z9o (by simp [Z0.cells, Z0.one]) fun b8 hb8 => ?_
  (first|refine Z9g rfl Z9a rfl (by decide) (Kfi rfl) (fun h => by cases h) Z9h ?_|refine Z96 rfl (Z9g rfl Z9a rfl (by decide) (Kfi rfl) (fun h => by cases h) Z9h ?_))
  (refine Z99 ?_; (repeat(first|refine Z9x rfl ?_|refine Z9y ?_)); refine Z9w ?_)
  refine Zaj (d := 8) (cs := Zmh v) rfl ?_
  (refine Za0 (keep := [1, 2, 8, 18, 19, 20]) ?_; ((repeat(first|refine Z9x rfl ?_|refine Z9y ?_)); refine Z9w ?_))
  (repeat(first|refine Kq rfl rfl rfl ?_|refine Ks ?_|refine Zb1 (fun _ _ => rfl) ?_))
  refine Z9v rfl (hcv _) ?_
  generalize vchk t v = x at hE
  by_cases hx : x = 0
  ·subst hx
   (repeat(first|refine Kq rfl rfl rfl ?_|(refine Z99 ?_; (repeat(first|refine Z9x rfl ?_|refine Z9y ?_)); refine Z9w ?_)|refine Ks ?_|refine Zb1 (fun _ _ => rfl) ?_|refine Zb2 (fun _ _ => rfl) ?_|refine Kc2 rfl ?_))
   cases hn : v.null with
   | true =>
    rw [hn] at hE
    simp at hE
    rw [← hE, if_pos (by decide)] at hX
    subst hX
    (repeat(first|refine Kq rfl rfl rfl ?_|(refine Z99 ?_; (repeat(first|refine Z9x rfl ?_|refine Z9y ?_)); refine Z9w ?_)|refine Ks ?_|refine Zb1 (fun _ _ => rfl) ?_|refine Kc1 rfl ?_))
    refine Z8o ?_
    exact Zag rfl (VRle.tup (VRle.cons (VRle.nilF _ _) (VRle.refl _))) (HSub.refl _) ⟨rfl, rfl⟩
   | false =>
    rw [hn] at hE
    simp at hE
    (repeat(first|refine Zb2 (fun _ _ => rfl) ?_|refine Kc2 rfl ?_))
    refine Zb4 ?_
    repeat refine Kq rfl rfl rfl ?_
    rw [Kwr j (by omega)]
    (refine Z99 ?_; (repeat(first|refine Z9x rfl ?_|refine Z9y ?_)); refine Z9w ?_)
    exact ⟨_, rows.length - (j + 1), HSub.refl _, ⟨j + 1, rfl, rfl, by omega, hE, rfl⟩, by omega⟩
  ·have hx2 : ¬ (x = 0 ∧ v.null = true) := fun h => hx h.1
   rw [if_neg hx2, if_pos hx] at hE
   rw [← hE, if_pos hx] at hX
   subst hX
   (repeat(first|refine Kq rfl rfl rfl ?_|(refine Z99 ?_; (repeat(first|refine Z9x rfl ?_|refine Z9y ?_)); refine Z9w ?_)|refine Ks ?_|refine Zb1 (fun _ _ => rfl) ?_))
   (rw [decide_eq_true (p := ((x : Nat) : Int) ≠ 0) (by omega)])
   (repeat(first|refine Kq rfl rfl rfl ?_|(refine Z99 ?_; (repeat(first|refine Z9x rfl ?_|refine Z9y ?_)); refine Z9w ?_)|refine Ks ?_|refine Zb1 (fun _ _ => rfl) ?_|refine Kc1 rfl ?_))
   refine Z8o ?_
   exact Zag rfl (VRle.tup (VRle.cons (VRle.nilF _ _) (VRle.refl _))) (HSub.refl _) ⟨rfl, rfl⟩
 rw [List.drop_of_length_le (by omega), Zsr] at hE
 rw [if_neg (by omega)] at hX
 have hok := Zsv hE.symm
 have hat := Zs4 t h0
 have hn100 : (Zmf t).length ≤ 100 := by
  rw [Zmf, if_pos h0, Zmc]
  have := (Znv t _ _ h0).2.2
  omega
 generalize Zmf t = l at *
 have hll : (l.map encN).length = l.length := List.length_map ..
 (repeat(first|refine Kq rfl rfl rfl ?_|refine Ks ?_|refine Zb1 (fun _ _ => rfl) ?_|refine Zb3 (fun _ _ => rfl) ?_))
 refine Z9v rfl (hfl _) ?_
 repeat refine Kq rfl rfl rfl ?_
 refine Z9n rfl (Kfi rfl) fun bw hbw => ?_
 repeat refine Kq rfl rfl rfl ?_
 (refine Z99 ?_; (repeat(first|refine Z9x rfl ?_|refine Z9y ?_)); refine Z9w ?_)
 refine Za1 ?_
 repeat refine Kq rfl rfl rfl ?_
 refine Z9c rfl Z9a rfl rfl ?_
 repeat refine Kq rfl rfl rfl ?_
 rw [hll]
 refine Z9p rfl (Kfi rfl) (by omega) (by omega) (by omega) (by omega) fun b hb => ?_
 rw [Int.toNat_natCast]
 have hne : b ≠ bw := fun e => hb (by rw [e]; simp [Zh])
 repeat refine Kq rfl rfl rfl ?_
 refine Z9g rfl (Z9b hne Z9a) rfl (by decide) (Kfi rfl) (fun h => by cases h) (Z9i hne Z9h) ?_
 (refine Z99 ?_; (repeat(first|refine Z9x rfl ?_|refine Z9y ?_)); refine Z9w ?_)
 refine Z8l (FSub.refl _) (HSub.swap _ _ _) ?_
 refine Zaj (d := 10) (cs := [.slc 8 (l.map encN) true, .arr 5 b 0 l.length]) rfl ?_
 (refine Za0 (keep := [1, 10]) ?_; ((repeat(first|refine Z9x rfl ?_|refine Z9y ?_)); refine Z9w ?_))
 (repeat(first|refine Kq rfl rfl rfl ?_|(refine Z99 ?_; (repeat(first|refine Z9x rfl ?_|refine Z9y ?_)); refine Z9w ?_)|refine Ks ?_|refine Zb1 (fun _ _ => rfl) ?_|refine Z8s ?_))
 rw [hrl]
 generalize hY : Zss l rows (List.replicate l.length col0) = Y at hX
 have hz : ∀ x ∈ List.replicate l.length col0, x.Sm := fun x hx => by
  rw [List.eq_of_mem_replicate hx]
  exact ⟨by simp [col0], by simp [col0], by simp [col0], by simp [col0], by simp [col0]⟩
 refine Za6 (fun m F σ' => ∃ (j : Nat) (ws : List Z0) (cs : List Col) (β : Zc), F = fset 10 (some (.iptr [.slc 8 (l.map encN) true, .arr 5 b 0 l.length])) (fset 46 (some (.slc 5 (Zmg rows) false)) (fset 47 (some (.int .i64 (rows.length : Nat))) (fset 48 (some (.int .i64 (j : Int))) Z28))) ∧
  (b, Zb.cells 5 ws) :: (β ++ σ) = σ' ∧ Zrs ws cs β ∧ cs.length = l.length ∧ (∀ x ∈ cs, x.Sm) ∧ j ≤ rows.length ∧ Zss l (rows.drop j) cs = Y ∧ m = rows.length - j) (n := rows.length)
  ⟨0, _, _, [], rfl, rfl, Zrs.nil l.length, List.length_replicate, hz, by omega, hY, rfl⟩ ?_
 rintro m F σ' ⟨j, ws, cs, β, rfl, rfl, hG, hcl, hS, hj, hYj, rfl⟩
 (repeat(first|refine Kq rfl rfl rfl ?_|(refine Z99 ?_; (repeat(first|refine Z9x rfl ?_|refine Z9y ?_)); refine Z9w ?_)|refine Ks ?_|refine Zb1 (fun _ _ => rfl) ?_))
 refine Za2 (p := (j : Int) < (rows.length : Int)) rfl (fun h5 => ?_) (fun h5 => ?_)
 ·have hjl : j < rows.length := by omega
  have hm := List.getElem_mem hjl
  have hxv : (Zmg rows)[((j : Nat) : Int).toNat]? = some (encV rows[j]) := Zml (by rw [Int.toNat_natCast, List.getElem?_eq_getElem hjl])
  have hput := Z1kb l rows[j] (hr _ hm) t 0 hat hTok (hok _ hm).1 ws cs β b σ hG hcl (by omega) hS
  rw [List.drop_eq_getElem_cons hjl, Zss] at hYj
  generalize rows[j] = v at hxv hput hYj
  rw [Zmi] at hxv
  rw [Zmi, hcl] at hput
  (repeat(first|refine Ks ?_|refine Zb1 (fun _ _ => rfl) ?_|refine Z8s ?_|refine Zb2 (fun _ _ => rfl) ?_))
  refine Z9d rfl (by omega) hxv ?_
  repeat refine Kq rfl rfl rfl ?_
  refine Z9o (by simp [Z0.cells, Z0.one]) fun b12 hb12 => ?_
  (first|refine Z9g rfl Z9a rfl (by decide) (Kfi rfl) (fun h => by cases h) Z9h ?_|refine Z96 rfl (Z9g rfl Z9a rfl (by decide) (Kfi rfl) (fun h => by cases h) Z9h ?_))
  (refine Z99 ?_; (repeat(first|refine Z9x rfl ?_|refine Z9y ?_)); refine Z9w ?_)
  refine Zaj (d := 12) (cs := Zmh v) rfl ?_
  (refine Za0 (keep := [10, 12, 46, 47, 48]) ?_; ((repeat(first|refine Z9x rfl ?_|refine Z9y ?_)); refine Z9w ?_))
  refine Za1 ?_
  repeat refine Kq rfl rfl rfl ?_
  obtain ⟨wsx, βx, hx⟩ := Zrs.ex (putF l 0 v cs).1
  refine Z9u rfl hput ⟨_, _, wsx, βx, hx, rfl, rfl⟩ ?_
  rintro r σ2 ⟨ws2, β5, hG2, rfl, rfl⟩
  repeat refine Kq rfl rfl rfl ?_
  (refine Z99 ?_; (repeat(first|refine Z9x rfl ?_|refine Z9y ?_)); refine Z9w ?_)
  have hlen2 := Zsp l v 0 cs
  have hSm2 := Zsq l v 0 cs hS
  generalize putF l 0 v cs = pr at hYj hG2 hlen2 hSm2
  obtain ⟨cs2, ok⟩ := pr
  cases ok with
  | true =>
   rw [if_pos rfl] at hYj
   (repeat(first|refine Zb2 (fun _ _ => rfl) ?_|refine Kc2 rfl ?_))
   refine Zb4 ?_
   repeat refine Kq rfl rfl rfl ?_
   rw [Kwr j (by omega)]
   (refine Z99 ?_; (repeat(first|refine Z9x rfl ?_|refine Z9y ?_)); refine Z9w ?_)
   exact ⟨_, rows.length - (j + 1), HSub.refl _, ⟨j + 1, ws2, cs2, β5, rfl, rfl, hG2, by rw [← hcl, ← hlen2], hSm2, by omega, hYj, rfl⟩, by omega⟩
  | false =>
   rw [if_neg (by simp)] at hYj
   subst hYj
   rw [if_neg (by simp)] at hX
   subst hX
   (repeat(first|refine Kq rfl rfl rfl ?_|(refine Z99 ?_; (repeat(first|refine Z9x rfl ?_|refine Z9y ?_)); refine Z9w ?_)|refine Ks ?_|refine Zb1 (fun _ _ => rfl) ?_|refine Kc1 rfl ?_))
   refine Z8o ?_
   exact Zag rfl (VRle.tup (VRle.cons (VRle.nilF _ _) (VRle.refl _))) (HSub.of_sublist (List.Sublist.cons _ (List.sublist_append_right _ _))) ⟨rfl, rfl⟩
 ·rw [List.drop_of_length_le (by omega), Zss] at hYj
  subst hYj
  rw [if_pos rfl] at hX
  subst hX
  (repeat(first|refine Kq rfl rfl rfl ?_|(refine Z99 ?_; (repeat(first|refine Z9x rfl ?_|refine Z9y ?_)); refine Z9w ?_)|refine Ks ?_|refine Zb1 (fun _ _ => rfl) ?_|refine Zb3 (fun _ _ => rfl) ?_))
  refine Zba (by simpa using hG.freeze [] (by simp) b σ) ?_
  have e : l.length = (cs.map Kc).length := by simp [hcl]
  rw [e]
  refine Zai (d := 4) rfl ?_
  refine Z8o ?_
  exact Kar rfl ⟨rfl, rfl⟩
end Go.Abs
namespace Go.Abs
open Go Go.Proofs
attribute [local irreducible] AWp aops KP
def tI5 : Ty := .mk 3 [] [] 0 0 0
def tL5 : Ty := .mk 10 [] [tI5] 0 0 0
def tK5 : Ty := .mk 12 [[97]] [tL5] 0 0 0
def rowA5 : Vl := .mk false 0 0 [] [.mk false 0 0 [] [.mk false 1 0 [] [], .mk true 0 0 [] []]]
def rowB5 : Vl := .mk false 0 0 [] [.mk true 0 0 [] []]
def Z1kd : List Col := [⟨[true, true], [], [], [], []⟩, ⟨[true, false], [], [], [], [2]⟩, ⟨[true, false], [1], [], [], []⟩]
def Z1ke : List Nd := [⟨tK5, [1], -1, 1⟩, ⟨tL5, [2], 0, 2⟩, ⟨tI5, [], 1, 3⟩]
theorem Z1kf : Zm8 tK5 = 0 := by decide
theorem Z1kg : Zmf tK5 = Z1ke := by rfl
theorem Z1kh : Zst tK5 [rowA5, rowB5] = (Z1kd, 0) := by rfl
theorem Z1ki : takeR Z1kd [true, true, true] tK5 2 ⟨[0, 0, 0], [0, 0, 0]⟩ = some ([rowA5, rowB5], ⟨[2, 2, 2], [2, 1, 1]⟩) := by rfl
theorem Z1kj : Z12v Z1ke Z1kd 2 = [2, 2, 2] := by rfl
theorem Z1kk : tI5.Fit := .mk (by simp [tI5, Ty.kids]) (by simp [tI5, Ty.names]) (by simp [tI5, Ty.names]) (by simp [tI5, Ty.kids])
theorem Z1kl : tL5.Fit := .mk (by simp [tL5, Ty.kids]) (by simp [tL5, Ty.names]) (by simp [tL5, Ty.names]) fun u hu => by
 simp only [tL5, Ty.kids, List.mem_singleton] at hu
 subst hu
 exact Z1kk
theorem Z1km : tK5.Fit := .mk (by simp [tK5, Ty.kids]) (by simp [tK5, Ty.names]) (by simp [tK5, Ty.names, maxLen]) fun u hu => by
 simp only [tK5, Ty.kids, List.mem_singleton] at hu
 subst hu
 exact Z1kl
theorem Z1kn : ∀ v ∈ [rowA5, rowB5], v.Fit := by
 intro v hv
 simp only [List.mem_cons, List.not_mem_nil, or_false] at hv
 rcases hv with rfl | rfl
 ·refine Zxh _ (.mk (by simp [Vl.i]) (by simp [Vl.b]) (by simp [Vl.kids]) fun k hk => ?_)
  simp only [Vl.kids, List.mem_cons, List.not_mem_nil, or_false] at hk
  rcases hk with rfl | rfl
  ·exact Zxg _ _ (by omega)
  ·exact Zxg _ _ (by omega)
 ·exact Zxh _ (Zxg _ _ (by omega))
theorem Z1ko : ColsT Z1ke Z1kd [true, true, true] := by
 have h : ∀ i c, Z1kd[i]? = some c → c ∈ Z1kd := fun i c h => List.mem_of_getElem? h
 refine ⟨rfl, fun i c hc _ => ?_, fun i c hc _ => ?_, fun i c hc _ => ?_⟩
 all_goals
  have := h i c hc
  simp only [Z1kd, List.mem_cons, List.not_mem_nil, or_false] at this
  rcases this with rfl | rfl | rfl
  all_goals first | (constructor <;> simp) | simp
theorem Z1kp : Whole Z1ke [true, true, true] := by
 intro i n hn x hx
 match i, hn with
 | 0, hn => cases hn; simp at hx; subst hx; exact ⟨fun _ => rfl, fun _ => .inl rfl⟩
 | 1, hn => cases hn; simp at hx; subst hx; exact ⟨fun _ => rfl, fun _ => .inl rfl⟩
 | 2, hn => cases hn; simp at hx
 | k + 3, hn => simp [Z1ke] at hn
theorem Z1kq : tK5.Ok := Zqs _ _ _ Z1kf
theorem Z1kr : tL5.Ok := by
 have := Z1kq
 cases this with
 | mk _ h => exact h tL5 (by simp [tK5, Ty.kids])
theorem Z1ks : tI5.Ok := by
 have := Z1kr
 cases this with
 | mk _ h => exact h tI5 (by simp [tL5, Ty.kids])
theorem Z1kt : Asks Z1ke Z1kd [true, true, true] 2 (fun _ => 2) (fun i => i == 0) := by
 refine ⟨rfl, rfl, fun i nd hn _ j x hx => ?_, fun i nd hn _ => ?_⟩
 ·match i, hn with
  | 0, hn =>
   cases hn
   match j, hx with
   | 0, hx => cases hx; exact ⟨rfl, rfl⟩
   | k + 1, hx => simp at hx
  | 1, hn =>
   cases hn
   match j, hx with
   | 0, hx => cases hx; exact ⟨rfl, rfl⟩
   | k + 1, hx => simp at hx
  | 2, hn => cases hn; simp at hx
  | k + 3, hn => simp [Z1ke] at hn
 ·match i, hn with
  | 0, hn =>
   cases hn
   refine ⟨by constructor <;> simp [Z1kd], by constructor <;> simp [Z1kd], by constructor <;> rfl, rfl, by simp, Z1kq, rfl, by simp [Z1kd], by simp [Z1kd], by simp [Z1kd], fun _ => rfl, fun h => by cases h⟩
  | 1, hn =>
   cases hn
   refine ⟨by constructor <;> simp [Z1kd], by constructor <;> simp [Z1kd], by constructor <;> rfl, rfl, by simp, Z1kr, rfl, by simp [Z1kd], by simp [Z1kd], by simp [Z1kd], (fun h => by cases h), fun h => by decide⟩
  | 2, hn =>
   cases hn
   refine ⟨by constructor <;> simp [Z1kd], by constructor <;> simp [Z1kd], by constructor <;> rfl, rfl, by simp, Z1ks, rfl, fun i v hv => ?_, by simp [Z1kd], by simp [Z1kd], (fun h => by cases h), fun h => by cases h⟩
   match i, hv with
   | 0, hv => cases hv; rfl
   | k + 1, hv => simp [Z1kd] at hv
  | k + 3, hn => simp [Z1ke] at hn
theorem Z1ku {n : Nd} {c : Col} {w : Nat} {b : Bool} (h : Right n c w b) : wrongF n c w b = 0 := by
 have g := h.good
 have e : Zxn c = c.here.count true := rfl
 have hs : Z180 n c w := by
  refine ⟨h.here, ?_, ?_, ?_, ?_⟩
  ·rw [g.ints, e]
   cases h1 : Zmm n.t.kind <;> by_cases h2 : n.t.kind = 10 <;> by_cases h3 : n.t.kind = 11 <;> by_cases h4 : n.t.kind = 12 <;> simp [intF, h1, h2, h3, h4]
  ·rw [g.ns, e]; by_cases h1 : n.t.kind = 9 <;> simp [h1]
  ·rw [g.texts, e]; cases h1 : Zmm n.t.kind <;> simp [h1]
  ·rw [g.lens, e]; by_cases h2 : n.t.kind = 10 <;> by_cases h3 : n.t.kind = 11 <;> simp [lenF, h2, h3]
 rw [Z185 hs h.ints h.texts h.lens, if_neg (fun x => x.2 (h.null x.1)), if_neg (fun x => by have := h.sum x.1; omega)]
theorem Z1kv {l : List Nd} (hT : TreeN l) {cols : List Col} {keep : List Bool} {n : Nat} {want : Nat → Nat} {key : Nat → Bool} (hA : Asks l cols keep n want key) (hW : Whole l keep) {n0 : Nd} (hn0 : l[0]? = some n0) : Clean l cols keep n l.length := by
 intro x hx
 have hq := List.getElem?_eq_getElem hx
 rw [faultF, hq]
 simp only
 by_cases hk : keep.getD x false = true
 ·rw [if_pos hk]
  have h := hA.right x _ hq hk
  have hwk : wantF l cols n x = want x ∧ keyF l x = key x := by
   by_cases e : x = 0
   ·subst e
    exact ⟨(Z1gf hT hn0 cols n).trans hA.w0.symm, (Z1gg hT hn0).trans hA.k0.symm⟩
   ·obtain ⟨⟨p, q, j, e1, e2, e3, e4, _⟩⟩ := hT.par x _ hq (by omega)
    have hkp := (hW p q e3 x (List.mem_of_getElem? e4)).1 hk
    obtain ⟨a1, a2⟩ := hA.kid p q e3 hkp j x e4
    exact ⟨(Z1gi hT e3 cols n e4).trans a1.symm, (Z1ac hT e3 e4).trans a2.symm⟩
  rw [hwk.1, hwk.2]
  exact Z1ku h
 ·rw [if_neg hk]
theorem Z1kw : bresF (Zmf tK5) Z1kd [true, true, true] tK5 2 = ([rowA5, rowB5], 0) := by
 rw [Z1kg]
 have hT : TreeN Z1ke := by rw [← Z1kg]; exact Z18f _
 exact Z1gn (Z1gk _ _ fun x hx => Z1kv hT Z1kt Z1kp rfl x (by omega)) Z1ki
theorem Z1kx (σ : Zc) : Z1s Try.prog Zcs [] σ fun r σ' => r = .bool true ∧ σ' = σ := by
 have hS := Z1kc tK5 Z1km [rowA5, rowB5] Z1kn (by simp)
 rw [Z1kh, Zm0] at hS
 have hFl := Zxe tK5 Z1km
 rw [Z1kg, Zm0] at hFl
 have hB := fun f σ => Z1gq tK5 Z1km Z1kf Z1kd 2 (by omega) [] [true, true, true] (.inl ⟨rfl, rfl⟩) rfl rfl rfl (fun c hc => by
  simp only [Z1kd, List.mem_cons, List.not_mem_nil, or_false] at hc
  rcases hc with rfl | rfl | rfl <;> constructor <;> simp) (by rw [Z1kg]; exact Z1kp) false f σ
 rw [Z1kw] at hB
 rw [Zm0] at hB
 have hC := Z12y Z1ke (by rw [← Z1kg]; exact Z1a7 _) (by decide) Z1kd rfl (fun c hc => by obtain ⟨i, hi⟩ := List.getElem?_of_mem hc; exact Z1ko.sm i c hi (by match i, hi with | 0, _ => rfl | 1, _ => rfl | 2, _ => rfl | k + 3, hi => simp [Z1kd] at hi)) 2 true false
 rw [Z1kj] at hC
 refine Z94 rfl Z1k9 (Nat.le_of_ble_eq_true rfl) ?_
 refine Za1 ?_
 repeat refine Kq rfl rfl rfl ?_
 (refine Z99 ?_; (repeat(first|refine Z9x rfl ?_|refine Z9y ?_)); refine Z9w ?_)
 refine Za1 ?_
 repeat refine Kq rfl rfl rfl ?_
 refine Z9o (by simp [Z0.cells, Z0.one]) fun b1 hb1 => ?_
 (first|refine Z9g rfl Z9a rfl (by decide) (Kfi rfl) (fun h => by cases h) Z9h ?_|refine Z96 rfl (Z9g rfl Z9a rfl (by decide) (Kfi rfl) (fun h => by cases h) Z9h ?_))
 (refine Z99 ?_; (repeat(first|refine Z9x rfl ?_|refine Z9y ?_)); refine Z9w ?_)
 refine Zba (HShift.view (ys := [.agg (Zlz tK5)]) rfl rfl (by
  simp only [Zlz, tK5, tL5, tI5, Ty.kind, Ty.names, Ty.kids, Ty.len, Ty.prec, Ty.scale, Zly, encT, List.map_cons, List.map_nil]
  (repeat(first|exact VRle.refl _ | exact Zbf|refine Zbg rfl rfl ?_|refine Zbh rfl ?_|refine Zbe ?_ ?_)))) ?_
 refine Zaj (d := 1) (cs := Zlz tK5) rfl ?_
 have hfb := Z1kn rowA5 (by simp)
 have hfc := Z1kn rowB5 (by simp)
 have hsA := Zty rowA5 hfb rowA5
 have hsB := Zty rowB5 hfc rowB5
 rw [Ztw, Zmi] at hsA hsB
 refine Za1 ?_
 repeat refine Kq rfl rfl rfl ?_
 (refine Z99 ?_; (repeat(first|refine Z9x rfl ?_|refine Z9y ?_)); refine Z9w ?_)
 refine Zb7 (d := 2) (v' := .slc 5 (Zmg [rowA5, rowB5]) false) rfl (Zam.le (by
  simp only [Zmg, encV, rowA5, rowB5, bytes, List.map_nil]
  (repeat(first|exact VRle.refl _ | exact Zbf|refine Zbg rfl rfl ?_|refine Zbh rfl ?_|refine Zbe ?_ ?_))) (HSub.refl _)) ?_
 (repeat(first|refine Kq rfl rfl rfl ?_|refine Ks ?_|refine Zb1 (fun _ _ => rfl) ?_))
 refine Z9v rfl (hS _) ?_
 (repeat(first|refine Kq rfl rfl rfl ?_|refine Z96 rfl (Kq rfl rfl rfl ?_)|(refine Z99 ?_; (repeat(first|refine Z9x rfl ?_|refine Z9y ?_)); refine Z9w ?_)|refine Ks ?_|refine Zb1 (fun _ _ => rfl) ?_|refine Zb2 (fun _ _ => rfl) ?_|refine Kc2 rfl ?_))
 refine Z9v rfl (Z1s.args (VRle.cons (VRle.refl _) (VRle.cons (VRle.refl _) (VRle.cons (VRle.refl _) (VRle.nil_slc 0 1 true)))) (hB true _)) ?_
 (repeat(first|refine Kq rfl rfl rfl ?_|(refine Z99 ?_; (repeat(first|refine Z9x rfl ?_|refine Z9y ?_)); refine Z9w ?_)|refine Ks ?_|refine Zb1 (fun _ _ => rfl) ?_))
 refine Z9v rfl (hFl _) ?_
 (repeat refine Kq rfl rfl rfl ?_)
 refine Z9v rfl (hC _) ?_
 (repeat(first|refine Kq rfl rfl rfl ?_|refine Z96 rfl (Kq rfl rfl rfl ?_)|(refine Z99 ?_; (repeat(first|refine Z9x rfl ?_|refine Z9y ?_)); refine Z9w ?_)|refine Ks ?_|refine Zb1 (fun _ _ => rfl) ?_))
 refine Z96 rfl (Z9v rfl (hsA _) ?_)
 (repeat(first|refine Kq rfl rfl rfl ?_|refine Z96 rfl (Kq rfl rfl rfl ?_)))
 refine Z96 rfl (Z9v rfl (hsB _) ?_)
 (repeat(first|refine Kq rfl rfl rfl ?_|refine Z96 rfl (Kq rfl rfl rfl ?_)))
 refine Z96 rfl (Z9v rfl (Zrq ⟨[true, false], [], [], [], [2]⟩ (by simp) _) ?_)
 (repeat(first|refine Kq rfl rfl rfl ?_|refine Z96 rfl (Kq rfl rfl rfl ?_)))
 refine Z96 rfl (Z9v rfl (Zrq ⟨[true, true], [], [], [], []⟩ (by simp) _) ?_)
 (repeat(first|refine Kq rfl rfl rfl ?_|refine Z96 rfl (Kq rfl rfl rfl ?_)|(refine Z99 ?_; (repeat(first|refine Z9x rfl ?_|refine Z9y ?_)); refine Z9w ?_)))
 refine Z8o ?_
 exact Kar rfl ⟨rfl, rfl⟩
end Go.Abs
namespace Go.Abs
open Go Go.Proofs
attribute [local irreducible] AWp aops KP
theorem Z1ky (rows : List Vl) (hf : ∀ v ∈ rows, v.Fit) (hl : rows.length ≤ 140737488355328) (f g : Bool) (σ : Zc) : Z1s Try.prog Zd0 [.slc 5 (Zmg rows) f, .slc 5 (Zmg rows) g] σ fun r σ' => r = .bool true ∧ σ' = σ := by
 have hrl := Zmk rows
 refine Z94 rfl Z1ka (Nat.le_of_ble_eq_true rfl) ?_
 (repeat(first|refine Kq rfl rfl rfl ?_|(refine Z99 ?_; (repeat(first|refine Z9x rfl ?_|refine Z9y ?_)); refine Z9w ?_)|refine Ks ?_|refine Zb1 (fun _ _ => rfl) ?_))
 rw [hrl]
 (rw [decide_eq_false (p := (rows.length : Int) ≠ (rows.length : Int)) (by omega)])
 (repeat(first|refine Kq rfl rfl rfl ?_|(refine Z99 ?_; (repeat(first|refine Z9x rfl ?_|refine Z9y ?_)); refine Z9w ?_)|refine Ks ?_|refine Zb1 (fun _ _ => rfl) ?_|refine Z8s ?_|refine Zb2 (fun _ _ => rfl) ?_|refine Kc2 rfl ?_))
 refine Za6 (fun m F σ' => ∃ i : Nat, F = fset 0 (some (.slc 5 (Zmg rows) f)) (fset 1 (some (.slc 5 (Zmg rows) g)) (fset 5 (some (.int .i64 i)) Z28)) ∧ σ = σ' ∧ i ≤ rows.length ∧ m = rows.length - i) (n := rows.length)
  ⟨0, rfl, rfl, by omega, by omega⟩ ?_
 rintro m F σ' ⟨i, rfl, rfl, hi, rfl⟩
 (repeat(first|refine Kq rfl rfl rfl ?_|(refine Z99 ?_; (repeat(first|refine Z9x rfl ?_|refine Z9y ?_)); refine Z9w ?_)|refine Ks ?_|refine Zb1 (fun _ _ => rfl) ?_))
 rw [hrl]
 refine Za2 (p := (i : Int) < (rows.length : Nat)) rfl (fun h3 => ?_) (fun h3 => ?_)
 ·have hil : i < rows.length := by omega
  have hx : (Zmg rows)[(i : Int).toNat]? = some (encV rows[i]) := by rw [Zmj]; exact Zrn (f := encV) hil
  have hs := Zty rows[i] (hf _ (List.getElem_mem hil)) rows[i]
  rw [Ztw] at hs
  generalize rows[i] = v at hx hs
  rw [Zmi] at hx hs
  (repeat(first|refine Kq rfl rfl rfl ?_|refine Ks ?_|refine Zb1 (fun _ _ => rfl) ?_|refine Z8s ?_|refine Zb2 (fun _ _ => rfl) ?_))
  refine Z9d rfl (by omega) hx ?_
  (repeat refine Kq rfl rfl rfl ?_)
  refine Z9d rfl (by omega) hx ?_
  (repeat refine Kq rfl rfl rfl ?_)
  refine Z9v rfl (hs _) ?_
  (repeat(first|refine Kq rfl rfl rfl ?_|(refine Z99 ?_; (repeat(first|refine Z9x rfl ?_|refine Z9y ?_)); refine Z9w ?_)|refine Zb2 (fun _ _ => rfl) ?_|refine Kc2 rfl ?_))
  refine Zb4 ?_
  repeat refine Kq rfl rfl rfl ?_
  rw [Kwr i (by omega)]
  (refine Z99 ?_; (repeat(first|refine Z9x rfl ?_|refine Z9y ?_)); refine Z9w ?_)
  exact ⟨_, rows.length - (i + 1), HSub.refl _, ⟨i + 1, rfl, rfl, by omega, rfl⟩, by omega⟩
 ·(repeat(first|refine Kq rfl rfl rfl ?_|(refine Z99 ?_; (repeat(first|refine Z9x rfl ?_|refine Z9y ?_)); refine Z9w ?_)|refine Ks ?_|refine Zb1 (fun _ _ => rfl) ?_|refine Zb3 (fun _ _ => rfl) ?_))
  refine Z8o ?_
  exact Kar rfl ⟨rfl, rfl⟩
end Go.Abs
namespace Go.Abs
open Go Go.Proofs
attribute [local irreducible] AWp aops KP
theorem Z1kz (t : Ty) (ht : t.Fit) (cols : List Col) (n : Int) (hn : n ≤ 400) (hin : ∀ c ∈ cols, ColIn c) (kb : List Bool) (hkb : kb = [] ∨ (Zm8 t = 0 ∧ kb.length = (Zmf t).length ∧ kb.getD 0 false = true ∧ Whole (Zmf t) kb)) :
  ∃ (VS : List Vl) (e : Nat), (∀ v ∈ VS, v.Fit) ∧ VS.length ≤ 4096 ∧ (∀ g f σ, Z1s Try.prog Zcz [encT t, .slc 5 (cols.map Kc) g, .int .i64 n, .slc 1 (kb.map .bool) f] σ fun r σ' => r = .tup [.slc 5 (Zmg VS) false, .int .i64 (e : Nat)] ∧ σ' = σ) ∧
   (∀ g f σ, Z1s Try.prog Zd5 [encT t, .slc 5 (cols.map Kc) g, .int .i64 n, .slc 1 (kb.map .bool) f] σ fun r σ' => r = .tup [.slc 5 (Zmg VS) false, .int .i64 (e : Nat)] ∧ σ' = σ) := by
 by_cases hbad : Zmf t = [] ∨ n < 0 ∨ cols.length ≠ (Zmf t).length
 ·exact ⟨[], 1, by simp, by simp, fun g f σ => Z1h2 t ht cols n (by omega) kb hbad g f σ, fun g f σ => Z1h3 t ht cols n (by omega) kb hbad g f σ⟩
 ·simp only [not_or, Nat.not_lt, Classical.not_not] at hbad
  obtain ⟨h1, h2, h3⟩ := hbad
  have h0 : Zm8 t = 0 := by
   by_cases h : Zm8 t = 0
   ·exact h
   ·exact absurd (flatten_nil.2 h) h1
  have hT := Z18f t
  have hpos : 0 < (Zmf t).length := List.length_pos_iff.2 h1
  obtain ⟨m, rfl⟩ : ∃ m : Nat, n = (m : Int) := ⟨n.toNat, by omega⟩
  obtain ⟨keep, hk1, hk2, hk3, hk4⟩ : ∃ keep : List Bool, ((kb = [] ∧ keep = List.replicate (Zmf t).length true) ∨ (keep = kb ∧ kb ≠ [])) ∧ keep.length = (Zmf t).length ∧ keep.getD 0 false = true ∧ Whole (Zmf t) keep := by
   rcases hkb with rfl | ⟨_, a1, a2, a3⟩
   ·refine ⟨_, .inl ⟨rfl, rfl⟩, List.length_replicate, ?_, Z1ag hT⟩
    rw [List.getD_eq_getElem?_getD, List.getElem?_replicate, if_pos hpos]; rfl
   ·exact ⟨kb, .inr ⟨rfl, fun e => by rw [e] at a1; simp at a1; omega⟩, a1, a2, a3⟩
  obtain ⟨f1, f2⟩ := Z1h1 h0 (n := m) (by omega) hk3 h3 hin hk4
  exact ⟨_, _, f1, f2, fun g f σ => Z1gq t ht h0 cols m (by omega) kb keep hk1 hk2 hk3 h3 hin hk4 g f σ, fun g f σ => Z1gy t ht h0 cols m (by omega) kb keep hk1 hk2 hk3 h3 hin hk4 g f σ⟩
theorem Z1l0 (t : Ty) (cols : List Col) (n : Int) (ks : List Int) (hints : ∀ c ∈ cols, ∀ v ∈ c.ints, -9223372036854775808 ≤ v ∧ v ≤ 9223372036854775807) (σ : Zc) : Z1s Try.prog Zbs [encT t, .slc 5 (cols.map Kc) false, .int .i64 n, .slc 1 (ks.map (.int .i64)) false] σ fun r σ' => r = .bool true := by
 have hFew := Zxb t
 have hkm : (ks.map (Z0.int .i64)).length = ks.length := List.length_map ..
 have hcm : (cols.map Kc).length = cols.length := List.length_map ..
 rw [Zm0] at hFew ⊢
 refine Z94 rfl Z1k8 (Nat.le_of_ble_eq_true rfl) ?_
 refine Za1 ?_
 refine Z9n rfl (Kfi rfl) fun b4 hb4 => ?_
 repeat refine Kq rfl rfl rfl ?_
 (refine Z99 ?_; (repeat(first|refine Z9x rfl ?_|refine Z9y ?_)); refine Z9w ?_)
 refine Zaj (d := 4) (cs := Zlz t) rfl ?_
 (repeat(first|refine Ks ?_|refine Zb1 (fun _ _ => rfl) ?_))
 refine Z9v rfl (Z1kx _) ?_
 (repeat(first|refine Kq rfl rfl rfl ?_|(refine Z99 ?_; (repeat(first|refine Z9x rfl ?_|refine Z9y ?_)); refine Z9w ?_)|refine Ks ?_|refine Zb1 (fun _ _ => rfl) ?_|refine Zb2 (fun _ _ => rfl) ?_|refine Kc2 rfl ?_))
 refine Z9v rfl (hFew _) ?_
 by_cases hfw : fewT 1 t ≤ 150
 rotate_left
 ·(rw [decide_eq_false (p := fewT 1 t ≤ 150) (by omega)])
  (repeat(first|refine Kq rfl rfl rfl ?_|refine Z97 rfl ?_|(refine Z99 ?_; (repeat(first|refine Z9x rfl ?_|refine Z9y ?_)); refine Z9w ?_)|refine Ks ?_|refine Zb1 (fun _ _ => rfl) ?_|refine Kc1 rfl ?_))
  refine Z8o ?_
  exact Kar rfl rfl
 (rw [decide_eq_true (p := fewT 1 t ≤ 150) (by omega)])
 have hfit : t.Fit := (Zx9 t 1 (by omega)).fit
 (repeat(first|refine Kq rfl rfl rfl ?_|refine Z96 rfl (Kq rfl rfl rfl ?_)))
 rw [hcm]
 by_cases hc : 150 < cols.length
 ·(rw [decide_eq_true (p := (cols.length : Int) > 150) (by omega)])
  (repeat(first|refine Kq rfl rfl rfl ?_|refine Z97 rfl ?_|(refine Z99 ?_; (repeat(first|refine Z9x rfl ?_|refine Z9y ?_)); refine Z9w ?_)|refine Ks ?_|refine Zb1 (fun _ _ => rfl) ?_|refine Kc1 rfl ?_))
  refine Z8o ?_
  exact Kar rfl rfl
 (rw [decide_eq_false (p := (cols.length : Int) > 150) (by omega)])
 (repeat(first|refine Kq rfl rfl rfl ?_|refine Z96 rfl (Kq rfl rfl rfl ?_)))
 rw [hkm]
 by_cases hk20 : 20 < ks.length
 ·(rw [decide_eq_true (p := (ks.length : Int) > 20) (by omega)])
  (repeat(first|refine Kq rfl rfl rfl ?_|refine Z97 rfl ?_|(refine Z99 ?_; (repeat(first|refine Z9x rfl ?_|refine Z9y ?_)); refine Z9w ?_)|refine Ks ?_|refine Zb1 (fun _ _ => rfl) ?_|refine Kc1 rfl ?_))
  refine Z8o ?_
  exact Kar rfl rfl
 (rw [decide_eq_false (p := (ks.length : Int) > 20) (by omega)])
 (repeat(first|refine Kq rfl rfl rfl ?_|refine Z96 rfl (Kq rfl rfl rfl ?_)))
 by_cases hn400 : n > 400
 ·(rw [decide_eq_true (p := n > 400) (by omega)])
  (repeat(first|refine Kq rfl rfl rfl ?_|(refine Z99 ?_; (repeat(first|refine Z9x rfl ?_|refine Z9y ?_)); refine Z9w ?_)|refine Ks ?_|refine Zb1 (fun _ _ => rfl) ?_|refine Kc1 rfl ?_))
  refine Z8o ?_
  exact Kar rfl rfl
 (rw [decide_eq_false (p := n > 400) (by omega)])
 skip
 (repeat(first|refine Kq rfl rfl rfl ?_|(refine Z99 ?_; (repeat(first|refine Z9x rfl ?_|refine Z9y ?_)); refine Z9w ?_)|refine Ks ?_|refine Zb1 (fun _ _ => rfl) ?_|refine Z8s ?_|refine Zb2 (fun _ _ => rfl) ?_|refine Kc2 rfl ?_))
 refine Za6 (fun m F σ' => ∃ (i : Nat) (kv : Z0) (β : Zc), F = fset 1 (some (.slc 5 (cols.map Kc) false)) (fset 2 (some (.int .i64 n)) (fset 3 (some (.slc 1 (ks.map (.int .i64)) false)) (fset 4 (some (.iptr (Zlz t))) (fset 9 (some kv) (fset 10 (some (.int .i64 (i : Nat))) Z28))))) ∧
  β ++ σ = σ' ∧ Zb5 5 kv ((cols.take i).map Kc) β ∧ i ≤ cols.length ∧ (∀ (j : Nat) c, j < i → cols[j]? = some c → fewC c = true) ∧ m = cols.length - i) (n := cols.length)
  ⟨0, .slc 0 [] true, [], rfl, rfl, Zb5.nil 5 0, by omega, fun j c h => by omega, by omega⟩ ?_
 rintro m F σ' ⟨i, kv, β, rfl, rfl, ho, hi, hfc, rfl⟩
 (repeat(first|refine Kq rfl rfl rfl ?_|(refine Z99 ?_; (repeat(first|refine Z9x rfl ?_|refine Z9y ?_)); refine Z9w ?_)|refine Ks ?_|refine Zb1 (fun _ _ => rfl) ?_))
 rw [hcm]
 refine Za2 (p := (i : Int) < (cols.length : Nat)) rfl (fun h3 => ?_) (fun h3 => ?_)
 ·have hil : i < cols.length := by omega
  have hgC := Zrn (f := Kc) hil
  have hgi := List.getElem?_eq_getElem hil
  have htk : (cols.take i).map Kc ++ [.agg (Zrl cols[i])] = (cols.take (i + 1)).map Kc := by
   rw [List.take_add_one, hgi, List.map_append]; rfl
  have htl : ((cols.take i).map Kc).length ≤ 150 := by rw [List.length_map, List.length_take]; omega
  generalize cols[i] = c at hgC hgi htk
  have hfw := Z1h4 c
  have hof := Z1h5 c
  refine Zb2 (fun _ _ => rfl) ?_
  refine Ks ?_
  refine Z8s ?_
  refine Ks ?_
  refine Ks ?_
  refine Zb1 (fun _ _ => rfl) ?_
  repeat refine Kq rfl rfl rfl ?_
  refine Z9d rfl (by omega) hgC ?_
  repeat refine Kq rfl rfl rfl ?_
  refine Z9v rfl (hfw _) ?_
  repeat refine Kq rfl rfl rfl ?_
  (refine Z99 ?_; (repeat(first|refine Z9x rfl ?_|refine Z9y ?_)); refine Z9w ?_)
  cases hcf : fewC c with
  | false =>
   refine Kc1 rfl ?_
   (repeat(first|refine Kq rfl rfl rfl ?_|(refine Z99 ?_; (repeat(first|refine Z9x rfl ?_|refine Z9y ?_)); refine Z9w ?_)|refine Ks ?_|refine Zb1 (fun _ _ => rfl) ?_))
   refine Z8o ?_
   exact Kar rfl rfl
  | true =>
   refine Kc2 rfl ?_
   refine Zb2 (fun _ _ => rfl) ?_
   (refine Za0 (keep := [1, 2, 3, 4, 9, 10]) ?_; ((repeat(first|refine Z9x rfl ?_|refine Z9y ?_)); refine Z9w ?_))
   refine Zb1 (fun _ _ => rfl) ?_
   repeat refine Kq rfl rfl rfl ?_
   refine Z9d rfl (by omega) hgC ?_
   repeat refine Kq rfl rfl rfl ?_
   refine Z9v rfl (hof _) ?_
   repeat refine Kq rfl rfl rfl ?_
   refine Zb6 (ys := [.agg (Zrl c)]) ho rfl rfl (by rw [List.length_singleton]; omega) fun b' hb' => ?_
   rw [htk]
   repeat refine Kq rfl rfl rfl ?_
   (refine Z99 ?_; (repeat(first|refine Z9x rfl ?_|refine Z9y ?_)); refine Z9w ?_)
   refine Zb4 ?_
   repeat refine Kq rfl rfl rfl ?_
   rw [Kwr i (by omega)]
   (refine Z99 ?_; (repeat(first|refine Z9x rfl ?_|refine Z9y ?_)); refine Z9w ?_)
   refine ⟨_, cols.length - (i + 1), HSub.refl _, ⟨i + 1, _, [(b', _)], rfl, rfl, Zb5.mk, by omega, fun j c' hj hc' => ?_, rfl⟩, by omega⟩
   by_cases e : j = i
   ·subst e; rw [hgi] at hc'; cases hc'; exact hcf
   ·exact hfc j c' (by omega) hc'
 have hfc2 : ∀ c ∈ cols, fewC c = true := fun c hc => by
  obtain ⟨j, hj⟩ := List.getElem?_of_mem hc
  exact hfc j c (by have := (List.getElem?_eq_some_iff.1 hj).1; omega) hj
 rw [List.take_of_length_le (by omega)] at ho
 refine Zb3 (fun _ _ => rfl) ?_
 (refine Za0 (keep := [1, 2, 3, 4, 9]) ?_; ((repeat(first|refine Z9x rfl ?_|refine Z9y ?_)); refine Z9w ?_))
 have go : ∀ (f : Bool), AWp Try.prog Z1jk.n (Z1jk.code.snd 5) (ARet Z1jk.res fun r σ' => r = .bool true)
   (fset 1 (some (.slc 5 (cols.map Kc) false)) (fset 2 (some (.int .i64 n)) (fset 3 (some (.slc 1 (ks.map (.int .i64)) false)) (fset 4 (some (.iptr (Zlz t))) (fset 9 (some (.slc 5 (cols.map Kc) f)) Z28))))) σ := by
  intro f
  have hin : ∀ c ∈ cols, ColIn c := fun c hc => by
   have := hfc2 c hc
   unfold fewC at this
   simp only [Bool.and_eq_true, Bool.not_eq_true', Bool.or_eq_false_iff, decide_eq_false_iff_not, Nat.not_lt] at this
   obtain ⟨⟨⟨⟨⟨a1, a2⟩, a3⟩, a4⟩, a5⟩, a6⟩ := this
   exact ⟨by omega, hints c hc, fun b hb => by have := of_decide_eq_true (List.all_eq_true.1 a6 b hb); omega⟩
  have fin : ∀ (kb : List Bool) (f2 : Bool), (kb = [] ∨ (Zm8 t = 0 ∧ kb.length = (Zmf t).length ∧ kb.getD 0 false = true ∧ Whole (Zmf t) kb)) → AWp Try.prog Z1jk.n (Z1jk.code.snd 7) (ARet Z1jk.res fun r σ' => r = .bool true)
    (fset 1 (some (.slc 5 (cols.map Kc) false)) (fset 2 (some (.int .i64 n)) (fset 4 (some (.iptr (Zlz t))) (fset 9 (some (.slc 5 (cols.map Kc) f)) (fset 11 (some (.slc 1 (kb.map .bool) f2)) Z28))))) σ := by
   intro kb f2 hkb
   obtain ⟨VS, e, hVf, hVl, hP, hR⟩ := Z1kz t hfit cols n (by omega) hin kb hkb
   rw [Zm0] at hP hR
   have hRow := Z1ky VS hVf (by omega) false false
   (repeat(first|refine Kq rfl rfl rfl ?_|refine Ks ?_|refine Zb1 (fun _ _ => rfl) ?_))
   refine Z9v rfl (hP _ _ _) ?_
   (repeat(first|refine Kq rfl rfl rfl ?_|(refine Z99 ?_; (repeat(first|refine Z9x rfl ?_|refine Z9y ?_)); refine Z9w ?_)|refine Ks ?_|refine Zb1 (fun _ _ => rfl) ?_))
   refine Z9v rfl (hR _ _ _) ?_
   (repeat(first|refine Kq rfl rfl rfl ?_|(refine Z99 ?_; (repeat(first|refine Z9x rfl ?_|refine Z9y ?_)); refine Z9w ?_)|refine Ks ?_|refine Zb1 (fun _ _ => rfl) ?_))
   rw [show decide (((e : Nat) : Int) = ((e : Nat) : Int)) = true from decide_eq_true rfl]
   (repeat refine Z96 rfl (Kq rfl rfl rfl ?_))
   refine Z96 rfl (Z9v rfl (hRow _) ?_)
   (repeat(first|refine Kq rfl rfl rfl ?_|(refine Z99 ?_; (repeat(first|refine Z9x rfl ?_|refine Z9y ?_)); refine Z9w ?_)))
   refine Z8o ?_
   exact Kar rfl rfl
  have hRC := Znn t hfit
  have hRF := Zrb t (Znn t hfit)
  rw [Zm0] at hRC hRF
  have fin0 : AWp Try.prog Z1jk.n (Z1jk.code.snd 7) (ARet Z1jk.res fun r σ' => r = .bool true)
    (fset 1 (some (.slc 5 (cols.map Kc) false)) (fset 2 (some (.int .i64 n)) (fset 4 (some (.iptr (Zlz t))) (fset 9 (some (.slc 5 (cols.map Kc) f)) (fset 11 (some (.slc 0 [] true)) Z28))))) σ := by
   refine Zb7 (d := 11) (v := .slc 0 [] true) (v' := .slc 1 (([] : List Bool).map .bool) false) rfl (Zam.le (VRle.nilF _ _) (HSub.refl _)) ?_
   (refine Za0 (keep := [1, 2, 4, 9, 11]) ?_; ((repeat(first|refine Z9x rfl ?_|refine Z9y ?_)); refine Z9w ?_))
   exact fin [] false (.inl rfl)
  refine Za1 ?_
  repeat refine Kq rfl rfl rfl ?_
  (refine Z99 ?_; (repeat(first|refine Z9x rfl ?_|refine Z9y ?_)); refine Z9w ?_)
  refine Ks ?_
  refine Ks ?_
  refine Zb1 (fun _ _ => rfl) ?_
  repeat refine Kq rfl rfl rfl ?_
  refine Z9v rfl (hRC _) ?_
  (repeat refine Kq rfl rfl rfl ?_)
  by_cases hck : Zm8 t = 0
  rotate_left
  ·(rw [decide_eq_false (p := (Zm8 t : Int) = 0) (by omega)])
   (repeat(first|refine Kq rfl rfl rfl ?_|refine Z97 rfl ?_))
   (refine Z99 ?_; (repeat(first|refine Z9x rfl ?_|refine Z9y ?_)); refine Z9w ?_)
   refine Kc2 rfl ?_
   refine Zb2 (fun _ _ => rfl) ?_
   (refine Za0 (keep := [1, 2, 4, 9, 11]) ?_; ((repeat(first|refine Z9x rfl ?_|refine Z9y ?_)); refine Z9w ?_))
   exact fin0
  (rw [decide_eq_true (p := (Zm8 t : Int) = 0) (by omega)])
  (repeat(first|refine Kq rfl rfl rfl ?_|refine Z96 rfl (Kq rfl rfl rfl ?_)))
  rw [hkm]
  by_cases hk0 : ks.length = 0
  ·(rw [decide_eq_false (p := (ks.length : Int) > 0) (by omega)])
   skip
   (refine Z99 ?_; (repeat(first|refine Z9x rfl ?_|refine Z9y ?_)); refine Z9w ?_)
   refine Kc2 rfl ?_
   refine Zb2 (fun _ _ => rfl) ?_
   (refine Za0 (keep := [1, 2, 4, 9, 11]) ?_; ((repeat(first|refine Z9x rfl ?_|refine Z9y ?_)); refine Z9w ?_))
   exact fin0
  (rw [decide_eq_true (p := (ks.length : Int) > 0) (by omega)])
  skip
  (refine Z99 ?_; (repeat(first|refine Z9x rfl ?_|refine Z9y ?_)); refine Z9w ?_)
  refine Kc1 rfl ?_
  have hT := Z18f t
  have hL100 := Zxj t
  have hCl := fun σ => Z1ar hT (by omega) ks (by omega) false false σ
  refine Ks ?_
  refine Zb1 (fun _ _ => rfl) ?_
  repeat refine Kq rfl rfl rfl ?_
  refine Z9v rfl (hRF _) ?_
  repeat refine Kq rfl rfl rfl ?_
  refine Z9v rfl (hCl _) ?_
  repeat refine Kq rfl rfl rfl ?_
  (refine Z99 ?_; (repeat(first|refine Z9x rfl ?_|refine Z9y ?_)); refine Z9w ?_)
  cases hinC : Z1ao (Zmf t) ks with
  | false =>
   rw [if_neg (by simp), if_neg (by simp)]
   (repeat(first|refine Kq rfl rfl rfl ?_|(refine Z99 ?_; (repeat(first|refine Z9x rfl ?_|refine Z9y ?_)); refine Z9w ?_)|refine Ks ?_|refine Zb1 (fun _ _ => rfl) ?_|refine Kc1 rfl ?_))
   refine Z8o ?_
   exact Kar rfl rfl
  | true =>
   rw [if_pos rfl, if_pos rfl]
   have hcc : ∀ c ∈ ks, 0 ≤ c ∧ c < (Zmf t).length := fun c hc => of_decide_eq_true (List.all_eq_true.1 hinC c hc)
   refine Ks ?_
   refine Ks ?_
   refine Zb1 (fun _ _ => rfl) ?_
   repeat refine Kq rfl rfl rfl ?_
   (refine Z99 ?_; (repeat(first|refine Z9x rfl ?_|refine Z9y ?_)); refine Z9w ?_)
   refine Kc2 rfl ?_
   refine Zb2 (fun _ _ => rfl) ?_
   refine Zb1 (fun _ _ => rfl) ?_
   repeat refine Kq rfl rfl rfl ?_
   (refine Z99 ?_; (repeat(first|refine Z9x rfl ?_|refine Z9y ?_)); refine Z9w ?_)
   exact fin _ false (.inr ⟨hck, Z1b2 _ _, Z1b4 hT hcc (by intro e; rw [e] at hk0; exact hk0 rfl), Z1b3 hT hcc⟩)
 rcases ho with ⟨⟨z, rfl⟩, hxs, rfl⟩ | ⟨b', rfl, rfl⟩
 ·refine Zb7 (d := 9) (v := .slc z [] true) (v' := .slc 5 (cols.map Kc) false) rfl (Zam.le (by rw [hxs]; exact VRle.nilF _ _) (HSub.refl _)) ?_
  (refine Za0 (keep := [1, 2, 3, 4, 9]) ?_; ((repeat(first|refine Z9x rfl ?_|refine Z9y ?_)); refine Z9w ?_))
  exact go false
 ·refine Zai (d := 9) (xs := cols.map Kc) rfl ?_
  (refine Za0 (keep := [1, 2, 3, 4, 9]) ?_; ((repeat(first|refine Z9x rfl ?_|refine Z9y ?_)); refine Z9w ?_))
  exact go false
end Go.Abs

