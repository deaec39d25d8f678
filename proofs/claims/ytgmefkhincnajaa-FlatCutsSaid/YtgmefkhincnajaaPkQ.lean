/- Part Q of a proof: merged by program. -/
import Derived.Test.YtgmefkhincnajaaPkL
import Derived.Test.YtgmefkhincnajaaProg
import Derived.KernelRfl
namespace Go.Abs
open Go
def Z1vw : List Z2a := [
  ⟨some 4,(.box 6),[.t 0],none⟩,⟨some 8,.mov,[.c (.slc 0 [] true)],none⟩,⟨some 9,.mov,[.c (.int .i64 0)],none⟩]
def Z1vx : List Z2a := [
  ⟨some 19,(.load true 6),[.t 4],none⟩,⟨some 20,(.call Zcs),[.t 19],none⟩,⟨some 10,.mov,[.t 20],none⟩]
def Z1vy : List Z2a := [
  ⟨some 21,.mov,[.t 10],none⟩,⟨some 22,.lens,[.t 21],none⟩,⟨some 23,(.bin .eql),[.t 22,.c (.int .i64 0)],none⟩,⟨some 24,.mov,[.t 23],none⟩,⟨some 25,.mov,[.t 2],some (24,false)⟩,⟨some 26,(.bin .lss),[.t 25,.c (.int .i64 0)],some (24,false)⟩,⟨some 27,.pick,[.t 24,.c (.bool true),.t 26],none⟩,⟨some 28,.mov,[.t 27],none⟩,⟨some 29,.mov,[.t 2],some (28,false)⟩,⟨some 30,(.bin .gtr),[.t 29,.c (.int .i64 4096)],some (28,false)⟩,⟨some 31,.pick,[.t 28,.c (.bool true),.t 30],none⟩,⟨some 32,.mov,[.t 31],none⟩,⟨some 33,.mov,[.t 1],some (32,false)⟩,⟨some 34,.lens,[.t 33],some (32,false)⟩,⟨some 35,.mov,[.t 10],some (32,false)⟩,⟨some 36,.lens,[.t 35],some (32,false)⟩,⟨some 37,(.bin .neq),[.t 34,.t 36],some (32,false)⟩,⟨some 38,.pick,[.t 32,.c (.bool true),.t 37],none⟩,⟨some 39,.mov,[.t 38],none⟩,⟨some 40,.mov,[.t 3],some (39,false)⟩,⟨some 41,.lens,[.t 40],some (39,false)⟩,⟨some 42,(.bin .gtr),[.t 41,.c (.int .i64 0)],some (39,false)⟩,⟨some 43,.mov,[.t 42],some (39,false)⟩,⟨some 44,.mov,[.t 3],some (43,true)⟩,⟨some 45,.lens,[.t 44],some (43,true)⟩,⟨some 46,.mov,[.t 10],some (43,true)⟩,⟨some 47,.lens,[.t 46],some (43,true)⟩,⟨some 48,(.bin .neq),[.t 45,.t 47],some (43,true)⟩,⟨some 49,.mov,[.t 48],some (43,true)⟩,⟨some 50,.mov,[.t 3],some (49,false)⟩,⟨some 51,(.iad 1),[.t 50,.c (.int .i64 0)],some (49,false)⟩,⟨some 52,(.load false 1),[.t 51],some (49,false)⟩,⟨some 53,.unot,[.t 52],some (49,false)⟩,⟨some 54,.pick,[.t 49,.c (.bool true),.t 53],some (43,true)⟩,⟨some 55,.pick,[.t 43,.t 54,.c (.bool false)],some (39,false)⟩,⟨some 56,.pick,[.t 39,.c (.bool true),.t 55],none⟩]
def Z1vz : List Z2a := [
  ⟨some 8,.mov,[.c (.slc 0 [] true)],none⟩,⟨some 9,.mov,[.c (.int .i64 1)],none⟩]
def Z1w0 : List Z2a := [
  ⟨some 57,.mov,[.t 3],none⟩,⟨some 58,.lens,[.t 57],none⟩,⟨some 59,(.bin .eql),[.t 58,.c (.int .i64 0)],none⟩]
def Z1w1 : List Z2a := [
  ⟨some 60,(.bsl 1),[.c (.bool true)],none⟩,⟨some 61,.mov,[.t 10],none⟩,⟨some 62,.lens,[.t 61],none⟩,⟨some 63,(.call Zez),[.t 60,.t 62],none⟩,⟨some 3,.mov,[.t 63],none⟩]
def Z1w2 : List Z2a := [
  ⟨some 64,.mov,[.t 10],none⟩,⟨some 65,.lens,[.t 64],none⟩,⟨some 66,(.mks 1 8 (.int .i64 0)),[.t 65,.t 65],none⟩,⟨some 11,.mov,[.t 66],none⟩]
def Z1w3 : List Z2a := [
  ⟨some 67,.mov,[.t 10],none⟩,⟨some 68,.lens,[.t 67],none⟩,⟨some 69,(.mks 1 1 (.bool false)),[.t 68,.t 68],none⟩,⟨some 12,.mov,[.t 69],none⟩]
def Z1w4 : List Z2a := [
  ⟨some 70,.mov,[.t 11],none⟩,⟨some 71,.mov,[.t 12],none⟩,⟨some 72,.mov,[.t 2],none⟩,⟨some 73,(.iad 1),[.t 70,.c (.int .i64 0)],none⟩,⟨none,(.store 1),[.t 73,.t 72],none⟩,⟨some 74,(.iad 1),[.t 71,.c (.int .i64 0)],none⟩,⟨none,(.store 1),[.t 74,.c (.bool true)],none⟩]
def Z1w5 : List Z2a := [
  ⟨some 75,.mov,[.t 10],none⟩,⟨some 76,.lens,[.t 75],none⟩,⟨some 77,.mov,[.c (.int .i64 0)],none⟩]
def Z1w6 : List Z2a := [
  ⟨some 78,(.bin .lss),[.t 77,.t 76],none⟩]
def Z1w7 : List Z2a := [
  ⟨some 79,.mov,[.t 77],none⟩,⟨some 13,.mov,[.t 79],none⟩]
def Z1w8 : List Z2a := [
  ⟨some 80,.mov,[.t 3],none⟩,⟨some 81,.mov,[.t 13],none⟩,⟨some 82,(.iad 1),[.t 80,.t 81],none⟩,⟨some 83,(.load false 1),[.t 82],none⟩,⟨some 84,.unot,[.t 83],none⟩]
def Z1w9 : List Z2a := [
  ⟨some 85,.mov,[.t 10],none⟩,⟨some 86,.mov,[.t 13],none⟩,⟨some 87,(.iad 8),[.t 85,.t 86],none⟩,⟨some 88,(.load true 8),[.t 87],none⟩,⟨some 89,.mov,[.t 1],none⟩,⟨some 90,.mov,[.t 13],none⟩,⟨some 91,(.iad 5),[.t 89,.t 90],none⟩,⟨some 92,(.load true 5),[.t 91],none⟩,⟨some 93,.mov,[.t 11],none⟩,⟨some 94,.mov,[.t 13],none⟩,⟨some 95,(.iad 1),[.t 93,.t 94],none⟩,⟨some 96,(.load false 1),[.t 95],none⟩,⟨some 97,.mov,[.t 12],none⟩,⟨some 98,.mov,[.t 13],none⟩,⟨some 99,(.iad 1),[.t 97,.t 98],none⟩,⟨some 100,(.load false 1),[.t 99],none⟩,⟨some 101,.unot,[.t 100],none⟩,⟨some 102,(.call Zf0),[.t 88,.t 92,.t 96,.t 101],none⟩,⟨some 14,.mov,[.t 102],none⟩]
def Z1wa : List Z2a := [
  ⟨some 103,.mov,[.t 14],none⟩,⟨some 104,(.bin .neq),[.t 103,.c (.int .i64 0)],none⟩]
def Z1wb : List Z2a := [
  ⟨some 105,.mov,[.t 14],none⟩,⟨some 8,.mov,[.c (.slc 0 [] true)],none⟩,⟨some 9,.mov,[.t 105],none⟩]
def Z1wc : List Z2a := [
  ⟨some 106,.mov,[.t 10],none⟩,⟨some 107,.mov,[.t 13],none⟩,⟨some 108,(.iad 8),[.t 106,.t 107],none⟩,⟨some 109,(.fad 1),[.t 108],none⟩,⟨some 110,(.load false 1),[.t 109],none⟩,⟨some 111,.lens,[.t 110],none⟩,⟨some 112,.mov,[.c (.int .i64 0)],none⟩]
def Z1wd : List Z2a := [
  ⟨some 113,(.bin .lss),[.t 112,.t 111],none⟩]
def Z1we : List Z2a := [
  ⟨some 114,.mov,[.t 112],none⟩,⟨some 115,(.iad 1),[.t 110,.t 112],none⟩,⟨some 116,(.load false 1),[.t 115],none⟩,⟨some 15,.mov,[.t 114],none⟩,⟨some 16,.mov,[.t 116],none⟩]
def Z1wf : List Z2a := [
  ⟨some 117,.mov,[.t 11],none⟩,⟨some 118,.mov,[.t 16],none⟩,⟨some 119,.mov,[.t 10],none⟩,⟨some 120,.mov,[.t 13],none⟩,⟨some 121,(.iad 8),[.t 119,.t 120],none⟩,⟨some 122,(.load true 8),[.t 121],none⟩,⟨some 123,.mov,[.t 1],none⟩,⟨some 124,.mov,[.t 13],none⟩,⟨some 125,(.iad 5),[.t 123,.t 124],none⟩,⟨some 126,(.load true 5),[.t 125],none⟩,⟨some 127,.mov,[.t 15],none⟩,⟨some 128,(.call Zex),[.t 122,.t 126,.t 127],none⟩,⟨some 129,(.iad 1),[.t 117,.t 118],none⟩,⟨none,(.store 1),[.t 129,.t 128],none⟩]
def Z1wg : List Z2a := [
  ⟨some 130,.mov,[.t 12],none⟩,⟨some 131,.mov,[.t 16],none⟩,⟨some 132,.mov,[.t 10],none⟩,⟨some 133,.mov,[.t 13],none⟩,⟨some 134,(.iad 8),[.t 132,.t 133],none⟩,⟨some 135,(.fad 0),[.t 134],none⟩,⟨some 136,(.load false 1),[.t 135],none⟩,⟨some 137,(.bin .eql),[.t 136,.c (.int .i64 11)],none⟩,⟨some 138,.mov,[.t 137],none⟩,⟨some 139,.mov,[.t 15],some (138,true)⟩,⟨some 140,(.bin .eql),[.t 139,.c (.int .i64 0)],some (138,true)⟩,⟨some 141,.pick,[.t 138,.t 140,.c (.bool false)],none⟩,⟨some 142,(.iad 1),[.t 130,.t 131],none⟩,⟨none,(.store 1),[.t 142,.t 141],none⟩]
def Z1wh : List Z2a := [
  ⟨some 143,(.bin .add),[.t 112,.c (.int .i64 1)],none⟩,⟨some 112,.mov,[.t 143],none⟩]
def Z1wi : Z2b := (.seq (.region Z1wd [1,2,3,10,11,12,13,76,77,110,111,112,113]) (.seq (.cond (.t 113) .skip (.exit 2)) (.seq (.block 3 (.seq (.region Z1we [1,2,3,10,11,12,13,15,16,76,77,110,111,112]) (.seq (.region Z1wf [1,2,3,10,11,12,13,15,16,76,77,110,111,112]) (.region Z1wg [1,2,3,10,11,12,13,76,77,110,111,112])))) (.region Z1wh [1,2,3,10,11,12,13,76,77,110,111,112]))))
def Z1wj : List Z2a := [
  ⟨some 144,(.bin .add),[.t 77,.c (.int .i64 1)],none⟩,⟨some 77,.mov,[.t 144],none⟩]
def Z1wk : Z2b := (.seq (.region Z1w6 [1,2,3,10,11,12,76,77,78]) (.seq (.cond (.t 78) .skip (.exit 0)) (.seq (.block 1 (.seq (.region Z1w7 [1,2,3,10,11,12,13,76,77]) (.seq (.seq (.region Z1w8 [1,2,3,10,11,12,13,76,77,84]) (.cond (.t 84) (.exit 1) .skip)) (.seq (.seq (.region Z1w9 [1,2,3,10,11,12,13,14,76,77]) (.seq (.region Z1wa [1,2,3,10,11,12,13,14,76,77,104]) (.cond (.t 104) (.seq (.region Z1wb [8,9]) .ret) .skip))) (.seq (.region Z1wc [1,2,3,10,11,12,13,76,77,110,111,112]) (.block 2 (.loop Z1wi))))))) (.region Z1wj [1,2,3,10,11,12,76,77]))))
def Z1wl : List Z2a := [
  ⟨some 145,.mov,[.t 10],none⟩,⟨some 146,.mov,[.t 1],none⟩,⟨some 147,.mov,[.t 3],none⟩,⟨some 148,.mov,[.t 10],none⟩,⟨some 149,.lens,[.t 148],none⟩,⟨some 150,(.mks 1 8 (.int .i64 0)),[.t 149,.t 149],none⟩,⟨some 151,.mov,[.t 10],none⟩,⟨some 152,.lens,[.t 151],none⟩,⟨some 153,(.mks 1 8 (.int .i64 0)),[.t 152,.t 152],none⟩,⟨some 154,(.bld [(.slc 0 [] true),(.slc 0 [] true),(.slc 0 [] true),(.slc 0 [] true),(.slc 0 [] true)] [(0,1),(1,1),(2,1),(3,1),(4,1)]),[.t 145,.t 146,.t 147,.t 150,.t 153],none⟩,⟨some 155,(.box 5),[.t 154],none⟩,⟨some 17,.mov,[.t 155],none⟩]
def Z1wm : List Z2a := [
  ⟨some 156,.mov,[.t 10],none⟩,⟨some 157,.mov,[.t 3],none⟩,⟨some 158,(.call Zf1),[.t 156,.t 157],none⟩,⟨some 159,.unot,[.t 158],none⟩]
def Z1wn : List Z2a := [
  ⟨some 8,.mov,[.c (.slc 0 [] true)],none⟩,⟨some 9,.mov,[.c (.int .i64 1)],none⟩]
def Z1wo : List Z2a := [
  ⟨some 160,.mov,[.t 2],none⟩,⟨some 161,(.mks 5 72 (.agg [(.bool false),(.int .i64 0),(.int .i64 0),(.slc 0 [] true),(.slc 0 [] true)])),[.c (.int .i64 0),.t 160],none⟩,⟨some 18,.mov,[.t 161],none⟩]
def Z1wp : List Z2a := [
  ⟨some 162,.mov,[.t 2],none⟩,⟨some 163,.mov,[.c (.int .i64 0)],none⟩]
def Z1wq : List Z2a := [
  ⟨some 164,(.bin .lss),[.t 163,.t 162],none⟩]
def Z1wr : List Z2a := [
  ⟨some 165,.mov,[.t 18],none⟩,⟨some 166,.mov,[.t 17],none⟩,⟨some 167,(.call Zf2),[.t 166,.c (.int .i64 0)],none⟩,⟨some 168,(.bsl 5),[.t 167],none⟩,⟨some 169,(.app 5 72),[.t 165,.t 168],none⟩,⟨some 18,.mov,[.t 169],none⟩]
def Z1ws : List Z2a := [
  ⟨some 170,(.bin .add),[.t 163,.c (.int .i64 1)],none⟩,⟨some 163,.mov,[.t 170],none⟩]
def Z1wt : Z2b := (.seq (.region Z1wq [17,18,162,163,164]) (.seq (.cond (.t 164) .skip (.exit 4)) (.seq (.block 5 (.region Z1wr [17,18,162,163])) (.region Z1ws [17,18,162,163]))))
def Z1wu : List Z2a := [
  ⟨some 171,.mov,[.t 18],none⟩,⟨some 8,.mov,[.t 171],none⟩,⟨some 9,.mov,[.c (.int .i64 0)],none⟩]
def Z1wv : Z2y := ⟨172,(.seq (.region Z1vw [1,2,3,4]) (.seq (.region Z1vx [1,2,3,10]) (.seq (.seq (.region Z1vy [1,2,3,10,56]) (.cond (.t 56) (.seq (.region Z1vz [8,9]) .ret) .skip)) (.seq (.seq (.region Z1w0 [1,2,3,10,59]) (.cond (.t 59) (.region Z1w1 [1,2,3,10]) .skip)) (.seq (.region Z1w2 [1,2,3,10,11]) (.seq (.region Z1w3 [1,2,3,10,11,12]) (.seq (.region Z1w4 [1,2,3,10,11,12]) (.seq (.seq (.region Z1w5 [1,2,3,10,11,12,76,77]) (.block 0 (.loop Z1wk))) (.seq (.region Z1wl [2,3,10,17]) (.seq (.seq (.region Z1wm [2,17,159]) (.cond (.t 159) (.seq (.region Z1wn [8,9]) .ret) .skip)) (.seq (.region Z1wo [2,17,18]) (.seq (.seq (.region Z1wp [17,18,162,163]) (.block 4 (.loop Z1wt))) (.seq (.region Z1wu [8,9]) .ret))))))))))))),[.t 8,.t 9]⟩
def Z1ww : List Z2a := [
  ⟨some 4,(.box 8),[.t 0],none⟩,⟨some 5,(.box 5),[.t 1],none⟩,⟨some 8,.mov,[.c (.int .i64 0)],none⟩]
def Z1wx : List Z2a := [
  ⟨some 20,(.load true 5),[.t 5],none⟩,⟨some 21,(.call Zfz),[.t 20],none⟩,⟨some 9,(.alloc (.int .i64 0)),[],none⟩,⟨none,(.store 1),[.t 9,.t 21],none⟩]
def Z1wy : List Z2a := [
  ⟨some 22,(.fad 0),[.t 4],none⟩,⟨some 23,(.load false 1),[.t 22],none⟩,⟨some 24,(.callp Zfx),[.t 23],none⟩,⟨some 25,(.load true 8),[.t 4],none⟩,⟨some 26,(.callp Zg2),[.t 25],none⟩,⟨some 10,(.alloc (.agg [(.bool false),(.bool false),(.bool false),(.bool false)])),[],none⟩,⟨some 11,(.alloc (.agg [(.int .i64 0),(.slc 0 [] true),(.slc 0 [] true),(.int .i64 0),(.int .i64 0),(.int .i64 0)])),[],none⟩,⟨none,(.store 4),[.t 10,.t 24],none⟩,⟨none,(.store 6),[.t 11,.t 26],none⟩]
def Z1wz : List Z2a := [
  ⟨some 27,(.mkf Zg3 0),[.t 9],none⟩,⟨some 12,.mov,[.t 27],none⟩]
def Z1x0 : List Z2a := [
  ⟨some 28,(.fad 0),[.t 5],none⟩,⟨some 29,(.load false 1),[.t 28],none⟩,⟨some 30,.lens,[.t 29],none⟩,⟨some 31,.mov,[.t 2],none⟩,⟨some 32,(.bin .neq),[.t 30,.t 31],none⟩,⟨some 33,.mov,[.t 32],none⟩,⟨some 34,(.fad 1),[.t 5],some (33,false)⟩,⟨some 35,(.loadp false 1),[.t 34],some (33,false)⟩,⟨some 36,.lens,[.t 35],some (33,false)⟩,⟨some 37,.mov,[.t 12],some (33,false)⟩,⟨some 38,(.fad 0),[.t 10],some (33,false)⟩,⟨some 39,(.load false 1),[.t 38],some (33,false)⟩,⟨some 40,.callv,[.t 37,.t 39],some (33,false)⟩,⟨some 41,(.bin .neq),[.t 36,.t 40],some (33,false)⟩,⟨some 42,.pick,[.t 33,.c (.bool true),.t 41],none⟩,⟨some 43,.mov,[.t 42],none⟩,⟨some 44,(.fad 2),[.t 5],some (43,false)⟩,⟨some 45,(.loadp false 1),[.t 44],some (43,false)⟩,⟨some 46,.lens,[.t 45],some (43,false)⟩,⟨some 47,.mov,[.t 12],some (43,false)⟩,⟨some 48,(.fad 1),[.t 10],some (43,false)⟩,⟨some 49,(.load false 1),[.t 48],some (43,false)⟩,⟨some 50,.callv,[.t 47,.t 49],some (43,false)⟩,⟨some 51,(.bin .neq),[.t 46,.t 50],some (43,false)⟩,⟨some 52,.pick,[.t 43,.c (.bool true),.t 51],none⟩,⟨some 53,.mov,[.t 52],none⟩,⟨some 54,(.fad 3),[.t 5],some (53,false)⟩,⟨some 55,(.loadp false 1),[.t 54],some (53,false)⟩,⟨some 56,.lens,[.t 55],some (53,false)⟩,⟨some 57,.mov,[.t 12],some (53,false)⟩,⟨some 58,(.fad 2),[.t 10],some (53,false)⟩,⟨some 59,(.load false 1),[.t 58],some (53,false)⟩,⟨some 60,.callv,[.t 57,.t 59],some (53,false)⟩,⟨some 61,(.bin .neq),[.t 56,.t 60],some (53,false)⟩,⟨some 62,.pick,[.t 53,.c (.bool true),.t 61],none⟩,⟨some 63,.mov,[.t 62],none⟩,⟨some 64,(.fad 4),[.t 5],some (63,false)⟩,⟨some 65,(.loadp false 1),[.t 64],some (63,false)⟩,⟨some 66,.lens,[.t 65],some (63,false)⟩,⟨some 67,.mov,[.t 12],some (63,false)⟩,⟨some 68,(.fad 3),[.t 10],some (63,false)⟩,⟨some 69,(.load false 1),[.t 68],some (63,false)⟩,⟨some 70,.callv,[.t 67,.t 69],some (63,false)⟩,⟨some 71,(.bin .neq),[.t 66,.t 70],some (63,false)⟩,⟨some 72,.pick,[.t 63,.c (.bool true),.t 71],none⟩]
def Z1x1 : List Z2a := [
  ⟨some 8,.mov,[.c (.int .i64 2)],none⟩]
def Z1x2 : List Z2a := [
  ⟨some 73,(.fad 1),[.t 5],none⟩,⟨some 74,(.load false 1),[.t 73],none⟩,⟨some 75,.lens,[.t 74],none⟩,⟨some 76,.mov,[.c (.int .i64 0)],none⟩]
def Z1x3 : List Z2a := [
  ⟨some 77,(.bin .lss),[.t 76,.t 75],none⟩]
def Z1x4 : List Z2a := [
  ⟨some 78,.mov,[.t 76],none⟩,⟨some 79,(.iad 1),[.t 74,.t 76],none⟩,⟨some 80,(.load false 1),[.t 79],none⟩,⟨some 13,.mov,[.t 78],none⟩,⟨some 14,.mov,[.t 80],none⟩]
def Z1x5 : List Z2a := [
  ⟨some 15,.mov,[.c (.int .i64 0)],none⟩]
def Z1x6 : List Z2a := [
  ⟨some 81,(.fad 1),[.t 10],none⟩,⟨some 82,(.load false 1),[.t 81],none⟩]
def Z1x7 : List Z2a := [
  ⟨some 83,(.fad 2),[.t 5],none⟩,⟨some 84,(.load false 1),[.t 83],none⟩,⟨some 85,.mov,[.t 13],none⟩,⟨some 86,(.iad 1),[.t 84,.t 85],none⟩,⟨some 87,(.load false 1),[.t 86],none⟩,⟨some 15,.mov,[.t 87],none⟩]
def Z1x8 : List Z2a := [
  ⟨some 88,(.load true 6),[.t 11],none⟩,⟨some 89,.mov,[.t 14],none⟩,⟨some 90,.mov,[.t 15],none⟩,⟨some 91,(.call Zg4),[.t 88,.t 89,.t 90],none⟩,⟨some 92,.unot,[.t 91],none⟩]
def Z1x9 : List Z2a := [
  ⟨some 8,.mov,[.c (.int .i64 2)],none⟩]
def Z1xa : List Z2a := [
  ⟨some 93,(.bin .add),[.t 76,.c (.int .i64 1)],none⟩,⟨some 76,.mov,[.t 93],none⟩]
def Z1xb : Z2b := (.seq (.region Z1x3 [2,3,4,5,9,10,11,74,75,76,77]) (.seq (.cond (.t 77) .skip (.exit 0)) (.seq (.block 1 (.seq (.region Z1x4 [2,3,4,5,9,10,11,13,14,74,75,76]) (.seq (.region Z1x5 [2,3,4,5,9,10,11,13,14,15,74,75,76]) (.seq (.seq (.region Z1x6 [2,3,4,5,9,10,11,13,14,15,74,75,76,82]) (.cond (.t 82) (.region Z1x7 [2,3,4,5,9,10,11,14,15,74,75,76]) .skip)) (.seq (.region Z1x8 [2,3,4,5,9,10,11,74,75,76,92]) (.cond (.t 92) (.seq (.region Z1x9 [8]) .ret) .skip)))))) (.region Z1xa [2,3,4,5,9,10,11,74,75,76]))))
def Z1xc : List Z2a := [
  ⟨some 94,(.fad 3),[.t 5],none⟩,⟨some 95,(.load false 1),[.t 94],none⟩,⟨some 96,.lens,[.t 95],none⟩,⟨some 97,.mov,[.c (.int .i64 0)],none⟩]
def Z1xd : List Z2a := [
  ⟨some 98,(.bin .lss),[.t 97,.t 96],none⟩]
def Z1xe : List Z2a := [
  ⟨some 99,(.iad 1),[.t 95,.t 97],none⟩,⟨some 100,(.load false 1),[.t 99],none⟩,⟨some 17,.mov,[.t 100],none⟩]
def Z1xf : List Z2a := [
  ⟨some 101,(.load true 6),[.t 11],none⟩,⟨some 102,.mov,[.t 17],none⟩,⟨some 103,(.bld [(.bool false),(.int .i64 0),(.int .i64 0),(.slc 0 [] true),(.slc 0 [] true)] [(3,1)]),[.t 102],none⟩,⟨some 104,(.call Zet),[.t 101,.t 103],none⟩,⟨some 105,(.bin .neq),[.t 104,.c (.int .i64 0)],none⟩]
def Z1xg : List Z2a := [
  ⟨some 8,.mov,[.c (.int .i64 2)],none⟩]
def Z1xh : List Z2a := [
  ⟨some 106,(.bin .add),[.t 97,.c (.int .i64 1)],none⟩,⟨some 97,.mov,[.t 106],none⟩]
def Z1xi : Z2b := (.seq (.region Z1xd [2,3,4,5,9,10,11,95,96,97,98]) (.seq (.cond (.t 98) .skip (.exit 2)) (.seq (.block 3 (.seq (.region Z1xe [2,3,4,5,9,10,11,17,95,96,97]) (.seq (.region Z1xf [2,3,4,5,9,10,11,95,96,97,105]) (.cond (.t 105) (.seq (.region Z1xg [8]) .ret) .skip)))) (.region Z1xh [2,3,4,5,9,10,11,95,96,97]))))
def Z1xj : List Z2a := [
  ⟨some 107,(.fad 4),[.t 5],none⟩,⟨some 108,(.load false 1),[.t 107],none⟩,⟨some 109,.lens,[.t 108],none⟩,⟨some 110,.mov,[.c (.int .i64 0)],none⟩]
def Z1xk : List Z2a := [
  ⟨some 111,(.bin .lss),[.t 110,.t 109],none⟩]
def Z1xl : List Z2a := [
  ⟨some 112,(.iad 1),[.t 108,.t 110],none⟩,⟨some 113,(.load false 1),[.t 112],none⟩,⟨some 19,.mov,[.t 113],none⟩]
def Z1xm : List Z2a := [
  ⟨some 114,.mov,[.t 19],none⟩,⟨some 115,(.bin .lss),[.t 114,.c (.int .i64 0)],none⟩]
def Z1xn : List Z2a := [
  ⟨some 8,.mov,[.c (.int .i64 2)],none⟩]
def Z1xo : List Z2a := [
  ⟨some 116,(.bin .add),[.t 110,.c (.int .i64 1)],none⟩,⟨some 110,.mov,[.t 116],none⟩]
def Z1xp : Z2b := (.seq (.region Z1xk [2,3,4,5,9,10,108,109,110,111]) (.seq (.cond (.t 111) .skip (.exit 4)) (.seq (.block 5 (.seq (.region Z1xl [2,3,4,5,9,10,19,108,109,110]) (.seq (.region Z1xm [2,3,4,5,9,10,108,109,110,115]) (.cond (.t 115) (.seq (.region Z1xn [8]) .ret) .skip)))) (.region Z1xo [2,3,4,5,9,10,108,109,110]))))
def Z1xq : List Z2a := [
  ⟨some 118,.mov,[.t 3],none⟩,⟨some 119,.unot,[.t 118],none⟩,⟨some 120,.mov,[.t 119],none⟩,⟨some 121,(.load false 1),[.t 9],some (120,true)⟩,⟨some 122,.mov,[.t 2],some (120,true)⟩,⟨some 123,(.bin .neq),[.t 121,.t 122],some (120,true)⟩,⟨some 124,.pick,[.t 120,.t 123,.c (.bool false)],none⟩,⟨some 117,.mov,[.t 124],none⟩]
def Z1xr : List Z2a := [
  ⟨some 8,.mov,[.c (.int .i64 2)],none⟩]
def Z1xs : List Z2a := [
  ⟨some 126,(.fad 3),[.t 10],none⟩,⟨some 127,(.load false 1),[.t 126],none⟩,⟨some 128,.mov,[.t 127],none⟩,⟨some 129,(.load true 8),[.t 4],some (128,true)⟩,⟨some 130,(.load true 5),[.t 5],some (128,true)⟩,⟨some 131,(.call Zex),[.t 129,.t 130,.c (.int .i64 0)],some (128,true)⟩,⟨some 132,(.bin .gtr),[.t 131,.c (.int .i64 16384)],some (128,true)⟩,⟨some 133,.pick,[.t 128,.t 132,.c (.bool false)],none⟩,⟨some 125,.mov,[.t 133],none⟩]
def Z1xt : List Z2a := [
  ⟨some 8,.mov,[.c (.int .i64 4)],none⟩]
def Z1xu : List Z2a := [
  ⟨some 8,.mov,[.c (.int .i64 0)],none⟩]
def Z1xv : Z2y := ⟨134,(.seq (.region Z1ww [2,3,4,5]) (.seq (.region Z1wx [2,3,4,5,9]) (.seq (.region Z1wy [2,3,4,5,9,10,11]) (.seq (.region Z1wz [2,3,4,5,9,10,11,12]) (.seq (.seq (.region Z1x0 [2,3,4,5,9,10,11,72]) (.cond (.t 72) (.seq (.region Z1x1 [8]) .ret) .skip)) (.seq (.seq (.region Z1x2 [2,3,4,5,9,10,11,74,75,76]) (.block 0 (.loop Z1xb))) (.seq (.seq (.region Z1xc [2,3,4,5,9,10,11,95,96,97]) (.block 2 (.loop Z1xi))) (.seq (.seq (.region Z1xj [2,3,4,5,9,10,108,109,110]) (.block 4 (.loop Z1xp))) (.seq (.block 6 (.seq (.region Z1xq [4,5,10,117]) (.cond (.t 117) (.seq (.region Z1xr [8]) .ret) (.seq (.region Z1xs [125]) (.cond (.t 125) (.seq (.region Z1xt [8]) .ret) .skip))))) (.seq (.region Z1xu [8]) .ret)))))))))),[.t 8]⟩
def Z1sl : List Z2a := [
  ⟨some 4,.mov,[.c (.bool false)],none⟩]
def Z1sm : List Z2a := [
  ⟨some 8,.mov,[.t 0],none⟩,⟨some 9,.lens,[.t 8],none⟩,⟨some 10,.mov,[.c (.int .i64 0)],none⟩]
def Z1sn : List Z2a := [
  ⟨some 11,(.bin .lss),[.t 10,.t 9],none⟩]
def Z1so : List Z2a := [
  ⟨some 12,.mov,[.t 10],none⟩,⟨some 5,.mov,[.t 12],none⟩]
def Z1sp : List Z2a := [
  ⟨some 13,.mov,[.t 0],none⟩,⟨some 14,.mov,[.t 5],none⟩,⟨some 15,(.iad 8),[.t 13,.t 14],none⟩,⟨some 16,(.fad 1),[.t 15],none⟩,⟨some 17,(.load false 1),[.t 16],none⟩,⟨some 18,.lens,[.t 17],none⟩,⟨some 19,.mov,[.c (.int .i64 0)],none⟩]
def Z1sq : List Z2a := [
  ⟨some 20,(.bin .lss),[.t 19,.t 18],none⟩]
def Z1sr : List Z2a := [
  ⟨some 21,(.iad 1),[.t 17,.t 19],none⟩,⟨some 22,(.load false 1),[.t 21],none⟩,⟨some 7,.mov,[.t 22],none⟩]
def Z1ss : List Z2a := [
  ⟨some 23,.mov,[.t 1],none⟩,⟨some 24,.mov,[.t 7],none⟩,⟨some 25,(.iad 1),[.t 23,.t 24],none⟩,⟨some 26,(.load false 1),[.t 25],none⟩,⟨some 27,.mov,[.t 26],none⟩,⟨some 28,.mov,[.t 1],some (27,true)⟩,⟨some 29,.mov,[.t 5],some (27,true)⟩,⟨some 30,(.iad 1),[.t 28,.t 29],some (27,true)⟩,⟨some 31,(.load false 1),[.t 30],some (27,true)⟩,⟨some 32,.unot,[.t 31],some (27,true)⟩,⟨some 33,.pick,[.t 27,.t 32,.c (.bool false)],none⟩,⟨some 34,.mov,[.t 33],none⟩,⟨some 35,.mov,[.t 1],some (34,false)⟩,⟨some 36,.mov,[.t 5],some (34,false)⟩,⟨some 37,(.iad 1),[.t 35,.t 36],some (34,false)⟩,⟨some 38,(.load false 1),[.t 37],some (34,false)⟩,⟨some 39,.mov,[.t 38],some (34,false)⟩,⟨some 40,.mov,[.t 1],some (39,true)⟩,⟨some 41,.mov,[.t 7],some (39,true)⟩,⟨some 42,(.iad 1),[.t 40,.t 41],some (39,true)⟩,⟨some 43,(.load false 1),[.t 42],some (39,true)⟩,⟨some 44,.unot,[.t 43],some (39,true)⟩,⟨some 45,.pick,[.t 39,.t 44,.c (.bool false)],some (34,false)⟩,⟨some 46,.mov,[.t 45],some (34,false)⟩,⟨some 47,.mov,[.t 0],some (46,true)⟩,⟨some 48,.mov,[.t 5],some (46,true)⟩,⟨some 49,(.iad 8),[.t 47,.t 48],some (46,true)⟩,⟨some 50,(.fad 0),[.t 49],some (46,true)⟩,⟨some 51,(.load false 1),[.t 50],some (46,true)⟩,⟨some 52,(.bin .neq),[.t 51,.c (.int .i64 12)],some (46,true)⟩,⟨some 53,.pick,[.t 46,.t 52,.c (.bool false)],some (34,false)⟩,⟨some 54,.pick,[.t 34,.c (.bool true),.t 53],none⟩]
def Z1st : List Z2a := [
  ⟨some 4,.mov,[.c (.bool false)],none⟩]
def Z1su : List Z2a := [
  ⟨some 55,(.bin .add),[.t 19,.c (.int .i64 1)],none⟩,⟨some 19,.mov,[.t 55],none⟩]
def Z1sv : Z2b := (.seq (.region Z1sq [0,1,5,9,10,17,18,19,20]) (.seq (.cond (.t 20) .skip (.exit 2)) (.seq (.block 3 (.seq (.region Z1sr [0,1,5,7,9,10,17,18,19]) (.seq (.region Z1ss [0,1,5,9,10,17,18,19,54]) (.cond (.t 54) (.seq (.region Z1st [4]) .ret) .skip)))) (.region Z1su [0,1,5,9,10,17,18,19]))))
def Z1sw : List Z2a := [
  ⟨some 56,(.bin .add),[.t 10,.c (.int .i64 1)],none⟩,⟨some 10,.mov,[.t 56],none⟩]
def Z1sx : Z2b := (.seq (.region Z1sn [0,1,9,10,11]) (.seq (.cond (.t 11) .skip (.exit 0)) (.seq (.block 1 (.seq (.region Z1so [0,1,5,9,10]) (.seq (.region Z1sp [0,1,5,9,10,17,18,19]) (.block 2 (.loop Z1sv))))) (.region Z1sw [0,1,9,10]))))
def Z1sy : List Z2a := [
  ⟨some 4,.mov,[.c (.bool true)],none⟩]
def Z1sz : Z2y := ⟨57,(.seq (.region Z1sl [0,1]) (.seq (.seq (.region Z1sm [0,1,9,10]) (.block 0 (.loop Z1sx))) (.seq (.region Z1sy [4]) .ret))),[.t 4]⟩
def Z1t0 : List Z2a := [
  ⟨some 4,(.alloc (.agg [(.bool false),(.int .i64 0),(.int .i64 0),(.slc 0 [] true),(.slc 0 [] true)])),[],none⟩]
def Z1t1 : List Z2a := [
  ⟨some 14,.mov,[.t 0],none⟩,⟨some 15,.nilc,[.t 14],none⟩,⟨some 16,(.fad 1),[.t 15],none⟩,⟨some 17,(.load false 1),[.t 16],none⟩,⟨some 18,.mov,[.t 1],none⟩,⟨some 19,(.iad 5),[.t 17,.t 18],none⟩,⟨some 20,(.load true 5),[.t 19],none⟩,⟨some 21,.mov,[.t 0],none⟩,⟨some 22,.nilc,[.t 21],none⟩,⟨some 23,(.fad 0),[.t 22],none⟩,⟨some 24,(.loadp false 1),[.t 23],none⟩,⟨some 25,.mov,[.t 1],none⟩,⟨some 26,(.iad 8),[.t 24,.t 25],none⟩,⟨some 27,(.loadp true 8),[.t 26],none⟩,⟨some 5,(.alloc (.agg [(.slc 0 [] true),(.slc 0 [] true),(.slc 0 [] true),(.slc 0 [] true),(.slc 0 [] true)])),[],none⟩,⟨some 6,(.alloc (.agg [(.int .i64 0),(.slc 0 [] true),(.slc 0 [] true),(.int .i64 0),(.int .i64 0),(.int .i64 0),(.int .i64 0),(.int .i64 0)])),[],none⟩,⟨none,(.store 5),[.t 5,.t 20],none⟩,⟨none,(.store 8),[.t 6,.t 27],none⟩]
def Z1t2 : List Z2a := [
  ⟨some 28,.mov,[.t 0],none⟩,⟨some 29,.nilc,[.t 28],none⟩,⟨some 30,(.fad 3),[.t 29],none⟩,⟨some 31,(.load false 1),[.t 30],none⟩,⟨some 32,.mov,[.t 1],none⟩,⟨some 33,(.iad 1),[.t 31,.t 32],none⟩,⟨some 34,(.load false 1),[.t 33],none⟩,⟨some 7,.mov,[.t 34],none⟩]
def Z1t3 : List Z2a := [
  ⟨some 35,.mov,[.t 0],none⟩,⟨some 36,.nilc,[.t 35],none⟩,⟨some 37,(.fad 3),[.t 36],none⟩,⟨some 38,(.load false 1),[.t 37],none⟩,⟨some 39,.mov,[.t 1],none⟩,⟨some 40,(.iad 1),[.t 38,.t 39],none⟩,⟨some 41,(.load false 1),[.t 40],none⟩,⟨some 42,(.bin .add),[.t 41,.c (.int .i64 1)],none⟩,⟨some 43,(.iad 1),[.t 38,.t 39],none⟩,⟨none,(.store 1),[.t 43,.t 42],none⟩]
def Z1t4 : List Z2a := [
  ⟨some 44,(.fad 0),[.t 5],none⟩,⟨some 45,(.load false 1),[.t 44],none⟩,⟨some 46,.mov,[.t 7],none⟩,⟨some 47,(.iad 1),[.t 45,.t 46],none⟩,⟨some 48,(.load false 1),[.t 47],none⟩,⟨some 49,.unot,[.t 48],none⟩]
def Z1t5 : List Z2a := [
  ⟨some 50,(.bld [(.bool false),(.int .i64 0),(.int .i64 0),(.slc 0 [] true),(.slc 0 [] true)] [(0,1)]),[.c (.bool true)],none⟩,⟨none,(.store 5),[.t 4,.t 50],none⟩]
def Z1t6 : List Z2a := [
  ⟨some 51,.mov,[.t 0],none⟩,⟨some 52,.nilc,[.t 51],none⟩,⟨some 53,(.fad 4),[.t 52],none⟩,⟨some 54,(.load false 1),[.t 53],none⟩,⟨some 55,.mov,[.t 1],none⟩,⟨some 56,(.iad 1),[.t 54,.t 55],none⟩,⟨some 57,(.load false 1),[.t 56],none⟩,⟨some 8,.mov,[.t 57],none⟩]
def Z1t7 : List Z2a := [
  ⟨some 58,.mov,[.t 0],none⟩,⟨some 59,.nilc,[.t 58],none⟩,⟨some 60,(.fad 4),[.t 59],none⟩,⟨some 61,(.load false 1),[.t 60],none⟩,⟨some 62,.mov,[.t 1],none⟩,⟨some 63,(.iad 1),[.t 61,.t 62],none⟩,⟨some 64,(.load false 1),[.t 63],none⟩,⟨some 65,(.bin .add),[.t 64,.c (.int .i64 1)],none⟩,⟨some 66,(.iad 1),[.t 61,.t 62],none⟩,⟨none,(.store 1),[.t 66,.t 65],none⟩]
def Z1t8 : List Z2a := [
  ⟨some 9,(.alloc (.agg [(.bool false),(.int .i64 0),(.int .i64 0),(.slc 0 [] true),(.slc 0 [] true)])),[],none⟩]
def Z1t9 : List Z2a := [
  ⟨some 67,(.fad 0),[.t 6],none⟩,⟨some 68,(.load false 1),[.t 67],none⟩]
def Z1ta : List Z2a := [
  ⟨some 70,(.bin .eql),[.t 68,.c (.int .i64 10)],none⟩,⟨some 69,.mov,[.t 70],none⟩]
def Z1tb : List Z2a := [
  ⟨some 71,(.bin .eql),[.t 68,.c (.int .i64 11)],none⟩,⟨some 69,.mov,[.t 71],none⟩]
def Z1tc : List Z2a := [
  ⟨some 73,(.bin .eql),[.t 68,.c (.int .i64 12)],none⟩,⟨some 72,.mov,[.t 73],none⟩]
def Z1td : List Z2a := [
  ⟨some 75,(.bin .eql),[.t 68,.c (.int .i64 13)],none⟩,⟨some 74,.mov,[.t 75],none⟩]
def Z1te : List Z2a := [
  ⟨some 77,(.bin .eql),[.t 68,.c (.int .i64 7)],none⟩,⟨some 76,.mov,[.t 77],none⟩]
def Z1tf : List Z2a := [
  ⟨some 78,(.bin .eql),[.t 68,.c (.int .i64 8)],none⟩,⟨some 76,.mov,[.t 78],none⟩]
def Z1tg : List Z2a := [
  ⟨some 79,(.bin .eql),[.t 68,.c (.int .i64 16)],none⟩,⟨some 76,.mov,[.t 79],none⟩]
def Z1th : List Z2a := [
  ⟨some 80,(.bin .eql),[.t 68,.c (.int .i64 17)],none⟩,⟨some 76,.mov,[.t 80],none⟩]
def Z1ti : List Z2a := [
  ⟨some 82,(.bin .eql),[.t 68,.c (.int .i64 9)],none⟩,⟨some 81,.mov,[.t 82],none⟩]
def Z1tj : List Z2a := [
  ⟨some 83,(.fad 4),[.t 5],none⟩,⟨some 84,(.load false 1),[.t 83],none⟩,⟨some 85,.mov,[.t 8],none⟩,⟨some 86,(.iad 1),[.t 84,.t 85],none⟩,⟨some 87,(.load false 1),[.t 86],none⟩,⟨some 88,.mov,[.c (.int .i64 0)],none⟩]
def Z1tk : List Z2a := [
  ⟨some 89,(.bin .lss),[.t 88,.t 87],none⟩]
def Z1tl : List Z2a := [
  ⟨some 90,(.fad 1),[.t 6],none⟩,⟨some 91,(.load false 1),[.t 90],none⟩,⟨some 92,.lens,[.t 91],none⟩,⟨some 93,.mov,[.c (.int .i64 0)],none⟩]
def Z1tm : List Z2a := [
  ⟨some 94,(.bin .lss),[.t 93,.t 92],none⟩]
def Z1tn : List Z2a := [
  ⟨some 95,(.iad 1),[.t 91,.t 93],none⟩,⟨some 96,(.load false 1),[.t 95],none⟩,⟨some 11,.mov,[.t 96],none⟩]
def Z1to : List Z2a := [
  ⟨some 97,(.fad 4),[.t 9],none⟩,⟨some 98,(.loadg false 1),[.t 97,.t 9],none⟩,⟨some 99,.mov,[.t 0],none⟩,⟨some 100,.mov,[.t 11],none⟩,⟨some 101,(.callk Zf2 2),[.t 99,.t 100,.t 9],none⟩,⟨some 102,(.bsl 5),[.t 101],none⟩,⟨some 103,(.app 5 72),[.t 98,.t 102],none⟩,⟨some 104,(.fad 4),[.t 9],none⟩,⟨none,(.store 1),[.t 104,.t 103],none⟩]
def Z1tp : List Z2a := [
  ⟨some 105,(.bin .add),[.t 93,.c (.int .i64 1)],none⟩,⟨some 93,.mov,[.t 105],none⟩]
def Z1tq : Z2b := (.seq (.region Z1tm [0,4,6,9,87,88,91,92,93,94]) (.seq (.cond (.t 94) .skip (.exit 9)) (.seq (.block 10 (.seq (.region Z1tn [0,4,6,9,11,87,88,91,92,93]) (.region Z1to [0,4,6,9,87,88,91,92,93]))) (.region Z1tp [0,4,6,9,87,88,91,92,93]))))
def Z1tr : List Z2a := [
  ⟨some 106,(.bin .add),[.t 88,.c (.int .i64 1)],none⟩,⟨some 88,.mov,[.t 106],none⟩]
def Z1ts : Z2b := (.seq (.region Z1tk [0,4,6,9,87,88,89]) (.seq (.cond (.t 89) .skip (.exit 7)) (.seq (.block 8 (.seq (.region Z1tl [0,4,6,9,87,88,91,92,93]) (.block 9 (.loop Z1tq)))) (.region Z1tr [0,4,6,9,87,88]))))
def Z1tt : List Z2a := [
  ⟨some 107,(.fad 1),[.t 6],none⟩,⟨some 108,(.load false 1),[.t 107],none⟩,⟨some 109,.lens,[.t 108],none⟩,⟨some 110,.mov,[.c (.int .i64 0)],none⟩]
def Z1tu : List Z2a := [
  ⟨some 111,(.bin .lss),[.t 110,.t 109],none⟩]
def Z1tv : List Z2a := [
  ⟨some 112,(.iad 1),[.t 108,.t 110],none⟩,⟨some 113,(.load false 1),[.t 112],none⟩,⟨some 13,.mov,[.t 113],none⟩]
def Z1tw : List Z2a := [
  ⟨some 114,.mov,[.t 0],none⟩,⟨some 115,.nilc,[.t 114],none⟩,⟨some 116,(.fad 2),[.t 115],none⟩,⟨some 117,(.load false 1),[.t 116],none⟩,⟨some 118,.mov,[.t 13],none⟩,⟨some 119,(.iad 1),[.t 117,.t 118],none⟩,⟨some 120,(.load false 1),[.t 119],none⟩]
def Z1tx : List Z2a := [
  ⟨some 121,(.fad 4),[.t 9],none⟩,⟨some 122,(.loadg false 1),[.t 121,.t 9],none⟩,⟨some 123,.mov,[.t 0],none⟩,⟨some 124,.mov,[.t 13],none⟩,⟨some 125,(.callk Zf2 2),[.t 123,.t 124,.t 9],none⟩,⟨some 126,(.bsl 5),[.t 125],none⟩,⟨some 127,(.app 5 72),[.t 122,.t 126],none⟩,⟨some 128,(.fad 4),[.t 9],none⟩,⟨none,(.store 1),[.t 128,.t 127],none⟩]
def Z1ty : List Z2a := [
  ⟨some 129,(.bin .add),[.t 110,.c (.int .i64 1)],none⟩,⟨some 110,.mov,[.t 129],none⟩]
def Z1tz : Z2b := (.seq (.region Z1tu [0,4,9,108,109,110,111]) (.seq (.cond (.t 111) .skip (.exit 11)) (.seq (.block 12 (.seq (.region Z1tv [0,4,9,13,108,109,110]) (.seq (.region Z1tw [0,4,9,13,108,109,110,120]) (.cond (.t 120) (.region Z1tx [0,4,9,108,109,110]) .skip)))) (.region Z1ty [0,4,9,108,109,110]))))
def Z1u0 : List Z2a := [
  ⟨some 130,(.fad 1),[.t 5],none⟩,⟨some 131,(.load false 1),[.t 130],none⟩,⟨some 132,.mov,[.t 8],none⟩,⟨some 133,(.iad 1),[.t 131,.t 132],none⟩,⟨some 134,(.load false 1),[.t 133],none⟩,⟨some 135,(.fad 1),[.t 9],none⟩,⟨none,(.store 1),[.t 135,.t 134],none⟩]
def Z1u1 : List Z2a := [
  ⟨some 136,(.fad 4),[.t 9],none⟩,⟨some 137,(.loadg false 1),[.t 136,.t 9],none⟩,⟨some 138,.mov,[.t 0],none⟩,⟨some 139,(.fad 1),[.t 6],none⟩,⟨some 140,(.load false 1),[.t 139],none⟩,⟨some 141,(.fad 1),[.t 9],none⟩,⟨some 142,(.load false 1),[.t 141],none⟩,⟨some 143,(.iad 1),[.t 140,.t 142],none⟩,⟨some 144,(.load false 1),[.t 143],none⟩,⟨some 145,(.callk Zf2 2),[.t 138,.t 144,.t 9],none⟩,⟨some 146,(.bsl 5),[.t 145],none⟩,⟨some 147,(.app 5 72),[.t 137,.t 146],none⟩,⟨some 148,(.fad 4),[.t 9],none⟩,⟨none,(.store 1),[.t 148,.t 147],none⟩]
def Z1u2 : List Z2a := [
  ⟨some 149,(.fad 3),[.t 5],none⟩,⟨some 150,(.load false 1),[.t 149],none⟩,⟨some 151,.mov,[.t 8],none⟩,⟨some 152,(.iad 1),[.t 150,.t 151],none⟩,⟨some 153,(.load false 1),[.t 152],none⟩,⟨some 154,(.call Zfq),[.t 153],none⟩,⟨some 155,(.call Zfp),[.t 154],none⟩,⟨some 156,(.fad 3),[.t 9],none⟩,⟨none,(.store 1),[.t 156,.t 155],none⟩]
def Z1u3 : List Z2a := [
  ⟨some 157,(.fad 2),[.t 5],none⟩,⟨some 158,(.load false 1),[.t 157],none⟩,⟨some 159,.mov,[.t 8],none⟩,⟨some 160,(.iad 1),[.t 158,.t 159],none⟩,⟨some 161,(.load false 1),[.t 160],none⟩,⟨some 162,(.fad 2),[.t 9],none⟩,⟨none,(.store 1),[.t 162,.t 161],none⟩]
def Z1u4 : List Z2a := [
  ⟨some 163,(.fad 1),[.t 5],none⟩,⟨some 164,(.load false 1),[.t 163],none⟩,⟨some 165,.mov,[.t 8],none⟩,⟨some 166,(.iad 1),[.t 164,.t 165],none⟩,⟨some 167,(.load false 1),[.t 166],none⟩,⟨some 168,(.fad 1),[.t 9],none⟩,⟨none,(.store 1),[.t 168,.t 167],none⟩]
def Z1u5 : List Z2a := [
  ⟨some 169,(.fad 4),[.t 9],none⟩,⟨some 170,(.load false 1),[.t 169],none⟩,⟨some 171,(.call Zfr),[.t 170],none⟩,⟨some 172,(.fad 4),[.t 9],none⟩,⟨none,(.store 1),[.t 172,.t 171],none⟩]
def Z1u6 : List Z2a := [
  ⟨some 173,(.load true 5),[.t 9],none⟩,⟨none,(.store 5),[.t 4,.t 173],none⟩]
def Z1u7 : Z2y := ⟨174,(.seq (.region Z1t0 [0,1,4]) (.seq (.region Z1t1 [0,1,4,5,6]) (.seq (.region Z1t2 [0,1,4,5,6,7]) (.seq (.region Z1t3 [0,1,4,5,6,7]) (.seq (.seq (.region Z1t4 [0,1,4,5,6,49]) (.cond (.t 49) (.seq (.region Z1t5 [4]) .ret) .skip)) (.seq (.region Z1t6 [0,1,4,5,6,8]) (.seq (.region Z1t7 [0,4,5,6,8]) (.seq (.region Z1t8 [0,4,5,6,8,9]) (.seq (.seq (.region Z1t9 [0,4,5,6,8,9,68]) (.block 0 (.seq (.block 6 (.seq (.block 5 (.seq (.block 4 (.seq (.block 3 (.seq (.block 2 (.seq (.block 1 (.seq (.seq (.seq (.seq (.region Z1ta [0,4,5,6,8,9,68,69]) (.cond (.t 69) .skip (.region Z1tb [0,4,5,6,8,9,68,69]))) (.cond (.t 69) (.exit 1) .skip)) (.seq (.seq (.region Z1tc [0,4,5,6,8,9,68,72]) (.cond (.t 72) (.exit 2) .skip)) (.seq (.seq (.region Z1td [0,4,5,6,8,9,68,74]) (.cond (.t 74) (.exit 3) .skip)) (.seq (.seq (.seq (.region Z1te [4,5,8,9,68,76]) (.cond (.t 76) .skip (.seq (.region Z1tf [4,5,8,9,68,76]) (.cond (.t 76) .skip (.seq (.region Z1tg [4,5,8,9,68,76]) (.cond (.t 76) .skip (.region Z1th [4,5,8,9,68,76]))))))) (.cond (.t 76) (.exit 4) .skip)) (.seq (.region Z1ti [4,5,8,9,81]) (.cond (.t 81) (.exit 5) .skip)))))) (.exit 6))) (.seq (.seq (.region Z1tj [0,4,6,9,87,88]) (.block 7 (.loop Z1ts))) (.exit 0)))) (.seq (.seq (.region Z1tt [0,4,9,108,109,110]) (.block 11 (.loop Z1tz))) (.exit 0)))) (.seq (.seq (.region Z1u0 [0,4,6,9]) (.region Z1u1 [4,9])) (.exit 0)))) (.seq (.region Z1u2 [4,9]) (.exit 0)))) (.region Z1u3 [4,5,8,9]))) (.seq (.region Z1u4 [4,9]) (.exit 0))))) (.seq (.region Z1u5 [4,9]) (.seq (.region Z1u6 [4]) .ret))))))))))),[.cell 4 true 5]⟩
def Z1u8 : List Z2a := [
  ⟨some 4,.mov,[.c (.slc 0 [] true)],none⟩]
def Z1u9 : List Z2a := [
  ⟨some 9,.mov,[.t 1],none⟩,⟨some 10,(.bin .lss),[.t 9,.c (.int .i64 0)],none⟩]
def Z1ua : List Z2a := [
  ⟨some 11,(.mki 9),[.c (.str [99,97,110,110,111,116,32,98,101,32,110,101,103,97,116,105,118,101])],none⟩,⟨none,.bad,[],none⟩]
def Z1ub : List Z2a := [
  ⟨some 13,.mov,[.t 0],none⟩,⟨some 14,.lens,[.t 13],none⟩,⟨some 15,(.conv .u64),[.t 14],none⟩,⟨some 16,.mov,[.t 1],none⟩,⟨some 17,(.conv .u64),[.t 16],none⟩,⟨some 18,(.call Zg1),[.t 15,.t 17],none⟩,⟨some 12,.mov,[.t 18],none⟩,⟨some 19,(.ext 0),[.t 12],none⟩,⟨some 20,(.ext 1),[.t 12],none⟩,⟨some 5,.mov,[.t 19],none⟩,⟨some 6,.mov,[.t 20],none⟩]
def Z1uc : List Z2a := [
  ⟨some 21,.mov,[.t 5],none⟩,⟨some 22,(.bin .gtr),[.t 21,.c (.int .u64 0)],none⟩,⟨some 23,.mov,[.t 22],none⟩,⟨some 24,.mov,[.t 6],some (23,false)⟩,⟨some 25,(.bin .gtr),[.t 24,.c (.int .u64 9223372036854775807)],some (23,false)⟩,⟨some 26,.pick,[.t 23,.c (.bool true),.t 25],none⟩]
def Z1ud : List Z2a := [
  ⟨some 27,(.mki 9),[.c (.str [116,104,101,32,114,101,115,117,108,116,32,111,102,32,40,108,101,110,40,120,41,32,42,32,99,111,117,110,116,41,32,111,118,101,114,102,108,111,119,115])],none⟩,⟨none,.bad,[],none⟩]
def Z1ue : List Z2a := [
  ⟨some 28,.mov,[.t 6],none⟩,⟨some 29,(.conv .i64),[.t 28],none⟩,⟨some 30,(.mks 1 1 (.bool false)),[.t 29,.t 29],none⟩,⟨some 7,.mov,[.t 30],none⟩]
def Z1uf : List Z2a := [
  ⟨some 31,.mov,[.t 7],none⟩,⟨some 32,.mov,[.t 0],none⟩,⟨some 33,(.cpy 1),[.t 31,.t 32],none⟩,⟨some 8,.mov,[.t 33],none⟩]
def Z1ug : List Z2a := [
  ⟨some 34,.mov,[.t 8],none⟩,⟨some 35,.mov,[.t 7],none⟩,⟨some 36,.lens,[.t 35],none⟩,⟨some 37,(.bin .lss),[.t 34,.t 36],none⟩]
def Z1uh : List Z2a := [
  ⟨some 38,.mov,[.t 8],none⟩,⟨some 39,.mov,[.t 7],none⟩,⟨some 40,.mov,[.t 8],none⟩,⟨some 41,(.slc 1 true false false),[.t 39,.t 40],none⟩,⟨some 42,.mov,[.t 7],none⟩,⟨some 43,.mov,[.t 8],none⟩,⟨some 44,(.slc 1 false true false),[.t 42,.t 43],none⟩,⟨some 45,(.cpy 1),[.t 41,.t 44],none⟩,⟨some 46,(.bin .add),[.t 38,.t 45],none⟩,⟨some 8,.mov,[.t 46],none⟩]
def Z1ui : Z2b := (.seq (.seq (.region Z1ug [7,8,37]) (.cond (.t 37) .skip (.exit 0))) (.block 1 (.region Z1uh [7,8])))
def Z1uj : List Z2a := [
  ⟨some 47,.mov,[.t 7],none⟩,⟨some 4,.mov,[.t 47],none⟩]
def Z1uk : Z2y := ⟨48,(.seq (.region Z1u8 [0,1]) (.seq (.seq (.region Z1u9 [0,1,10]) (.cond (.t 10) (.region Z1ua [0,1]) .skip)) (.seq (.region Z1ub [0,5,6]) (.seq (.seq (.region Z1uc [0,6,26]) (.cond (.t 26) (.region Z1ud [0,6]) .skip)) (.seq (.region Z1ue [0,7]) (.seq (.region Z1uf [7,8]) (.seq (.block 0 (.loop Z1ui)) (.seq (.region Z1uj [4]) .ret)))))))),[.t 4]⟩
def Z1ul : List Z2a := [
  ⟨some 4,.mov,[.c (.int .u64 0)],none⟩,⟨some 5,.mov,[.c (.int .u64 0)],none⟩]
def Z1um : List Z2a := [
  ⟨some 11,.mov,[.t 0],none⟩,⟨some 12,(.conv .u32),[.t 11],none⟩,⟨some 13,.mov,[.t 1],none⟩,⟨some 14,(.conv .u32),[.t 13],none⟩,⟨some 15,(.call Zgf),[.t 12,.t 14],none⟩,⟨some 10,.mov,[.t 15],none⟩,⟨some 16,(.ext 0),[.t 10],none⟩,⟨some 17,(.ext 1),[.t 10],none⟩,⟨some 6,.mov,[.t 16],none⟩,⟨some 7,.mov,[.t 17],none⟩]
def Z1un : List Z2a := [
  ⟨some 18,.mov,[.t 6],none⟩,⟨some 19,(.conv .u64),[.t 18],none⟩,⟨some 20,.mov,[.t 7],none⟩,⟨some 21,(.conv .u64),[.t 20],none⟩,⟨some 4,.mov,[.t 19],none⟩,⟨some 5,.mov,[.t 21],none⟩]
def Z1uo : List Z2a := [
  ⟨some 23,.mov,[.t 0],none⟩,⟨some 24,.mov,[.t 1],none⟩,⟨some 25,(.call Zgg),[.t 23,.t 24],none⟩,⟨some 22,.mov,[.t 25],none⟩,⟨some 26,(.ext 0),[.t 22],none⟩,⟨some 27,(.ext 1),[.t 22],none⟩,⟨some 8,.mov,[.t 26],none⟩,⟨some 9,.mov,[.t 27],none⟩]
def Z1up : List Z2a := [
  ⟨some 28,.mov,[.t 8],none⟩,⟨some 29,.mov,[.t 9],none⟩,⟨some 4,.mov,[.t 28],none⟩,⟨some 5,.mov,[.t 29],none⟩]
def Z1uq : Z2y := ⟨30,(.seq (.region Z1ul [0,1]) (.seq (.cond (.c (.bool false)) (.seq (.region Z1um [6,7]) (.seq (.region Z1un [4,5]) .ret)) .skip) (.seq (.region Z1uo [8,9]) (.seq (.region Z1up [4,5]) .ret)))),[.t 4,.t 5]⟩
def Z1xw : List Z2a := [
  ⟨some 1,(.box 8),[.t 0],none⟩,⟨some 2,(.alloc (.agg [(.int .i64 0),(.slc 0 [] true),(.slc 0 [] true),(.int .i64 0),(.int .i64 0),(.int .i64 0)])),[],none⟩]
def Z1xx : List Z2a := [
  ⟨some 3,(.fad 0),[.t 1],none⟩,⟨some 4,(.load false 1),[.t 3],none⟩,⟨some 5,(.fad 1),[.t 1],none⟩,⟨some 6,(.load false 1),[.t 5],none⟩,⟨some 7,.lens,[.t 6],none⟩,⟨some 8,(.mks 6 80 (.agg [(.int .i64 0),(.slc 0 [] true),(.slc 0 [] true),(.int .i64 0),(.int .i64 0),(.int .i64 0)])),[.t 7,.t 7],none⟩,⟨some 9,(.fad 3),[.t 1],none⟩,⟨some 10,(.load false 1),[.t 9],none⟩,⟨some 11,(.fad 4),[.t 1],none⟩,⟨some 12,(.load false 1),[.t 11],none⟩,⟨some 13,(.fad 5),[.t 1],none⟩,⟨some 14,(.load false 1),[.t 13],none⟩,⟨some 15,(.bld [(.int .i64 0),(.slc 0 [] true),(.slc 0 [] true),(.int .i64 0),(.int .i64 0),(.int .i64 0)] [(0,1),(2,1),(3,1),(4,1),(5,1)]),[.t 4,.t 8,.t 10,.t 12,.t 14],none⟩,⟨none,(.store 6),[.t 2,.t 15],none⟩]
def Z1xy : Z2y := ⟨16,(.seq (.region Z1xw [1,2]) (.seq (.region Z1xx [2]) .ret)),[.cell 2 true 6]⟩
def Z1xz : List Z2a := [
  ⟨some 3,.mov,[.c (.int .i64 0)],none⟩]
def Z1y0 : List Z2a := [
  ⟨some 4,.mov,[.t 0],none⟩]
def Z1y1 : List Z2a := [
  ⟨some 5,(.load false 1),[.t 1],none⟩,⟨some 3,.mov,[.t 5],none⟩]
def Z1y2 : List Z2a := [
  ⟨some 3,.mov,[.c (.int .i64 0)],none⟩]
def Z1y3 : Z2y := ⟨6,(.seq (.region Z1xz [0,1]) (.seq (.seq (.region Z1y0 [1,4]) (.cond (.t 4) (.seq (.region Z1y1 [3]) .ret) .skip)) (.seq (.region Z1y2 [3]) .ret))),[.t 3]⟩
def Z1y4 : List Z2a := [
  ⟨some 3,(.box 6),[.t 0],none⟩,⟨some 6,.mov,[.c (.bool false)],none⟩]
def Z1y5 : List Z2a := [
  ⟨some 7,(.fad 0),[.t 3],none⟩,⟨some 8,(.load false 1),[.t 7],none⟩,⟨some 9,(.bin .eql),[.t 8,.c (.int .i64 13)],none⟩]
def Z1y6 : List Z2a := [
  ⟨some 10,.mov,[.t 1],none⟩,⟨some 11,(.bin .geq),[.t 10,.c (.int .i64 0)],none⟩,⟨some 12,.mov,[.t 11],none⟩,⟨some 13,.mov,[.t 1],some (12,true)⟩,⟨some 14,(.fad 2),[.t 3],some (12,true)⟩,⟨some 15,(.load false 1),[.t 14],some (12,true)⟩,⟨some 16,.lens,[.t 15],some (12,true)⟩,⟨some 17,(.bin .lss),[.t 13,.t 16],some (12,true)⟩,⟨some 18,.pick,[.t 12,.t 17,.c (.bool false)],none⟩,⟨some 6,.mov,[.t 18],none⟩]
def Z1y7 : List Z2a := [
  ⟨some 19,(.load true 6),[.t 3],none⟩,⟨some 20,.mov,[.t 1],none⟩,⟨some 21,.mov,[.t 2],none⟩,⟨some 22,(.bld [(.bool false),(.int .i64 0),(.int .i64 0),(.slc 0 [] true),(.slc 0 [] true)] [(1,1),(2,1)]),[.t 20,.t 21],none⟩,⟨some 23,(.call Zet),[.t 19,.t 22],none⟩,⟨some 24,(.bin .eql),[.t 23,.c (.int .i64 0)],none⟩,⟨some 6,.mov,[.t 24],none⟩]
def Z1y8 : Z2y := ⟨25,(.seq (.region Z1y4 [1,2,3]) (.seq (.seq (.region Z1y5 [1,2,3,9]) (.cond (.t 9) (.seq (.region Z1y6 [6]) .ret) .skip)) (.seq (.region Z1y7 [6]) .ret))),[.t 6]⟩
def Z1ur : List Z2a := [
  ⟨some 4,.mov,[.c (.int .u64 0)],none⟩,⟨some 5,.mov,[.c (.int .u64 0)],none⟩]
def Z1us : List Z2a := [
  ⟨some 14,.mov,[.t 0],none⟩,⟨some 15,(.bin .and),[.t 14,.c (.int .u64 4294967295)],none⟩,⟨some 6,.mov,[.t 15],none⟩]
def Z1ut : List Z2a := [
  ⟨some 16,.mov,[.t 0],none⟩,⟨some 17,(.bin .shr),[.t 16,.c (.int .u64 32)],none⟩,⟨some 7,.mov,[.t 17],none⟩]
def Z1uu : List Z2a := [
  ⟨some 18,.mov,[.t 1],none⟩,⟨some 19,(.bin .and),[.t 18,.c (.int .u64 4294967295)],none⟩,⟨some 8,.mov,[.t 19],none⟩]
def Z1uv : List Z2a := [
  ⟨some 20,.mov,[.t 1],none⟩,⟨some 21,(.bin .shr),[.t 20,.c (.int .u64 32)],none⟩,⟨some 9,.mov,[.t 21],none⟩]
def Z1uw : List Z2a := [
  ⟨some 22,.mov,[.t 6],none⟩,⟨some 23,.mov,[.t 8],none⟩,⟨some 24,(.bin .mul),[.t 22,.t 23],none⟩,⟨some 10,.mov,[.t 24],none⟩]
def Z1ux : List Z2a := [
  ⟨some 25,.mov,[.t 7],none⟩,⟨some 26,.mov,[.t 8],none⟩,⟨some 27,(.bin .mul),[.t 25,.t 26],none⟩,⟨some 28,.mov,[.t 10],none⟩,⟨some 29,(.bin .shr),[.t 28,.c (.int .u64 32)],none⟩,⟨some 30,(.bin .add),[.t 27,.t 29],none⟩,⟨some 11,.mov,[.t 30],none⟩]
def Z1uy : List Z2a := [
  ⟨some 31,.mov,[.t 11],none⟩,⟨some 32,(.bin .and),[.t 31,.c (.int .u64 4294967295)],none⟩,⟨some 12,.mov,[.t 32],none⟩]
def Z1uz : List Z2a := [
  ⟨some 33,.mov,[.t 11],none⟩,⟨some 34,(.bin .shr),[.t 33,.c (.int .u64 32)],none⟩,⟨some 13,.mov,[.t 34],none⟩]
def Z1v0 : List Z2a := [
  ⟨some 35,.mov,[.t 12],none⟩,⟨some 36,.mov,[.t 6],none⟩,⟨some 37,.mov,[.t 9],none⟩,⟨some 38,(.bin .mul),[.t 36,.t 37],none⟩,⟨some 39,(.bin .add),[.t 35,.t 38],none⟩,⟨some 12,.mov,[.t 39],none⟩]
def Z1v1 : List Z2a := [
  ⟨some 40,.mov,[.t 7],none⟩,⟨some 41,.mov,[.t 9],none⟩,⟨some 42,(.bin .mul),[.t 40,.t 41],none⟩,⟨some 43,.mov,[.t 13],none⟩,⟨some 44,(.bin .add),[.t 42,.t 43],none⟩,⟨some 45,.mov,[.t 12],none⟩,⟨some 46,(.bin .shr),[.t 45,.c (.int .u64 32)],none⟩,⟨some 47,(.bin .add),[.t 44,.t 46],none⟩,⟨some 4,.mov,[.t 47],none⟩]
def Z1v2 : List Z2a := [
  ⟨some 48,.mov,[.t 0],none⟩,⟨some 49,.mov,[.t 1],none⟩,⟨some 50,(.bin .mul),[.t 48,.t 49],none⟩,⟨some 5,.mov,[.t 50],none⟩]
def Z1v3 : Z2y := ⟨51,(.seq (.region Z1ur [0,1]) (.seq (.region Z1us [0,1,6]) (.seq (.region Z1ut [0,1,6,7]) (.seq (.region Z1uu [0,1,6,7,8]) (.seq (.region Z1uv [0,1,6,7,8,9]) (.seq (.region Z1uw [0,1,6,7,8,9,10]) (.seq (.region Z1ux [0,1,6,7,9,11]) (.seq (.region Z1uy [0,1,6,7,9,11,12]) (.seq (.region Z1uz [0,1,6,7,9,12,13]) (.seq (.region Z1v0 [0,1,7,9,12,13]) (.seq (.region Z1v1 [0,1,4]) (.seq (.region Z1v2 [4,5]) .ret)))))))))))),[.t 4,.t 5]⟩
end Go.Abs
namespace Go.Abs
open Go Go.Proofs
theorem Z1y9 : Z2z Try.prog [] Zdp = some Z1wv.erase := by kernel_rfl
theorem Z1ya : Z2z Try.prog [(4, 37), (4, 27), (4, 17), (4, 7), (2, 4), (2, 2)] Zf0 = some Z1xv.erase := by kernel_rfl
theorem Z1v5 : Z2z Try.prog [] Zf1 = some Z1sz.erase := by kernel_rfl
theorem Z1v6 : Z2z Try.prog [(1, 13), (1, 10), (24, 100004), (24, 100001), (31, 100004), (31, 100001), (34, 100009), (34, 100001)] Zf2 = some Z1u7.erase := by kernel_rfl
theorem Z1v7 : Z2z Try.prog [] Zez = some Z1uk.erase := by kernel_rfl
theorem Z1v8 : Z2z Try.prog [] Zg1 = some Z1uq.erase := by kernel_rfl
theorem Z1yb : Z2z Try.prog [] Zg2 = some Z1xy.erase := by kernel_rfl
theorem Z1yc : Z2z Try.prog [] Zg3 = some Z1y3.erase := by kernel_rfl
theorem Z1yd : Z2z Try.prog [] Zg4 = some Z1y8.erase := by kernel_rfl
theorem Z1v9 : Z2z Try.prog [] Zgg = some Z1v3.erase := by kernel_rfl
end Go.Abs
namespace Go.Abs
open Go Go.Proofs
set_option linter.unusedVariables false
set_option linter.unusedSimpArgs false
set_option maxHeartbeats 4000000
theorem Z1yf {P : Program} {l : List Z2a} {F : Z26} {σ τ : Zc} {Q : Z26 → Zc → Prop} {d : Nat} {args : List Zw} {f : FuncId} {first caps ws : List Z0} {v : Z0} (h1 : evs F args = some (.fn f first caps :: ws)) (hg : Z1z P f = true)
    (hc : Z1q P f (first ++ ws ++ caps) σ fun r σ' => r = v ∧ σ' = τ) (h : aops P l (fset d (some v) F) τ Q) : aops P (⟨some d, .callv, args, none⟩ :: l) F σ Q := by
  refine ⟨_, h1, hg, ⟨v, τ, h⟩, hc.mono fun r σ' ⟨e1, e2⟩ => ?_⟩
  subst e1 e2
  exact h
theorem Z1yg {P : Program} {N : Nat} {a : Z2b} {Q : Z87} {F : Z26} {b sz d : Nat} {x : Z0} {τ : Zc} (hF : F d = some (.ptr b 0 0)) (h : AWp P N a Q (fset d (some (.iptr x.cells)) F) τ) : AWp P N a Q F ((b, .cells sz [x]) :: τ) := by
  refine awp_vs (fun K w tmps hr hfr => ?_) h
  have h1 := hfr.at_ d _ hF
  have hmem : (b, Zb.cells sz [x]) ∈ (b, Zb.cells sz [x]) :: τ := by simp
  have hown := hr.own b _ hmem
  unfold VR at h1
  generalize hv : tmps.getD d undef = v at h1
  cases h1 with
  | @ptr _ _ _ cb sz' pcap _ _ hl r =>
    obtain rfl : sz' = sz := by
      rcases hown.2 with ⟨p, k1, _⟩ | ⟨cb', p, cs', ty, k1, _⟩ <;> rw [hl] at k1 <;> simp at k1
      exact k1.2.1
    obtain ⟨vs0, g1, g2, g3⟩ := hr.freeze hmem hl
    rw [Z9h] at g3
    refine ⟨K.addImm cb vs0, g2, g3, hfr.size, fun i y e => ?_⟩
    simp only [fset] at e
    split at e
    · rename_i hi
      subst hi
      simp only [Option.some.injEq] at e
      subst e
      rw [hv]
      refine Z1.iptr (vs := vs0) rfl ?_ ?_ ?_ .nil
      · exact (hown.1 x (by simp)).2
      · intro j v hj
        simp only [Kr.addImm, Nat.zero_mul, Nat.zero_add, if_true]
        exact hj
      · have := Z1.mono g2 g1
        simpa [Z0.cells] using this
    · exact (hfr.at_ i y e).mono g2
attribute [local irreducible] AWp aops KP
def tyK (n : Nd) : Ty := .mk n.t.kind [] (List.replicate n.kids.length default) n.t.len n.t.prec n.t.scale
theorem Zbx.cellS {b sz s : Nat} {A B p q : List Z0} {v : Z0} {ks : List Z0} {β σ : Zc} (hg : Zbr s v ks β) (he : ∀ y ∈ A ++ .agg (p ++ .slc s ks false :: q) :: B, y.elem sz) :
    Zbx ((b, .cells sz (A ++ .agg (p ++ v :: q) :: B)) :: (β ++ σ)) ((b, .cells sz (A ++ .agg (p ++ .slc s ks false :: q) :: B)) :: σ) := by
  rcases hg with ⟨⟨z, rfl⟩, rfl, rfl⟩ | ⟨bk, rfl, rfl⟩
  · refine Zbx.content (by simp) he ?_
    simp only [Z4, Z3, Z0.cells]
    exact VRle.app (VRle.refl _) (VRle.app (VRle.app (VRle.refl _) (VRle.cons (VRle.nilF _ _) (VRle.refl _))) (VRle.refl _))
  · refine Zbx.inner (bk := bk) (s := s) (ks := ks) (by simp) he fun K hK vs hv => ?_
    simp only [Z4, Z3, Z0.cells] at hv ⊢
    obtain ⟨m1, m2, rfl, g1, g2⟩ := hv.split
    obtain ⟨m3, m4, rfl, g3, g4⟩ := g2.split
    obtain ⟨m5, m6, rfl, g5, g6⟩ := g3.split
    refine g1.append ((g5.append ?_).append g4)
    have h2 : (Z0.arr s bk 0 ks.length :: q) = [Z0.arr s bk 0 ks.length] ++ q := rfl
    rw [h2] at g6
    obtain ⟨m7, m8, rfl, g7, g8⟩ := g6.split
    have h3 : (Z0.slc s ks false :: q) = [Z0.slc s ks false] ++ q := rfl
    rw [h3]
    refine Z1.append ?_ g8
    have hl := g7.length
    match m7, g7, hl with
    | [x], g7, _ => exact hK x g7
theorem Z1yh (n : Nd) (hk : n.kids.length ≤ 1000) (σ : Zc) : Z1q Try.prog Zg2 [encN n] σ fun r σ' => r = encT (tyK n) ∧ σ' = σ := by
  have hkn : (ints n.kids).length = n.kids.length := List.length_map ..
  have hz : VRle [.agg [.int .i64 0, .slc 0 [] true, .slc 0 [] true, .int .i64 0, .int .i64 0, .int .i64 0]] [encT default] := by
    rw [show (default : Ty) = .mk 0 [] [] 0 0 0 from rfl, encT]
    (repeat (first | exact VRle.refl _ | exact Zc5 | refine Zc6 rfl rfl ?_ | refine Zc7 rfl ?_ | refine Zc4 ?_ ?_))
  have hzs : ∀ m, VRle (flat (List.replicate m (.agg [.int .i64 0, .slc 0 [] true, .slc 0 [] true, .int .i64 0, .int .i64 0, .int .i64 0]))) (flat (Zln (List.replicate m default))) := by
    intro m
    induction m with
    | zero => exact VRle.refl _
    | succ m ih =>
      rw [List.replicate_succ, List.replicate_succ, Zln, Z3, Z3]
      refine VRle.app ?_ ih
      rw [show (default : Ty) = .mk 0 [] [] 0 0 0 from rfl, encT]
      simp only [Z0.cells]
      (repeat (first | exact VRle.refl _ | exact Zc5 | refine Zc6 rfl rfl ?_ | refine Zc7 rfl ?_ | refine Zc4 ?_ ?_))
  have hel : ∀ m, ∀ y ∈ Zln (List.replicate m default), y.elem 6 := by
    intro m y hy
    rw [Zlq, List.map_replicate] at hy
    rw [List.eq_of_mem_replicate hy]
    exact Z0.fit_iff.1 rfl
  have hv : VRle [.agg [.int .i64 n.t.kind, .slc 0 [] true, .slc 6 (List.replicate n.kids.length (.agg [.int .i64 0, .slc 0 [] true, .slc 0 [] true, .int .i64 0, .int .i64 0, .int .i64 0])) false, .int .i64 n.t.len, .int .i64 n.t.prec, .int .i64 n.t.scale]] [encT (tyK n)] := by
    rw [tyK, encT]
    refine VRle.agg (by simp [Z0.one]) ?_
    refine VRle.cons (VRle.refl _) ?_
    refine VRle.cons (VRle.nilF _ _) ?_
    refine VRle.cons (VRle.cells (by simp [Zlr]) (hel _) (hzs _)) (VRle.refl _)
  refine Z21.le ?_ hv
  refine Z8t rfl Z1yb (Nat.le_of_ble_eq_true rfl) ?_
  refine Z9z ?_
  refine Z9j rfl (Kfi rfl) fun b1 hb1 => ?_
  refine Z9k (by simp [Z0.cells, Z0.one]) fun b2 hb2 => ?_
  (repeat (refine st_q rfl rfl rfl ?_))
  (refine Z8y ?_; (repeat (first | refine Z9v rfl ?_ | refine Z9w ?_)); refine Z9u ?_)
  refine Z8a (FSub.refl _) (HSub.swap _ _ _) ?_
  refine Zb3 (d := 1) (cs := Zm2 n) rfl ?_
  refine Z9z ?_
  (repeat (refine st_q rfl rfl rfl ?_))
  rw [hkn]
  refine Z9l rfl (Kfi rfl) (by omega) (by omega) (by omega) (by omega) fun b3 hb3 => ?_
  have hne : b3 ≠ b2 := fun e => hb3 (by rw [e]; simp [Zh])
  rw [Int.toNat_natCast]
  (repeat (refine st_q rfl rfl rfl ?_))
  refine Z9a rfl (Z90 hne Z8z) rfl (by decide) (Kfi rfl) (fun h => by cases h) (Z9c hne Z9b) ?_
  (refine Z8y ?_; (repeat (first | refine Z9v rfl ?_ | refine Z9w ?_)); refine Z9u ?_)
  refine Z8a (FSub.refl _) (HSub.swap _ _ _) ?_
  refine Zby (Zbx.cellS (A := []) (B := []) (p := [.int .i64 n.t.kind, .slc 0 [] true]) (q := [.int .i64 n.t.len, .int .i64 n.t.prec, .int .i64 n.t.scale]) (β := [(b3, .cells 6 (List.replicate n.kids.length (.agg [.int .i64 0, .slc 0 [] true, .slc 0 [] true, .int .i64 0, .int .i64 0, .int .i64 0])))])
    (.inr ⟨b3, by rw [List.length_replicate], rfl⟩) (by intro y hy; simp only [List.nil_append, List.mem_singleton] at hy; subst hy; exact Z0.fit_iff.1 rfl)) ?_
  refine Z8d ?_
  exact ares (vs := [.agg [.int .i64 n.t.kind, .slc 0 [] true, .slc 6 (List.replicate n.kids.length (.agg [.int .i64 0, .slc 0 [] true, .slc 0 [] true, .int .i64 0, .int .i64 0, .int .i64 0])) false, .int .i64 n.t.len, .int .i64 n.t.prec, .int .i64 n.t.scale]]) (Zy4 rfl Z8z rfl) (HSub.tail _ _) ⟨rfl, rfl⟩
theorem Z1yi (b : Bool) (n : Int) (σ : Zc) : Z1q Try.prog Zg3 [.bool b, .iptr [.int .i64 n]] σ fun r σ' => r = .int .i64 (if b = true then n else 0) ∧ σ' = σ := by
  refine Z8t rfl Z1yc (Nat.le_of_ble_eq_true rfl) ?_
  cases b with
  | true =>
    (repeat (first | refine st_q rfl rfl rfl ?_ | (refine Z8y ?_; (repeat (first | refine Z9v rfl ?_ | refine Z9w ?_)); refine Z9u ?_) | refine awp_seq ?_ | refine Zbm (fun _ _ => rfl) ?_ | refine Kc1 rfl ?_))
    refine Z8d ?_
    exact Kar rfl ⟨rfl, rfl⟩
  | false =>
    (repeat (first | refine st_q rfl rfl rfl ?_ | (refine Z8y ?_; (repeat (first | refine Z9v rfl ?_ | refine Z9w ?_)); refine Z9u ?_) | refine awp_seq ?_ | refine Zbm (fun _ _ => rfl) ?_ | refine Zbn (fun _ _ => rfl) ?_ | refine Kc2 rfl ?_))
    refine Z8d ?_
    exact Kar rfl ⟨rfl, rfl⟩
def Z1yj (t : Ty) (v m : Int) : Bool := if t.kind = 13 then decide (0 ≤ v ∧ v < t.kids.length) else decide (vchk t (.mk false v m [] []) = 0)
theorem Z1yk (t : Ty) (ht : t.kind = 13 ∨ t.Ok) (v m : Int) (hv : -9223372036854775808 ≤ v ∧ v ≤ 9223372036854775807) (σ : Zc) : Z1q Try.prog Zg4 [encT t, .int .i64 v, .int .i64 m] σ fun r σ' => r = .bool (Z1yj t v m) ∧ σ' = σ := by
  have hkl := Zlr t.kids
  have hVC := fun h => Z138 (.mk false v m [] []) (.mk hv (by simp [Vl.b]) (by simp [Vl.kids]) (by simp [Vl.kids])) t h
  rw [Zlp] at hVC ⊢
  refine Z8t rfl Z1yd (Nat.le_of_ble_eq_true rfl) ?_
  refine Z9z ?_
  refine Z9j rfl (Kfi rfl) fun b1 hb1 => ?_
  (repeat (refine st_q rfl rfl rfl ?_))
  (refine Z8y ?_; (repeat (first | refine Z9v rfl ?_ | refine Z9w ?_)); refine Z9u ?_)
  refine Zb3 (d := 3) (cs := Zlo t) rfl ?_
  (repeat (first | refine st_q rfl rfl rfl ?_ | (refine Z8y ?_; (repeat (first | refine Z9v rfl ?_ | refine Z9w ?_)); refine Z9u ?_) | refine awp_seq ?_ | refine Zbm (fun _ _ => rfl) ?_))
  by_cases k13 : t.kind = 13
  · rw [Z1yj, if_pos k13]
    (rw [decide_eq_true (p := t.kind = 13) (by omega)])
    by_cases h0 : 0 ≤ v
    · (repeat (first | refine st_q rfl rfl rfl ?_ | refine awp_seq ?_ | refine Zbm (fun _ _ => rfl) ?_ | refine Kc1 rfl ?_))
      (rw [decide_eq_true (p := v ≥ 0) (by omega)])
      (repeat (first | refine st_q rfl rfl rfl ?_ | refine Z8v rfl (st_q rfl rfl rfl ?_) | (refine Z8y ?_; (repeat (first | refine Z9v rfl ?_ | refine Z9w ?_)); refine Z9u ?_)))
      rw [hkl]
      refine Z8d ?_
      refine ares rfl (HSub.refl _) ⟨?_, rfl⟩
      show Z0.bool _ = _
      congr 1
      simp [h0]
    · (repeat (first | refine st_q rfl rfl rfl ?_ | refine awp_seq ?_ | refine Zbm (fun _ _ => rfl) ?_ | refine Kc1 rfl ?_))
      (rw [decide_eq_false (p := v ≥ 0) (by omega)])
      (repeat (first | refine st_q rfl rfl rfl ?_ | refine Z8w rfl ?_ | (refine Z8y ?_; (repeat (first | refine Z9v rfl ?_ | refine Z9w ?_)); refine Z9u ?_)))
      refine Z8d ?_
      exact Kar rfl ⟨by rw [decide_eq_false (by omega)]; rfl, rfl⟩
  · rw [Z1yj, if_neg k13]
    have hVC := hVC (by rcases ht with h | h; exact absurd h k13; exact h)
    rw [Zm7] at hVC
    (rw [decide_eq_false (p := t.kind = 13) (by omega)])
    (repeat (first | refine st_q rfl rfl rfl ?_ | refine awp_seq ?_ | refine Zbm (fun _ _ => rfl) ?_ | refine Zbn (fun _ _ => rfl) ?_ | refine Kc2 rfl ?_))
    refine Z9t rfl (Z1q.args (by
      simp only [Zm6, Vl.null, Vl.i, Vl.n, Vl.b, Vl.kids, bytes, Zm5, List.map_nil]
      (repeat (first | exact VRle.refl _ | exact Zc5 | refine Zc6 rfl rfl ?_ | refine Zc7 rfl ?_ | refine Zc4 ?_ ?_))) (hVC _)) ?_
    (repeat (first | refine st_q rfl rfl rfl ?_ | (refine Z8y ?_; (repeat (first | refine Z9v rfl ?_ | refine Z9w ?_)); refine Z9u ?_)))
    refine Z8d ?_
    refine ares rfl (HSub.refl _) ⟨?_, rfl⟩
    show Z0.bool _ = _
    congr 1
    exact decide_eq_decide.2 (by omega)
structure Right (n : Nd) (c : Col) (count : Nat) (nulls : Bool) : Prop where
  sm : c.Sm
  rng : c.Rng
  good : c.Good n.t.kind
  here : c.here.length = count
  kids : n.kids.length ≤ 1000
  tOk : n.t.Ok
  kidl : n.kids.length = n.t.kids.length
  ints : ∀ i v, c.ints[i]? = some v → Z1yj (tyK n) v (if n.t.kind = 9 then c.ns.getD i 0 else 0) = true
  texts : ∀ b ∈ c.texts, vchk (tyK n) (.mk false 0 0 b []) = 0
  lens : ∀ v ∈ c.lens, 0 ≤ v
  null : nulls = false → hereN c = count
  sum : lenF n.t.kind = true → askF n.t.kind c 0 ≤ 16384
theorem Z1yl {n : Nd} (h : n.t.Ok) (hk : n.kids.length = n.t.kids.length) (hl : Zlt n.t.kind = true) : (tyK n).Ok := by
  have h0 : n.t.kids = [] := by
    have := h.kinds.1
    simp only [Zlt, Bool.not_eq_true', Bool.or_eq_false_iff, decide_eq_false_iff_not] at hl
    rw [Zlv, if_neg hl.1.1.1, if_neg hl.1.1.2, if_neg hl.1.2, if_neg hl.2] at this
    exact List.length_eq_zero_iff.1 (by simpa using this)
  have e : tyK n = tyN n := by
    rw [tyK, tyN, hk, h0]; rfl
  rw [e]
  exact Z1ye h hl
theorem Z1ym (n : Nd) (c : Col) (count : Nat) (nulls : Bool) (hR : Right n c count nulls) (σ : Zc) : Z1q Try.prog Zf0 [encN n, encC c, .int .i64 count, .bool nulls] σ fun r σ' => r = .int .i64 0 ∧ σ' = σ := by
  obtain ⟨hsm, hrng, hgood, hhere, hkids, htok, hkidl, hints, htexts, hlens, hnull, hsum⟩ := hR
  obtain ⟨g1, g2, g3, g4⟩ := hgood
  have hTy := Z1yl htok hkidl
  have hkind : (tyK n).kind = n.t.kind := rfl
  have hle : hereN c ≤ 16384 := Nat.le_trans List.count_le_length hsm.here
  have hAsk := fun σ => Z1s2 n.t.kind 0 (Zm2 n) rfl rfl (Z1rx n) c hsm σ
  have hHere := Z1s0 c (by have := hsm.here; omega)
  have hTyp := Z1yh n hkids
  rw [Zlp] at hTyp
  have hTx : ∀ b ∈ c.texts, ∀ σ, Z1q Try.prog Zet [.agg (Zlo (tyK n)), .agg (Zm6 (.mk false 0 0 b []))] σ fun r σ' => r = .int .i64 (0 : Nat) ∧ σ' = σ := by
    intro b hb
    have hk : Zmb n.t.kind = true := by
      cases e : Zmb n.t.kind with
      | true => rfl
      | false =>
        rw [e, if_neg (by simp)] at g1
        rw [List.length_eq_zero_iff.1 g1] at hb
        cases hb
    have := Z138 (.mk false 0 0 b []) (.mk (by simp [Vl.i]) (by have := hrng.text b hb; simp only [Vl.b]; omega) (by simp [Vl.kids]) (by simp [Vl.kids])) (tyK n) (hTy (Z1pp hk))
    rw [htexts b hb, Zlp, Zm7] at this
    exact this
  have hNu : ∀ (i : Nat) v, c.ints[i]? = some v → ∀ σ, Z1q Try.prog Zg4 [.agg (Zlo (tyK n)), .int .i64 v, .int .i64 (if n.t.kind = 9 then c.ns.getD i 0 else 0)] σ fun r σ' => r = .bool true ∧ σ' = σ := by
    intro i v hv
    have hk : (tyK n).kind = 13 ∨ (tyK n).Ok := by
      by_cases e13 : n.t.kind = 13
      · exact .inl e13
      · refine .inr (hTy ?_)
        have hn : ¬ (Zmb n.t.kind = true ∨ n.t.kind = 10 ∨ n.t.kind = 11 ∨ n.t.kind = 12) := fun h => by
          rw [if_pos h] at g2
          rw [List.length_eq_zero_iff.1 g2] at hv
          simp at hv
        simp only [not_or] at hn
        simp [Zlt, hn.2.1, hn.2.2.1, hn.2.2.2, e13]
    have := Z1yk (tyK n) hk v (if n.t.kind = 9 then c.ns.getD i 0 else 0) (hrng.int v (List.mem_of_getElem? hv))
    rw [hints i v hv, Zlp] at this
    exact this
  have el : ∀ {α : Type} (f : α → Z0) (l : List α), (l.map f).length = l.length := fun f l => List.length_map ..
  refine Z8t rfl Z1ya (Nat.le_of_ble_eq_true rfl) ?_
  refine Z9z ?_
  refine Z9j rfl (Kfi rfl) fun b4 hb4 => ?_
  refine Z9j rfl (Kfi rfl) fun b5 hb5 => ?_
  (repeat (refine st_q rfl rfl rfl ?_))
  (refine Z8y ?_; (repeat (first | refine Z9v rfl ?_ | refine Z9w ?_)); refine Z9u ?_)
  refine Zb3 (d := 5) (cs := Zxu c) rfl ?_
  refine Zb3 (d := 4) (cs := Zm2 n) rfl ?_
  refine Z9z ?_
  (repeat (refine st_q rfl rfl rfl ?_))
  refine Z9t rfl (hHere _) ?_
  refine Z9k (by simp [Z0.cells, Z0.one]) fun b9 hb9 => ?_
  refine Z9a rfl Z8z rfl (by decide) (Kfi rfl) (fun _ => ⟨rfl, rfl⟩) Z9b ?_
  (refine Z8y ?_; (repeat (first | refine Z9v rfl ?_ | refine Z9w ?_)); refine Z9u ?_)
  refine Z1yg (d := 9) (x := .int .i64 (hereN c : Nat)) rfl ?_
  refine Z9z ?_
  (repeat (refine st_q rfl rfl rfl ?_))
  refine Zbw rfl (c_of n.t.kind) ?_
  (repeat (refine st_q rfl rfl rfl ?_))
  refine Zbw rfl hTyp ?_
  refine Z9k (by simp [Z0.cells, Z0.one]) fun b10 hb10 => ?_
  refine Z9k (by simp [Z0.cells, Z0.one]) fun b11 hb11 => ?_
  have hne : b11 ≠ b10 := fun e => hb11 (by rw [e]; simp [Zh])
  refine Z9a rfl (Z90 hne Z8z) rfl (by decide) (Kfi rfl) (fun h => by cases h) (Z9c hne Z9b) ?_
  refine Z9a rfl Z8z rfl (by decide) (Kfi rfl) (fun h => by cases h) Z9b ?_
  (refine Z8y ?_; (repeat (first | refine Z9v rfl ?_ | refine Z9w ?_)); refine Z9u ?_)
  refine Zb3 (d := 11) (cs := Zlo (tyK n)) rfl ?_
  refine Zb3 (d := 10) (cs := Z1ry n.t.kind) rfl ?_
  (refine Z9y (keep := [2, 3, 4, 5, 9, 10, 11]) ?_; ((repeat (first | refine Z9v rfl ?_ | refine Z9w ?_)); refine Z9u ?_))
  generalize tyK n = T at hTx hNu hkind
  have hN : c.here.count true = hereN c := rfl
  rw [hN] at g1 g2 g3 g4
  have hI : (c.ints.length : Int) = if intF n.t.kind = true then ((hereN c : Nat) : Int) else 0 := by
    rw [g2]
    cases e : Zmb n.t.kind <;> by_cases e1 : n.t.kind = 10 <;> by_cases e2 : n.t.kind = 11 <;> by_cases e3 : n.t.kind = 12 <;> simp [intF, e, e1, e2, e3]
  have hNs : (c.ns.length : Int) = if decide (n.t.kind = 9) = true then ((hereN c : Nat) : Int) else 0 := by
    rw [g3]; by_cases e : n.t.kind = 9 <;> simp [e]
  have hTs : (c.texts.length : Int) = if Zmb n.t.kind = true then ((hereN c : Nat) : Int) else 0 := by
    rw [g1]; cases Zmb n.t.kind <;> simp
  have hLs : (c.lens.length : Int) = if lenF n.t.kind = true then ((hereN c : Nat) : Int) else 0 := by
    rw [g4]; by_cases e1 : n.t.kind = 10 <;> by_cases e2 : n.t.kind = 11 <;> simp [lenF, e1, e2]
  have sm := hsm
  obtain ⟨l1, l2, l3, l4, l5⟩ := sm
  (repeat (first | refine st_q rfl rfl rfl ?_ | (refine Z8y ?_; (repeat (first | refine Z9v rfl ?_ | refine Z9w ?_)); refine Z9u ?_) | refine awp_seq ?_ | refine Zbm (fun _ _ => rfl) ?_))
  rw [el]
  (rw [decide_eq_false (p := (c.here.length : Int) ≠ (count : Int)) (by omega)])
  (repeat refine Z8v rfl (st_q rfl rfl rfl ?_))
  refine Z8v rfl (Z1yf rfl (by kernel_rfl) (Z1yi _ _ _) ?_)
  (repeat (first | refine st_q rfl rfl rfl ?_ | refine Z8v rfl (st_q rfl rfl rfl ?_)))
  rw [show decide (((c.ints.map (Z0.int .i64)).length : Int) ≠ (if intF n.t.kind = true then ((hereN c : Nat) : Int) else 0)) = false from decide_eq_false (fun h => h (by rw [el]; exact hI))]
  (repeat refine Z8v rfl (st_q rfl rfl rfl ?_))
  refine Z8v rfl (Z1yf rfl (by kernel_rfl) (Z1yi _ _ _) ?_)
  (repeat (first | refine st_q rfl rfl rfl ?_ | refine Z8v rfl (st_q rfl rfl rfl ?_)))
  rw [show decide (((c.ns.map (Z0.int .i64)).length : Int) ≠ (if decide (n.t.kind = 9) = true then ((hereN c : Nat) : Int) else 0)) = false from decide_eq_false (fun h => h (by rw [el]; exact hNs))]
  (repeat refine Z8v rfl (st_q rfl rfl rfl ?_))
  refine Z8v rfl (Z1yf rfl (by kernel_rfl) (Z1yi _ _ _) ?_)
  (repeat (first | refine st_q rfl rfl rfl ?_ | refine Z8v rfl (st_q rfl rfl rfl ?_)))
  rw [show decide (((c.texts.map fun b => Z0.slc 1 (bytes b) false).length : Int) ≠ (if Zmb n.t.kind = true then ((hereN c : Nat) : Int) else 0)) = false from decide_eq_false (fun h => h (by rw [el]; exact hTs))]
  (repeat refine Z8v rfl (st_q rfl rfl rfl ?_))
  refine Z8v rfl (Z1yf rfl (by kernel_rfl) (Z1yi _ _ _) ?_)
  (repeat (first | refine st_q rfl rfl rfl ?_ | refine Z8v rfl (st_q rfl rfl rfl ?_)))
  rw [show decide (((c.lens.map (Z0.int .i64)).length : Int) ≠ (if lenF n.t.kind = true then ((hereN c : Nat) : Int) else 0)) = false from decide_eq_false (fun h => h (by rw [el]; exact hLs))]
  (repeat (first | refine st_q rfl rfl rfl ?_ | (refine Z8y ?_; (repeat (first | refine Z9v rfl ?_ | refine Z9w ?_)); refine Z9u ?_) | refine awp_seq ?_ | refine Zbm (fun _ _ => rfl) ?_ | refine Z8h ?_ | refine Zbn (fun _ _ => rfl) ?_ | refine Kc2 rfl ?_))
  rw [el]
  refine Zaa (fun m F σ' => ∃ i : Nat, F = fset 2 (some (.int .i64 (count : Nat))) (fset 3 (some (.bool nulls)) (fset 4 (some (.iptr (Zm2 n))) (fset 5 (some (.iptr (Zxu c))) (fset 9 (some (.iptr [.int .i64 (hereN c : Nat)])) (fset 10 (some (.iptr (Z1ry n.t.kind))) (fset 11 (some (.iptr (Zlo T))) (fset 74 (some (.slc 1 (c.ints.map (.int .i64)) false)) (fset 75 (some (.int .i64 (c.ints.length : Nat))) (fset 76 (some (.int .i64 i)) Z27))))))))) ∧ σ = σ' ∧ i ≤ c.ints.length ∧ m = c.ints.length - i) (n := c.ints.length)
    ⟨0, rfl, rfl, by omega, by omega⟩ ?_
  rintro m F σ' ⟨i, rfl, rfl, hi, rfl⟩
  (repeat (first | refine st_q rfl rfl rfl ?_ | (refine Z8y ?_; (repeat (first | refine Z9v rfl ?_ | refine Z9w ?_)); refine Z9u ?_) | refine awp_seq ?_ | refine Zbm (fun _ _ => rfl) ?_))
  refine Za3 (p := (i : Int) < (c.ints.length : Nat)) rfl (fun h3 => ?_) (fun h3 => ?_)
  · have hil : i < c.ints.length := by omega
    have hx := Zxw (f := Z0.int .i64) hil
    have hn := hNu i c.ints[i] (List.getElem?_eq_getElem hil)
    generalize c.ints[i] = v at hx hn
    (repeat (first | refine st_q rfl rfl rfl ?_ | refine awp_seq ?_ | refine Zbm (fun _ _ => rfl) ?_ | refine Z8h ?_ | refine Zbn (fun _ _ => rfl) ?_))
    refine Z93 rfl (by omega) hx ?_
    (repeat (first | refine st_q rfl rfl rfl ?_ | (refine Z8y ?_; (repeat (first | refine Z9v rfl ?_ | refine Z9w ?_)); refine Z9u ?_) | refine awp_seq ?_ | refine Zbm (fun _ _ => rfl) ?_))
    refine Za3 (p := n.t.kind = 9) rfl (fun k9 => ?_) (fun k9 => ?_)
    · have hin : i < c.ns.length := by
        rw [g3, if_pos k9]
        have hk : ¬ (Zmb n.t.kind = true ∨ n.t.kind = 10 ∨ n.t.kind = 11 ∨ n.t.kind = 12) := by rw [k9]; decide
        rw [if_neg hk] at g2
        omega
      have hy := Zxw (f := Z0.int .i64) hin
      rw [if_pos k9, List.getD_eq_getElem?_getD, List.getElem?_eq_getElem hin, Option.getD_some] at hn
      generalize c.ns[i] = y at hy hn
      (repeat (first | refine st_q rfl rfl rfl ?_ | refine Zbm (fun _ _ => rfl) ?_))
      refine Z93 rfl (by omega) hy ?_
      (repeat (first | refine st_q rfl rfl rfl ?_ | (refine Z8y ?_; (repeat (first | refine Z9v rfl ?_ | refine Z9w ?_)); refine Z9u ?_) | refine awp_seq ?_ | refine Zbm (fun _ _ => rfl) ?_))
      refine Z9t rfl (hn _) ?_
      (repeat (first | refine st_q rfl rfl rfl ?_ | (refine Z8y ?_; (repeat (first | refine Z9v rfl ?_ | refine Z9w ?_)); refine Z9u ?_) | refine Zbn (fun _ _ => rfl) ?_ | refine Kc2 rfl ?_))
      refine Zbp ?_
      (repeat (refine st_q rfl rfl rfl ?_))
      rw [Kwr i (by omega)]
      (refine Z8y ?_; (repeat (first | refine Z9v rfl ?_ | refine Z9w ?_)); refine Z9u ?_)
      exact ⟨_, c.ints.length - (i + 1), HSub.refl _, ⟨i + 1, rfl, rfl, by omega, rfl⟩, by omega⟩
    · rw [if_neg k9] at hn
      (repeat (first | refine st_q rfl rfl rfl ?_ | refine awp_seq ?_ | refine Zbm (fun _ _ => rfl) ?_ | refine Zbn (fun _ _ => rfl) ?_))
      refine Z9t rfl (hn _) ?_
      (repeat (first | refine st_q rfl rfl rfl ?_ | (refine Z8y ?_; (repeat (first | refine Z9v rfl ?_ | refine Z9w ?_)); refine Z9u ?_) | refine Zbn (fun _ _ => rfl) ?_ | refine Kc2 rfl ?_))
      refine Zbp ?_
      (repeat (refine st_q rfl rfl rfl ?_))
      rw [Kwr i (by omega)]
      (refine Z8y ?_; (repeat (first | refine Z9v rfl ?_ | refine Z9w ?_)); refine Z9u ?_)
      exact ⟨_, c.ints.length - (i + 1), HSub.refl _, ⟨i + 1, rfl, rfl, by omega, rfl⟩, by omega⟩
  (repeat (first | refine st_q rfl rfl rfl ?_ | (refine Z8y ?_; (repeat (first | refine Z9v rfl ?_ | refine Z9w ?_)); refine Z9u ?_) | refine awp_seq ?_ | refine Zbm (fun _ _ => rfl) ?_ | refine Z8h ?_ | refine Zbo (fun _ _ => rfl) ?_))
  rw [el]
  refine Zaa (fun m F σ' => ∃ i : Nat, F = fset 2 (some (.int .i64 (count : Nat))) (fset 3 (some (.bool nulls)) (fset 4 (some (.iptr (Zm2 n))) (fset 5 (some (.iptr (Zxu c))) (fset 9 (some (.iptr [.int .i64 (hereN c : Nat)])) (fset 10 (some (.iptr (Z1ry n.t.kind))) (fset 11 (some (.iptr (Zlo T))) (fset 95 (some (.slc 1 (c.texts.map fun b => Z0.slc 1 (bytes b) false) false)) (fset 96 (some (.int .i64 (c.texts.length : Nat))) (fset 97 (some (.int .i64 i)) Z27))))))))) ∧ σ = σ' ∧ i ≤ c.texts.length ∧ m = c.texts.length - i) (n := c.texts.length)
    ⟨0, rfl, rfl, by omega, by omega⟩ ?_
  rintro m F σ' ⟨i, rfl, rfl, hi, rfl⟩
  (repeat (first | refine st_q rfl rfl rfl ?_ | (refine Z8y ?_; (repeat (first | refine Z9v rfl ?_ | refine Z9w ?_)); refine Z9u ?_) | refine awp_seq ?_ | refine Zbm (fun _ _ => rfl) ?_))
  refine Za3 (p := (i : Int) < (c.texts.length : Nat)) rfl (fun h3 => ?_) (fun h3 => ?_)
  · have hil : i < c.texts.length := by omega
    have hx := Zxw (f := fun b => Z0.slc 1 (bytes b) false) hil
    have hn := hTx c.texts[i] (List.getElem_mem hil)
    generalize c.texts[i] = v at hx hn
    (repeat (first | refine awp_seq ?_ | refine Zbm (fun _ _ => rfl) ?_ | refine Z8h ?_ | refine Zbn (fun _ _ => rfl) ?_))
    refine Z93 rfl (by omega) hx ?_
    (repeat (first | refine st_q rfl rfl rfl ?_ | (refine Z8y ?_; (repeat (first | refine Z9v rfl ?_ | refine Z9w ?_)); refine Z9u ?_) | refine awp_seq ?_ | refine Zbm (fun _ _ => rfl) ?_))
    refine Z9t rfl (Z1q.args (by
      simp only [Zm6, Vl.null, Vl.i, Vl.n, Vl.b, Vl.kids, Zm5]
      (repeat (first | exact VRle.refl _ | exact Zc5 | refine Zc6 rfl rfl ?_ | refine Zc7 rfl ?_ | refine Zc4 ?_ ?_))) (hn _)) ?_
    (repeat (first | refine st_q rfl rfl rfl ?_ | (refine Z8y ?_; (repeat (first | refine Z9v rfl ?_ | refine Z9w ?_)); refine Z9u ?_) | refine Zbn (fun _ _ => rfl) ?_ | refine Kc2 rfl ?_))
    refine Zbp ?_
    (repeat (refine st_q rfl rfl rfl ?_))
    rw [Kwr i (by omega)]
    (refine Z8y ?_; (repeat (first | refine Z9v rfl ?_ | refine Z9w ?_)); refine Z9u ?_)
    exact ⟨_, c.texts.length - (i + 1), HSub.refl _, ⟨i + 1, rfl, rfl, by omega, rfl⟩, by omega⟩
  (repeat (first | refine st_q rfl rfl rfl ?_ | (refine Z8y ?_; (repeat (first | refine Z9v rfl ?_ | refine Z9w ?_)); refine Z9u ?_) | refine awp_seq ?_ | refine Zbm (fun _ _ => rfl) ?_ | refine Z8h ?_ | refine Zbo (fun _ _ => rfl) ?_))
  rw [el]
  refine Zaa (fun m F σ' => ∃ i : Nat, F = fset 2 (some (.int .i64 (count : Nat))) (fset 3 (some (.bool nulls)) (fset 4 (some (.iptr (Zm2 n))) (fset 5 (some (.iptr (Zxu c))) (fset 9 (some (.iptr [.int .i64 (hereN c : Nat)])) (fset 10 (some (.iptr (Z1ry n.t.kind))) (fset 108 (some (.slc 1 (c.lens.map (.int .i64)) false)) (fset 109 (some (.int .i64 (c.lens.length : Nat))) (fset 110 (some (.int .i64 i)) Z27)))))))) ∧ σ = σ' ∧ i ≤ c.lens.length ∧ m = c.lens.length - i) (n := c.lens.length)
    ⟨0, rfl, rfl, by omega, by omega⟩ ?_
  rintro m F σ' ⟨i, rfl, rfl, hi, rfl⟩
  (repeat (first | refine st_q rfl rfl rfl ?_ | (refine Z8y ?_; (repeat (first | refine Z9v rfl ?_ | refine Z9w ?_)); refine Z9u ?_) | refine awp_seq ?_ | refine Zbm (fun _ _ => rfl) ?_))
  refine Za3 (p := (i : Int) < (c.lens.length : Nat)) rfl (fun h3 => ?_) (fun h3 => ?_)
  · have hil : i < c.lens.length := by omega
    have hx := Zxw (f := Z0.int .i64) hil
    have hn := hlens c.lens[i] (List.getElem_mem hil)
    generalize c.lens[i] = v at hx hn
    (repeat (first | refine awp_seq ?_ | refine Zbm (fun _ _ => rfl) ?_ | refine Z8h ?_ | refine Zbn (fun _ _ => rfl) ?_))
    refine Z93 rfl (by omega) hx ?_
    (repeat (first | refine st_q rfl rfl rfl ?_ | (refine Z8y ?_; (repeat (first | refine Z9v rfl ?_ | refine Z9w ?_)); refine Z9u ?_) | refine awp_seq ?_ | refine Zbm (fun _ _ => rfl) ?_))
    (rw [decide_eq_false (p := v < 0) (by omega)])
    (repeat (first | refine Zbn (fun _ _ => rfl) ?_ | refine Kc2 rfl ?_))
    refine Zbp ?_
    (repeat (refine st_q rfl rfl rfl ?_))
    rw [Kwr i (by omega)]
    (refine Z8y ?_; (repeat (first | refine Z9v rfl ?_ | refine Z9w ?_)); refine Z9u ?_)
    exact ⟨_, c.lens.length - (i + 1), HSub.refl _, ⟨i + 1, rfl, rfl, by omega, rfl⟩, by omega⟩
  cases hl : lenF n.t.kind with
  | true =>
    have hs := hsum hl
    rw [Z1ry, hl]
    cases nulls with
    | true =>
      (repeat (first | refine st_q rfl rfl rfl ?_ | refine Z8v rfl (st_q rfl rfl rfl ?_) | refine Z8w rfl ?_ | (refine Z8y ?_; (repeat (first | refine Z9v rfl ?_ | refine Z9w ?_)); refine Z9u ?_) | refine awp_seq ?_ | refine Zbm (fun _ _ => rfl) ?_ | refine Z8h ?_ | refine Zbo (fun _ _ => rfl) ?_ | refine Kc2 rfl ?_))
      refine Z8v rfl (Z9t rfl (hAsk _) ?_)
      (repeat (first | refine st_q rfl rfl rfl ?_ | refine Z8v rfl (st_q rfl rfl rfl ?_) | (refine Z8y ?_; (repeat (first | refine Z9v rfl ?_ | refine Z9w ?_)); refine Z9u ?_)))
      (rw [decide_eq_false (p := (16384 : Int) < (askF n.t.kind c 0 : Nat)) (by omega)])
      (repeat (first | refine st_q rfl rfl rfl ?_ | (refine Z8y ?_; (repeat (first | refine Z9v rfl ?_ | refine Z9w ?_)); refine Z9u ?_) | refine awp_seq ?_ | refine Zbm (fun _ _ => rfl) ?_ | refine Zbn (fun _ _ => rfl) ?_ | refine Kc2 rfl ?_))
      refine Z8d ?_
      exact Kar rfl ⟨rfl, rfl⟩
    | false =>
      have hc := hnull rfl
      (repeat (first | refine st_q rfl rfl rfl ?_ | refine Z8v rfl (st_q rfl rfl rfl ?_) | (refine Z8y ?_; (repeat (first | refine Z9v rfl ?_ | refine Z9w ?_)); refine Z9u ?_) | refine awp_seq ?_ | refine Zbm (fun _ _ => rfl) ?_ | refine Z8h ?_ | refine Zbo (fun _ _ => rfl) ?_))
      (rw [decide_eq_false (p := ((hereN c : Nat) : Int) ≠ (count : Nat)) (by omega)])
      (repeat (first | refine st_q rfl rfl rfl ?_ | refine Z8v rfl (st_q rfl rfl rfl ?_) | refine awp_seq ?_ | refine Zbm (fun _ _ => rfl) ?_ | refine Kc2 rfl ?_))
      refine Z8v rfl (Z9t rfl (hAsk _) ?_)
      (repeat (first | refine st_q rfl rfl rfl ?_ | refine Z8v rfl (st_q rfl rfl rfl ?_) | (refine Z8y ?_; (repeat (first | refine Z9v rfl ?_ | refine Z9w ?_)); refine Z9u ?_)))
      (rw [decide_eq_false (p := (16384 : Int) < (askF n.t.kind c 0 : Nat)) (by omega)])
      (repeat (first | refine st_q rfl rfl rfl ?_ | (refine Z8y ?_; (repeat (first | refine Z9v rfl ?_ | refine Z9w ?_)); refine Z9u ?_) | refine awp_seq ?_ | refine Zbm (fun _ _ => rfl) ?_ | refine Zbn (fun _ _ => rfl) ?_ | refine Kc2 rfl ?_))
      refine Z8d ?_
      exact Kar rfl ⟨rfl, rfl⟩
  | false =>
    rw [Z1ry, hl]
    cases nulls with
    | true =>
      (repeat (first | refine st_q rfl rfl rfl ?_ | refine Z8w rfl ?_ | (refine Z8y ?_; (repeat (first | refine Z9v rfl ?_ | refine Z9w ?_)); refine Z9u ?_) | refine awp_seq ?_ | refine Zbm (fun _ _ => rfl) ?_ | refine Z8h ?_ | refine Zbn (fun _ _ => rfl) ?_ | refine Zbo (fun _ _ => rfl) ?_ | refine Kc2 rfl ?_))
      refine Z8d ?_
      exact Kar rfl ⟨rfl, rfl⟩
    | false =>
      have hc := hnull rfl
      (repeat (first | refine st_q rfl rfl rfl ?_ | refine Z8v rfl (st_q rfl rfl rfl ?_) | (refine Z8y ?_; (repeat (first | refine Z9v rfl ?_ | refine Z9w ?_)); refine Z9u ?_) | refine awp_seq ?_ | refine Zbm (fun _ _ => rfl) ?_ | refine Z8h ?_ | refine Zbo (fun _ _ => rfl) ?_))
      (rw [decide_eq_false (p := ((hereN c : Nat) : Int) ≠ (count : Nat)) (by omega)])
      (repeat (first | refine st_q rfl rfl rfl ?_ | refine Z8w rfl ?_ | (refine Z8y ?_; (repeat (first | refine Z9v rfl ?_ | refine Z9w ?_)); refine Z9u ?_) | refine awp_seq ?_ | refine Zbm (fun _ _ => rfl) ?_ | refine Zbn (fun _ _ => rfl) ?_ | refine Kc2 rfl ?_))
      refine Z8d ?_
      exact Kar rfl ⟨rfl, rfl⟩
end Go.Abs
namespace Go.Abs
open Go Go.Proofs
set_option linter.unusedVariables false
set_option linter.unusedSimpArgs false
structure Tk where
  at_ : List Nat
  he : List Nat
def iterO (f : Tk → Option (List Vl × Tk)) : Nat → Tk → Option (List Vl × Tk)
  | 0, s => some ([], s)
  | n + 1, s => match f s with
    | none => none
    | some (vs, s1) => match iterO f n s1 with
      | none => none
      | some (ws, s2) => some (vs ++ ws, s2)
mutual
def takeT (cols : List Col) (keep : List Bool) : Ty → Nat → Tk → Option (Vl × Tk)
  | .mk k _ ks _ _ _, a, st =>
    match (cols.getD a col0).here[st.at_.getD a 0]? with
    | none => none
    | some false => some (nullV, ⟨st.at_.set a (st.at_.getD a 0 + 1), st.he⟩)
    | some true =>
      if st.at_.getD a 0 < st.he.getD a 0 then none else
      if k = 10 ∨ k = 11 then
        match (cols.getD a col0).lens[st.he.getD a 0]? with
        | none => none
        | some n => match iterO (takeL cols keep ks (a + 1)) n.toNat ⟨st.at_.set a (st.at_.getD a 0 + 1), st.he.set a (st.he.getD a 0 + 1)⟩ with
          | none => none
          | some (vs, s) => some (.mk false 0 0 [] vs, s)
      else if k = 12 then
        match takeS cols keep ks (a + 1) ⟨st.at_.set a (st.at_.getD a 0 + 1), st.he.set a (st.he.getD a 0 + 1)⟩ with
        | none => none
        | some (vs, s) => some (.mk false 0 0 [] vs, s)
      else if k = 13 then
        match (cols.getD a col0).ints[st.he.getD a 0]? with
        | none => none
        | some n => if n < 0 then none else match takeN cols keep ks n.toNat (a + 1) ⟨st.at_.set a (st.at_.getD a 0 + 1), st.he.set a (st.he.getD a 0 + 1)⟩ with
          | none => none
          | some (v, s) => some (.mk false n 0 [] [v], s)
      else if Zmb k = true then
        match (cols.getD a col0).texts[st.he.getD a 0]? with
        | none => none
        | some b => some (.mk false 0 0 b [], ⟨st.at_.set a (st.at_.getD a 0 + 1), st.he.set a (st.he.getD a 0 + 1)⟩)
      else if k = 9 then
        match (cols.getD a col0).ns[st.he.getD a 0]?, (cols.getD a col0).ints[st.he.getD a 0]? with
        | some m, some n => some (.mk false n m [] [], ⟨st.at_.set a (st.at_.getD a 0 + 1), st.he.set a (st.he.getD a 0 + 1)⟩)
        | _, _ => none
      else
        match (cols.getD a col0).ints[st.he.getD a 0]? with
        | none => none
        | some n => some (.mk false n 0 [] [], ⟨st.at_.set a (st.at_.getD a 0 + 1), st.he.set a (st.he.getD a 0 + 1)⟩)
def takeL (cols : List Col) (keep : List Bool) : List Ty → Nat → Tk → Option (List Vl × Tk)
  | [], _, st => some ([], st)
  | t :: ts, a, st => match takeT cols keep t a st with
    | none => none
    | some (v, s1) => match takeL cols keep ts (a + cnt t) s1 with
      | none => none
      | some (vs, s2) => some (v :: vs, s2)
def takeS (cols : List Col) (keep : List Bool) : List Ty → Nat → Tk → Option (List Vl × Tk)
  | [], _, st => some ([], st)
  | t :: ts, a, st =>
    if keep.getD a false = true then
      match takeT cols keep t a st with
      | none => none
      | some (v, s1) => match takeS cols keep ts (a + cnt t) s1 with
        | none => none
        | some (vs, s2) => some (v :: vs, s2)
    else takeS cols keep ts (a + cnt t) st
def takeN (cols : List Col) (keep : List Bool) : List Ty → Nat → Nat → Tk → Option (Vl × Tk)
  | [], _, _, _ => none
  | t :: _, 0, a, st => takeT cols keep t a st
  | t :: ts, i + 1, a, st => takeN cols keep ts i (a + cnt t) st
end
theorem Z1q7 {cols : List Col} {keep : List Bool} : ∀ {ks : List Ty} {i a : Nat} {st : Tk} {r : Vl × Tk}, takeN cols keep ks i a st = some r → ∃ u, ks[i]? = some u ∧ takeT cols keep u (a + cntL (ks.take i)) st = some r
  | [], i, a, st, r, h => by rw [takeN] at h; cases h
  | t :: ts, 0, a, st, r, h => by
    rw [takeN] at h
    exact ⟨t, rfl, by simpa [cntL] using h⟩
  | t :: ts, i + 1, a, st, r, h => by
    rw [takeN] at h
    obtain ⟨u, h1, h2⟩ := Z1q7 h
    exact ⟨u, by simpa using h1, by rw [List.take_succ_cons, cntL, ← Nat.add_assoc]; exact h2⟩
theorem Z1q8 : ∀ (ks : List Ty) (j : Nat) (u : Ty), ks[j]? = some u → cntL (ks.take (j + 1)) = cntL (ks.take j) + cnt u
  | [], j, u, h => by simp at h
  | t :: ts, 0, u, h => by
    simp only [List.getElem?_cons_zero, Option.some.injEq] at h
    subst h
    simp [cntL]
  | t :: ts, j + 1, u, h => by
    rw [List.take_succ_cons, cntL, Z1q8 ts j u (by simpa using h), List.take_succ_cons, cntL]; omega
def Tk.sz (s : Tk) (n : Nat) : Prop := s.at_.length = n ∧ s.he.length = n
theorem Z1q9 {f : Tk → Option (List Vl × Tk)} {N : Nat} (hf : ∀ s vs s', f s = some (vs, s') → s.sz N → s'.sz N) : ∀ (n : Nat) (s : Tk) (vs : List Vl) (s' : Tk), iterO f n s = some (vs, s') → s.sz N → s'.sz N
  | 0, s, vs, s', h, hs => by simp only [iterO, Option.some.injEq, Prod.mk.injEq] at h; rw [← h.2]; exact hs
  | n + 1, s, vs, s', h, hs => by
    simp only [iterO] at h
    split at h
    · cases h
    · rename_i v s1 h1
      split at h
      · cases h
      · rename_i w s2 h2
        simp only [Option.some.injEq, Prod.mk.injEq] at h
        rw [← h.2]
        exact Z1q9 hf n s1 w s2 h2 (hf s v s1 h1 hs)
theorem Z1qa (cols : List Col) (keep : List Bool) (N : Nat) : ∀ (t : Ty) (a : Nat) (s : Tk) (v : Vl) (s' : Tk), takeT cols keep t a s = some (v, s') → s.sz N → s'.sz N := by
  refine Ty.ind fun k ns ks le pr sc ih a s v s' h hs => ?_
  have hL : ∀ (ks : List Ty), (∀ t ∈ ks, ∀ (a : Nat) (s : Tk) (v : Vl) (s' : Tk), takeT cols keep t a s = some (v, s') → s.sz N → s'.sz N) → ∀ (a : Nat) (s : Tk) (vs : List Vl) (s' : Tk), takeL cols keep ks a s = some (vs, s') → s.sz N → s'.sz N := by
    intro ks
    induction ks with
    | nil => intro _ a s vs s' h hs; simp only [takeL, Option.some.injEq, Prod.mk.injEq] at h; rw [← h.2]; exact hs
    | cons t ts ih2 =>
      intro ht a s vs s' h hs
      simp only [takeL] at h
      split at h
      · cases h
      · rename_i v s1 h1
        split at h
        · cases h
        · rename_i w s2 h2
          simp only [Option.some.injEq, Prod.mk.injEq] at h
          rw [← h.2]
          exact ih2 (fun t hm => ht t (List.mem_cons_of_mem _ hm)) _ _ _ _ h2 (ht t (by simp) _ _ _ _ h1 hs)
  have hSS : ∀ (ks : List Ty), (∀ t ∈ ks, ∀ (a : Nat) (s : Tk) (v : Vl) (s' : Tk), takeT cols keep t a s = some (v, s') → s.sz N → s'.sz N) → ∀ (a : Nat) (s : Tk) (vs : List Vl) (s' : Tk), takeS cols keep ks a s = some (vs, s') → s.sz N → s'.sz N := by
    intro ks
    induction ks with
    | nil => intro _ a s vs s' h hs; simp only [takeS, Option.some.injEq, Prod.mk.injEq] at h; rw [← h.2]; exact hs
    | cons t ts ih2 =>
      intro ht a s vs s' h hs
      simp only [takeS] at h
      split at h
      · split at h
        · cases h
        · rename_i v s1 h1
          split at h
          · cases h
          · rename_i w s2 h2
            simp only [Option.some.injEq, Prod.mk.injEq] at h
            rw [← h.2]
            exact ih2 (fun t hm => ht t (List.mem_cons_of_mem _ hm)) _ _ _ _ h2 (ht t (by simp) _ _ _ _ h1 hs)
      · exact ih2 (fun t hm => ht t (List.mem_cons_of_mem _ hm)) _ _ _ _ h hs
  have h2 : (⟨s.at_.set a (s.at_.getD a 0 + 1), s.he.set a (s.he.getD a 0 + 1)⟩ : Tk).sz N := ⟨by rw [List.length_set]; exact hs.1, by rw [List.length_set]; exact hs.2⟩
  rw [takeT] at h
  split at h
  · cases h
  · simp only [Option.some.injEq, Prod.mk.injEq] at h
    rw [← h.2]
    exact ⟨by rw [List.length_set]; exact hs.1, hs.2⟩
  · split at h
    · cases h
    split at h
    · split at h
      · cases h
      · split at h
        · cases h
        · rename_i h3
          simp only [Option.some.injEq, Prod.mk.injEq] at h
          rw [← h.2]
          exact Z1q9 (fun s vs s' h hs => hL ks ih _ _ _ _ h hs) _ _ _ _ h3 h2
    split at h
    · split at h
      · cases h
      · rename_i h3
        simp only [Option.some.injEq, Prod.mk.injEq] at h
        rw [← h.2]
        exact hSS ks ih _ _ _ _ h3 h2
    split at h
    · split at h
      · cases h
      · split at h
        · cases h
        · split at h
          · cases h
          · rename_i h3
            simp only [Option.some.injEq, Prod.mk.injEq] at h
            rw [← h.2]
            obtain ⟨u, u1, u2⟩ := Z1q7 h3
            exact ih u (List.mem_of_getElem? u1) _ _ _ _ u2 h2
    split at h
    · split at h
      · cases h
      · simp only [Option.some.injEq, Prod.mk.injEq] at h
        rw [← h.2]; exact h2
    split at h
    · split at h
      · simp only [Option.some.injEq, Prod.mk.injEq] at h
        rw [← h.2]; exact h2
      · cases h
    · split at h
      · cases h
      · simp only [Option.some.injEq, Prod.mk.injEq] at h
        rw [← h.2]; exact h2
theorem Z1qb (cols : List Col) (keep : List Bool) : ∀ (ks : List Ty) (a : Nat) (s : Tk) (vs : List Vl) (s' : Tk), takeL cols keep ks a s = some (vs, s') → vs.length = ks.length
  | [], a, s, vs, s', h => by simp only [takeL, Option.some.injEq, Prod.mk.injEq] at h; rw [← h.1]; rfl
  | t :: ts, a, s, vs, s', h => by
    simp only [takeL] at h
    split at h
    · cases h
    · split at h
      · cases h
      · rename_i w s2 h2
        simp only [Option.some.injEq, Prod.mk.injEq] at h
        rw [← h.1, List.length_cons, List.length_cons, Z1qb cols keep ts _ _ _ _ h2]
end Go.Abs
namespace Go.Abs
open Go Go.Proofs
set_option linter.unusedVariables false
set_option linter.unusedSimpArgs false
set_option maxHeartbeats 4000000
section
variable {P : Program} {l : List Z2a} {F : Z26} {σ : Zc} {Q : Z26 → Zc → Prop}
theorem Z1ve {d : Nat} {args : List Zw} {s b off n : Nat} {x : Z0} {xs ys : List Z0} (h1 : evs F args = some [.arr s b off n, x]) (hg : Zd σ b = some (.cells 1 xs)) (hy : Z1m σ 1 x = some ys) (hle : off + n ≤ xs.length)
    {σ' : Zc} (hs : Ze σ b (.cells 1 (xs.take off ++ ys.take (Nat.min ys.length n) ++ xs.drop (off + Nat.min ys.length n))) = σ') (h : aops P l (fset d (some (.int .i64 (Nat.min ys.length n : Nat))) F) σ' Q) : aops P (⟨some d, .cpy 1, args, none⟩ :: l) F σ Q := by
  subst hs
  exact ⟨_, h1, xs, ys, hg, hy, hle, h⟩
theorem Z1vf {d sz : Nat} {lo hi mx : Bool} {args : List Zw} {b off len : Nat} {rest : List Z0} {a e c : Int} {v : Z0} (h1 : evs F args = some (.arr sz b off len :: rest)) (hb : bnds len lo hi mx rest = some (a, e, c)) (h0 : 0 ≤ a ∧ a ≤ e ∧ e ≤ c ∧ c ≤ len)
    (hv : (if a = 0 then some (.arr sz b off e.toNat) else if a < e then some (.arr sz b (off + a.toNat) (e - a).toNat) else some (.slc sz [] false)) = some v)
    (h : aops P l (fset d (some v) F) σ Q) : aops P (⟨some d, .slc sz lo hi mx, args, none⟩ :: l) F σ Q :=
  st_q h1 (by simp only [Z1p, asub, hb, Option.bind_some]; rw [if_pos ⟨h0, trivial⟩]; exact hv) rfl h
end
attribute [local irreducible] AWp aops KP
theorem andM (n : Nat) (h : n < 4294967296) : intBits .and .u64 (n : Int) 4294967295 = (n : Int) := by
  show IntKind.wrap .u64 ((BitVec.ofInt 64 (n : Int) &&& BitVec.ofInt 64 4294967295).toNat : Int) = _
  have e1 : (BitVec.ofInt 64 4294967295).toNat = 2 ^ 32 - 1 := by decide
  rw [BitVec.toNat_and, BitVec.ofInt_natCast, BitVec.toNat_ofNat, e1, Nat.and_two_pow_sub_one_eq_mod, wu64]
  omega
theorem shrM (n : Nat) (h : n < 4294967296) : Int.fdiv (n : Int) (2 ^ (Nat.min (32 : Int).toNat (IntKind.bits .u64))) = 0 := by
  have e : (2 : Int) ^ (Nat.min (32 : Int).toNat (IntKind.bits .u64)) = 4294967296 := by decide
  rw [e, Int.fdiv_eq_ediv_of_nonneg _ (by omega)]
  omega
theorem Z1vg (n : Nat) (h : n < 4294967296) (σ : Zc) : Z1q Try.prog Zgg [.int .u64 1, .int .u64 (n : Int)] σ fun r σ' => r = .tup [.int .u64 0, .int .u64 (n : Int)] ∧ σ' = σ := by
  have e1 : intBits .and .u64 1 4294967295 = 1 := andM 1 (by omega)
  have e2 := shrM 1 (by omega)
  have e3 := andM n h
  have e4 := shrM n h
  have e5 := shrM 0 (by omega)
  have u : ∀ x : Int, 0 ≤ x → x < 18446744073709551616 → IntKind.wrap .u64 x = x := fun x h1 h2 => by rw [wu64]; omega
  have a0 : intBits .and .u64 0 4294967295 = 0 := andM 0 (by omega)
  refine Z8t rfl Z1v9 (Nat.le_of_ble_eq_true rfl) ?_
  refine Z9z ?_
  (repeat (refine st_q rfl rfl rfl ?_))
  (refine Z8y ?_; (repeat (first | refine Z9v rfl ?_ | refine Z9w ?_)); refine Z9u ?_)
  refine Z9z ?_
  (repeat (refine st_q rfl rfl rfl ?_))
  rw [e1]
  (refine Z8y ?_; (repeat (first | refine Z9v rfl ?_ | refine Z9w ?_)); refine Z9u ?_)
  refine Z9z ?_
  (repeat (refine st_q rfl rfl rfl ?_))
  rw [show Int.fdiv 1 (2 ^ (Nat.min (32 : Int).toNat (IntKind.bits .u64))) = 0 from e2]
  (refine Z8y ?_; (repeat (first | refine Z9v rfl ?_ | refine Z9w ?_)); refine Z9u ?_)
  refine Z9z ?_
  (repeat (refine st_q rfl rfl rfl ?_))
  rw [e3]
  (refine Z8y ?_; (repeat (first | refine Z9v rfl ?_ | refine Z9w ?_)); refine Z9u ?_)
  refine Z9z ?_
  (repeat (refine st_q rfl rfl rfl ?_))
  rw [e4]
  (refine Z8y ?_; (repeat (first | refine Z9v rfl ?_ | refine Z9w ?_)); refine Z9u ?_)
  refine Z9z ?_
  (repeat (refine st_q rfl rfl rfl ?_))
  rw [u (1 * (n : Int)) (by omega) (by omega), Int.one_mul]
  (refine Z8y ?_; (repeat (first | refine Z9v rfl ?_ | refine Z9w ?_)); refine Z9u ?_)
  refine Z9z ?_
  (repeat (refine st_q rfl rfl rfl ?_))
  rw [e4, Int.zero_mul, u 0 (by omega) (by omega), u (0 + 0) (by omega) (by omega)]
  (refine Z8y ?_; (repeat (first | refine Z9v rfl ?_ | refine Z9w ?_)); refine Z9u ?_)
  refine Z9z ?_
  (repeat (refine st_q rfl rfl rfl ?_))
  rw [show intBits .and .u64 (0 + 0) 4294967295 = 0 from a0]
  (refine Z8y ?_; (repeat (first | refine Z9v rfl ?_ | refine Z9w ?_)); refine Z9u ?_)
  refine Z9z ?_
  (repeat (refine st_q rfl rfl rfl ?_))
  rw [show Int.fdiv (0 + 0) (2 ^ (Nat.min (32 : Int).toNat (IntKind.bits .u64))) = 0 from e5]
  (refine Z8y ?_; (repeat (first | refine Z9v rfl ?_ | refine Z9w ?_)); refine Z9u ?_)
  refine Z9z ?_
  (repeat (refine st_q rfl rfl rfl ?_))
  rw [Int.mul_zero, u 0 (by omega) (by omega), u (0 + 0) (by omega) (by omega)]
  (refine Z8y ?_; (repeat (first | refine Z9v rfl ?_ | refine Z9w ?_)); refine Z9u ?_)
  refine Z9z ?_
  (repeat (refine st_q rfl rfl rfl ?_))
  rw [show Int.fdiv (0 + 0) (2 ^ (Nat.min (32 : Int).toNat (IntKind.bits .u64))) = 0 from e5, Int.mul_zero, u 0 (by omega) (by omega), u (0 + 0) (by omega) (by omega), u (0 + 0 + 0) (by omega) (by omega)]
  (refine Z8y ?_; (repeat (first | refine Z9v rfl ?_ | refine Z9w ?_)); refine Z9u ?_)
  refine Z9z ?_
  (repeat (refine st_q rfl rfl rfl ?_))
  rw [u (1 * (n : Int)) (by omega) (by omega), Int.one_mul]
  (refine Z8y ?_; (repeat (first | refine Z9v rfl ?_ | refine Z9w ?_)); refine Z9u ?_)
  refine Z8d ?_
  exact Kar rfl ⟨rfl, rfl⟩
theorem c_Mul (n : Nat) (h : n < 4294967296) (σ : Zc) : Z1q Try.prog Zg1 [.int .u64 1, .int .u64 (n : Int)] σ fun r σ' => r = .tup [.int .u64 0, .int .u64 (n : Int)] ∧ σ' = σ := by
  refine Z8t rfl Z1v8 (Nat.le_of_ble_eq_true rfl) ?_
  (repeat (first | refine st_q rfl rfl rfl ?_ | (refine Z8y ?_; (repeat (first | refine Z9v rfl ?_ | refine Z9w ?_)); refine Z9u ?_) | refine awp_seq ?_ | refine Zbm (fun _ _ => rfl) ?_ | refine Zbn (fun _ _ => rfl) ?_ | refine Kc2 rfl ?_))
  refine Z9t rfl (Z1vg n h _) ?_
  (repeat (first | refine st_q rfl rfl rfl ?_ | (refine Z8y ?_; (repeat (first | refine Z9v rfl ?_ | refine Z9w ?_)); refine Z9u ?_) | refine awp_seq ?_ | refine Zbm (fun _ _ => rfl) ?_))
  refine Z8d ?_
  exact Kar rfl ⟨rfl, rfl⟩
def trues (k n : Nat) : List Z0 := List.replicate k (.bool true) ++ List.replicate (n - k) (.bool false)
theorem Z1vh {k n : Nat} (h : k ≤ n) : (trues k n).length = n := by
  rw [trues, List.length_append, List.length_replicate, List.length_replicate]; omega
theorem Z1vi {k m n : Nat} (h : k + m ≤ n) (hm : m ≤ k) : (trues k n).take k ++ ((trues k n).take k).take m ++ (trues k n).drop (k + m) = trues (k + m) n := by
  have e1 : (trues k n).take k = List.replicate k (.bool true) := by
    rw [trues, List.take_append_of_le_length (by rw [List.length_replicate]; omega), List.take_of_length_le (by rw [List.length_replicate]; omega)]
  have e2 : (trues k n).drop (k + m) = List.replicate (n - (k + m)) (.bool false) := by
    rw [trues, List.drop_append, List.drop_eq_nil_of_le (by rw [List.length_replicate]; omega), List.length_replicate, List.drop_replicate, List.nil_append]
    congr 1
    omega
  rw [e1, e2, List.take_replicate, List.replicate_append_replicate, trues]
  congr 2
  omega
theorem Z1vj (n : Nat) (h1 : 1 ≤ n) (hn : n ≤ 1000000) (f : Bool) (σ : Zc) : Z1q Try.prog Zez [.slc 1 [.bool true] f, .int .i64 (n : Int)] σ fun r σ' => r = .slc 1 (List.replicate n (.bool true)) false ∧ σ' = σ := by
  refine Z8t rfl Z1v7 (Nat.le_of_ble_eq_true rfl) ?_
  (repeat (first | refine st_q rfl rfl rfl ?_ | (refine Z8y ?_; (repeat (first | refine Z9v rfl ?_ | refine Z9w ?_)); refine Z9u ?_) | refine awp_seq ?_ | refine Zbm (fun _ _ => rfl) ?_ | refine Zbn (fun _ _ => rfl) ?_ | refine Kc2 rfl ?_))
  (rw [decide_eq_false (p := (n : Int) < 0) (by omega)])
  skip
  rw [show IntKind.wrap .u64 (n : Int) = (n : Int) by rw [wu64]; omega, show IntKind.wrap .u64 (([Z0.bool true].length : Nat) : Int) = 1 by rw [wu64]; rfl]
  refine Z9t rfl (c_Mul n (by omega) _) ?_
  (repeat (first | refine st_q rfl rfl rfl ?_ | refine Z8v rfl (st_q rfl rfl rfl ?_) | (refine Z8y ?_; (repeat (first | refine Z9v rfl ?_ | refine Z9w ?_)); refine Z9u ?_) | refine awp_seq ?_ | refine Zbm (fun _ _ => rfl) ?_))
  (rw [decide_eq_false (p := (9223372036854775807 : Int) < (n : Int)) (by omega)])
  (repeat (first | refine st_q rfl rfl rfl ?_ | refine awp_seq ?_ | refine Zbm (fun _ _ => rfl) ?_ | refine Zbn (fun _ _ => rfl) ?_ | refine Kc2 rfl ?_))
  rw [w64 _ (by omega) (by omega)]
  refine Z9l rfl (Kfi rfl) (by omega) (by omega) (by omega) (by omega) fun b hb => ?_
  rw [Int.toNat_natCast]
  (repeat (first | refine st_q rfl rfl rfl ?_ | (refine Z8y ?_; (repeat (first | refine Z9v rfl ?_ | refine Z9w ?_)); refine Z9u ?_) | refine awp_seq ?_ | refine Zbm (fun _ _ => rfl) ?_))
  have hr0 : List.replicate n (Z0.bool false) = trues 0 n := by rw [trues]; simp
  rw [hr0]
  have hl0 := Z1vh (Nat.zero_le n)
  have hmin : Nat.min ([Z0.bool true]).length n = 1 := by
    show min 1 n = 1
    omega
  refine Z1ve (ys := [.bool true]) rfl Z8z rfl (by rw [hl0]; omega) Z9b ?_
  have e0 : (trues 0 n).take 0 ++ [Z0.bool true].take (Nat.min ([Z0.bool true]).length n) ++ (trues 0 n).drop (0 + Nat.min ([Z0.bool true]).length n) = trues 1 n := by
    rw [hmin, trues, trues]
    simp [List.drop_replicate]
  rw [e0, hmin]
  (repeat (first | refine st_q rfl rfl rfl ?_ | (refine Z8y ?_; (repeat (first | refine Z9v rfl ?_ | refine Z9w ?_)); refine Z9u ?_) | refine awp_seq ?_ | refine Z8h ?_))
  refine Zaa (fun m F σ' => ∃ k : Nat, F = fset 7 (some (.arr 1 b 0 n)) (fset 8 (some (.int .i64 (k : Nat))) Z27) ∧ (b, Zb.cells 1 (trues k n)) :: σ = σ' ∧ 1 ≤ k ∧ k ≤ n ∧ m = n - k) (n := n - 1)
    ⟨1, rfl, rfl, by omega, by omega, rfl⟩ ?_
  rintro m F σ' ⟨k, rfl, rfl, hk1, hk2, rfl⟩
  have hlk := Z1vh hk2
  (repeat (first | refine st_q rfl rfl rfl ?_ | (refine Z8y ?_; (repeat (first | refine Z9v rfl ?_ | refine Z9w ?_)); refine Z9u ?_) | refine awp_seq ?_ | refine Zbm (fun _ _ => rfl) ?_))
  refine Za3 (p := (k : Int) < (n : Nat)) rfl (fun h5 => ?_) (fun h5 => ?_)
  · have hkn : k < n := by omega
    refine Zbn (fun _ _ => rfl) ?_
    refine Z8h ?_
    refine awp_region ?_
    (repeat (refine st_q rfl rfl rfl ?_))
    refine Z1vf (a := (k : Int)) (e := (n : Int)) (c := (n : Int)) rfl rfl ⟨by omega, by omega, by omega, by omega⟩ (by rw [if_neg (by omega), if_pos (by omega)]) ?_
    (repeat (refine st_q rfl rfl rfl ?_))
    refine Z1vf (a := 0) (e := (k : Int)) (c := (n : Int)) rfl rfl ⟨by omega, by omega, by omega, by omega⟩ (by rw [if_pos rfl]) ?_
    rw [Int.toNat_natCast, show ((n : Int) - (k : Int)).toNat = n - k by omega]
    have hy : Z1m ((b, Zb.cells 1 (trues k n)) :: σ) 1 (.arr 1 b 0 k) = some ((trues k n).take k) := by
      simp only [Z1m, Z8z]
      rw [if_pos ⟨trivial, by omega⟩]; rfl
    have hm : Nat.min ((trues k n).take k).length (n - k) = min k (n - k) := by
      rw [List.length_take, hlk]
      show min _ _ = _
      omega
    refine Z1ve rfl Z8z hy (by omega) Z9b ?_
    rw [hm, show 0 + k = k by omega, Z1vi (k := k) (m := min k (n - k)) (by omega) (by omega)]
    (repeat (refine st_q rfl rfl rfl ?_))
    rw [show IntKind.wrap .i64 ((k : Int) + ((min k (n - k) : Nat) : Int)) = ((k + min k (n - k) : Nat) : Int) by rw [w64 _ (by omega) (by omega)]; omega]
    refine Z8y ?_
    refine Zac (keep := [7, 8]) ?_
    ((repeat (first | refine Z9v rfl ?_ | refine Z9w ?_)); refine Z9u ?_)
    exact ⟨_, n - (k + min k (n - k)), HSub.refl _, ⟨k + min k (n - k), rfl, rfl, by omega, by omega, rfl⟩, by omega⟩
  · obtain rfl : k = n := by omega
    refine Zbo (fun _ _ => rfl) ?_
    refine Zb1 (d := 7) (xs := trues k k) (by rw [hlk]; rfl) ?_
    have et : trues k k = List.replicate k (.bool true) := by rw [trues]; simp
    rw [et]
    (refine Z9y (keep := [7]) ?_; ((repeat (first | refine Z9v rfl ?_ | refine Z9w ?_)); refine Z9u ?_))
    (repeat (first | refine st_q rfl rfl rfl ?_ | (refine Z8y ?_; (repeat (first | refine Z9v rfl ?_ | refine Z9w ?_)); refine Z9u ?_) | refine awp_seq ?_ | refine Zbm (fun _ _ => rfl) ?_))
    refine Z8d ?_
    exact Kar rfl ⟨rfl, rfl⟩
def Whole (l : List Nd) (keep : List Bool) : Prop := ∀ (i : Nat) (n : Nd), l[i]? = some n → ∀ x ∈ n.kids, (keep.getD x false = true → keep.getD i false = true) ∧ (keep.getD i false = true → keep.getD x false = true ∨ n.t.kind = 12)
theorem Z1vk (l : List Nd) (hK : Z1vc l) (keep : List Bool) (hkl : keep.length = l.length) (hw : Whole l keep) (f g : Bool) (σ : Zc) :
    Z1q Try.prog Zf1 [.slc 8 (l.map encN) f, .slc 1 (keep.map .bool) g] σ fun r σ' => r = .bool true ∧ σ' = σ := by
  obtain ⟨hl1, hk1, hk2⟩ := hK
  have hll : (l.map encN).length = l.length := List.length_map ..
  refine Z8t rfl Z1v5 (Nat.le_of_ble_eq_true rfl) ?_
  (repeat (first | refine st_q rfl rfl rfl ?_ | (refine Z8y ?_; (repeat (first | refine Z9v rfl ?_ | refine Z9w ?_)); refine Z9u ?_) | refine awp_seq ?_ | refine Zbm (fun _ _ => rfl) ?_ | refine Z8h ?_))
  rw [hll]
  refine Zaa (fun m F σ' => ∃ (i : Nat), F = fset 0 (some (.slc 8 (l.map encN) f)) (fset 1 (some (.slc 1 (keep.map .bool) g)) (fset 9 (some (.int .i64 (l.length : Nat))) (fset 10 (some (.int .i64 i)) Z27))) ∧ σ = σ' ∧ i ≤ l.length ∧ m = l.length - i) (n := l.length)
    ⟨0, rfl, rfl, by omega, by omega⟩ ?_
  rintro m F σ' ⟨i, rfl, rfl, hi, rfl⟩
  (repeat (first | refine st_q rfl rfl rfl ?_ | (refine Z8y ?_; (repeat (first | refine Z9v rfl ?_ | refine Z9w ?_)); refine Z9u ?_) | refine awp_seq ?_ | refine Zbm (fun _ _ => rfl) ?_))
  refine Za3 (p := (i : Int) < (l.length : Nat)) rfl (fun h3 => ?_) (fun h3 => ?_)
  · have hil : i < l.length := by omega
    have hgN := Zxw (f := encN) hil
    have hkk := hk1 _ (List.getElem_mem hil)
    have hkx := hk2 _ (List.getElem_mem hil)
    have hwi := hw i l[i] (List.getElem?_eq_getElem hil)
    have hgi := Zxw (f := Z0.bool) (show i < keep.length by omega)
    have hdi : keep.getD i false = keep[i] := by rw [List.getD_eq_getElem?_getD, List.getElem?_eq_getElem (by omega)]; rfl
    rw [hdi] at hwi
    generalize keep[i] = ki at hgi hwi
    generalize l[i] = nd at hgN hkk hkx hwi
    have hkn : (ints nd.kids).length = nd.kids.length := List.length_map ..
    rw [encN, Zm2] at hgN
    (repeat (first | refine st_q rfl rfl rfl ?_ | (refine Z8y ?_; (repeat (first | refine Z9v rfl ?_ | refine Z9w ?_)); refine Z9u ?_) | refine awp_seq ?_ | refine Zbm (fun _ _ => rfl) ?_ | refine Z8h ?_ | refine Zbn (fun _ _ => rfl) ?_))
    refine Z93 rfl (by omega) hgN ?_
    (repeat (first | refine st_q rfl rfl rfl ?_ | (refine Z8y ?_; (repeat (first | refine Z9v rfl ?_ | refine Z9w ?_)); refine Z9u ?_) | refine Z8h ?_))
    rw [hkn]
    refine Zaa (fun m F σ' => ∃ (j : Nat), F = fset 0 (some (.slc 8 (l.map encN) f)) (fset 1 (some (.slc 1 (keep.map .bool) g)) (fset 5 (some (.int .i64 i)) (fset 9 (some (.int .i64 (l.length : Nat))) (fset 10 (some (.int .i64 i)) (fset 17 (some (.slc 1 (ints nd.kids) true)) (fset 18 (some (.int .i64 (nd.kids.length : Nat))) (fset 19 (some (.int .i64 j)) Z27))))))) ∧ σ = σ' ∧ j ≤ nd.kids.length ∧ m = nd.kids.length - j) (n := nd.kids.length)
      ⟨0, rfl, rfl, by omega, by omega⟩ ?_
    rintro m F σ' ⟨j, rfl, rfl, hj, rfl⟩
    (repeat (first | refine st_q rfl rfl rfl ?_ | (refine Z8y ?_; (repeat (first | refine Z9v rfl ?_ | refine Z9w ?_)); refine Z9u ?_) | refine awp_seq ?_ | refine Zbm (fun _ _ => rfl) ?_))
    refine Za3 (p := (j : Int) < (nd.kids.length : Nat)) rfl (fun h4 => ?_) (fun h4 => ?_)
    · have hjl : j < nd.kids.length := by omega
      have hx : (ints nd.kids)[((j : Nat) : Int).toNat]? = some (.int .i64 ((nd.kids[j] : Nat) : Int)) := by rw [Int.toNat_natCast, ints, List.getElem?_map, List.getElem?_eq_getElem hjl]; rfl
      have hxlt := hkx _ (List.getElem_mem hjl)
      have hwx := hwi _ (List.getElem_mem hjl)
      generalize nd.kids[j] = x at hx hxlt hwx
      have hgx := Zxw (f := Z0.bool) (show x < keep.length by omega)
      have hdx : keep.getD x false = keep[x] := by rw [List.getD_eq_getElem?_getD, List.getElem?_eq_getElem (by omega)]; rfl
      rw [hdx] at hwx
      generalize keep[x] = kx at hgx hwx
      have next : ∀ (Q : Z87), AWp Try.prog Z1sz.n (.region Z1su [0, 1, 5, 9, 10, 17, 18, 19]) (Za9 (fun m F σ' => ∃ (j : Nat), F = fset 0 (some (.slc 8 (l.map encN) f)) (fset 1 (some (.slc 1 (keep.map .bool) g)) (fset 5 (some (.int .i64 i)) (fset 9 (some (.int .i64 (l.length : Nat))) (fset 10 (some (.int .i64 i)) (fset 17 (some (.slc 1 (ints nd.kids) true)) (fset 18 (some (.int .i64 (nd.kids.length : Nat))) (fset 19 (some (.int .i64 j)) Z27))))))) ∧ σ = σ' ∧ j ≤ nd.kids.length ∧ m = nd.kids.length - j) (nd.kids.length - j) Q)
          (fset 0 (some (.slc 8 (l.map encN) f)) (fset 1 (some (.slc 1 (keep.map .bool) g)) (fset 5 (some (.int .i64 i)) (fset 9 (some (.int .i64 (l.length : Nat))) (fset 10 (some (.int .i64 i)) (fset 17 (some (.slc 1 (ints nd.kids) true)) (fset 18 (some (.int .i64 (nd.kids.length : Nat))) (fset 19 (some (.int .i64 j)) Z27)))))))) σ := by
        intro Q
        refine Zbp ?_
        (repeat (refine st_q rfl rfl rfl ?_))
        rw [Kwr j (by omega)]
        (refine Z8y ?_; (repeat (first | refine Z9v rfl ?_ | refine Z9w ?_)); refine Z9u ?_)
        exact ⟨_, nd.kids.length - (j + 1), HSub.refl _, ⟨j + 1, rfl, rfl, by omega, rfl⟩, by omega⟩
      (repeat (first | refine awp_seq ?_ | refine Zbm (fun _ _ => rfl) ?_ | refine Z8h ?_ | refine Zbn (fun _ _ => rfl) ?_))
      refine Z93 rfl (by omega) hx ?_
      (repeat (first | refine st_q rfl rfl rfl ?_ | (refine Z8y ?_; (repeat (first | refine Z9v rfl ?_ | refine Z9w ?_)); refine Z9u ?_) | refine awp_seq ?_ | refine Zbm (fun _ _ => rfl) ?_))
      refine Z93 rfl (by omega) hgx ?_
      cases kx with
      | true =>
        rw [hwx.1 rfl] at hgi
        (repeat (first | refine st_q rfl rfl rfl ?_ | refine Z8v rfl (st_q rfl rfl rfl ?_)))
        refine Z8v rfl (Z93 rfl (by omega) hgi ?_)
        (repeat (first | refine st_q rfl rfl rfl ?_ | refine Z8v rfl (st_q rfl rfl rfl ?_)))
        refine Z8v rfl (Z93 rfl (by omega) hgi ?_)
        (repeat refine Z8v rfl (st_q rfl rfl rfl ?_))
        refine Z8v rfl (Z93 rfl (by omega) hgx ?_)
        (repeat (first | refine st_q rfl rfl rfl ?_ | refine Z8v rfl (st_q rfl rfl rfl ?_) | refine Z8w rfl ?_))
        (refine Z8y ?_; (repeat (first | refine Z9v rfl ?_ | refine Z9w ?_)); refine Z9u ?_)
        refine Kc2 rfl ?_
        refine Zbn (fun _ _ => rfl) ?_
        (refine Z9y (keep := [0, 1, 5, 9, 10, 17, 18, 19]) ?_; ((repeat (first | refine Z9v rfl ?_ | refine Z9w ?_)); refine Z9u ?_))
        exact next _
      | false =>
        cases ki with
        | false =>
          (repeat (first | refine st_q rfl rfl rfl ?_ | refine Z8v rfl (st_q rfl rfl rfl ?_) | refine Z8w rfl ?_))
          refine Z8v rfl (Z93 rfl (by omega) hgi ?_)
          (repeat (first | refine st_q rfl rfl rfl ?_ | refine Z8v rfl (st_q rfl rfl rfl ?_) | refine Z8w rfl ?_))
          (refine Z8y ?_; (repeat (first | refine Z9v rfl ?_ | refine Z9w ?_)); refine Z9u ?_)
          refine Kc2 rfl ?_
          refine Zbn (fun _ _ => rfl) ?_
          (refine Z9y (keep := [0, 1, 5, 9, 10, 17, 18, 19]) ?_; ((repeat (first | refine Z9v rfl ?_ | refine Z9w ?_)); refine Z9u ?_))
          exact next _
        | true =>
          have hk12 : nd.t.kind = 12 := by
            rcases hwx.2 rfl with h | h
            · cases h
            · exact h
          (repeat (first | refine st_q rfl rfl rfl ?_ | refine Z8v rfl (st_q rfl rfl rfl ?_) | refine Z8w rfl ?_))
          refine Z8v rfl (Z93 rfl (by omega) hgi ?_)
          (repeat refine Z8v rfl (st_q rfl rfl rfl ?_))
          refine Z8v rfl (Z93 rfl (by omega) hgx ?_)
          (repeat refine Z8v rfl (st_q rfl rfl rfl ?_))
          refine Z8v rfl (Z93 rfl (by omega) hgN ?_)
          (repeat (first | refine st_q rfl rfl rfl ?_ | refine Z8v rfl (st_q rfl rfl rfl ?_)))
          (rw [decide_eq_false (p := nd.t.kind ≠ 12) (by omega)])
          skip
          (refine Z8y ?_; (repeat (first | refine Z9v rfl ?_ | refine Z9w ?_)); refine Z9u ?_)
          refine Kc2 rfl ?_
          refine Zbn (fun _ _ => rfl) ?_
          (refine Z9y (keep := [0, 1, 5, 9, 10, 17, 18, 19]) ?_; ((repeat (first | refine Z9v rfl ?_ | refine Z9w ?_)); refine Z9u ?_))
          exact next _
    · (repeat refine Zbo (fun _ _ => rfl) ?_)
      refine Zbp ?_
      (repeat (refine st_q rfl rfl rfl ?_))
      rw [Kwr i (by omega)]
      (refine Z8y ?_; (repeat (first | refine Z9v rfl ?_ | refine Z9w ?_)); refine Z9u ?_)
      exact ⟨_, l.length - (i + 1), HSub.refl _, ⟨i + 1, rfl, rfl, by omega, rfl⟩, by omega⟩
  · (repeat (first | refine st_q rfl rfl rfl ?_ | (refine Z8y ?_; (repeat (first | refine Z9v rfl ?_ | refine Z9w ?_)); refine Z9u ?_) | refine awp_seq ?_ | refine Zbm (fun _ _ => rfl) ?_ | refine Zbo (fun _ _ => rfl) ?_))
    refine Z8d ?_
    exact Kar rfl ⟨rfl, rfl⟩
end Go.Abs
namespace Go.Abs
open Go Go.Proofs
set_option linter.unusedVariables false
set_option linter.unusedSimpArgs false
set_option maxHeartbeats 4000000
section
variable {P : Program} {l : List Z2a} {F : Z26} {σ τ : Zc} {Q : Z26 → Zc → Prop}
theorem Z1vl {d : Nat} {ag : Bool} {sz : Nat} {args : List Zw} {b i o s : Nat} {w : Z0} {xs : List Z0} {x v : Z0} (h1 : evs F args = some [.ptr b i o, w]) (hw : Z22 w = some b) (hg : Zd σ b = some (.cells s xs)) (hx : xs[i]? = some x) (hp : Z19 ag sz (x.cells.drop o) = some v)
    (h : aops P l (fset d (some v) F) σ Q) : aops P (⟨some d, .loadg ag sz, args, none⟩ :: l) F σ Q :=
  st_q h1 (by simp [Z1p, Z1pl, hw, Z1l, hg, hx, hp]) rfl h
theorem Z1vm {d n : Nat} {f : FuncId} {args : List Zw} {vs : List Z0} {v : Z0} (h1 : evs F args = some vs) (hc : Z1q P f (vs.take n) σ fun r σ' => r = v ∧ σ' = τ) (hk : Z23 (vs.drop n) σ τ) (h : aops P l (fset d (some v) F) τ Q) : aops P (⟨some d, .callk f n, args, none⟩ :: l) F σ Q := by
  refine ⟨_, h1, ⟨v, τ, hk, h⟩, hc.mono fun r σ' ⟨e1, e2⟩ => ?_⟩
  subst e1 e2
  exact ⟨hk, h⟩
end
attribute [local irreducible] AWp aops KP
theorem Z1vn {σ : Zc} {a b : Nat} {x : Zb} (h : a ≠ b) : Zd (Ze σ b x) a = Zd σ a := by
  induction σ with
  | nil => rfl
  | cons p σ ih =>
    obtain ⟨k, y⟩ := p
    simp only [Ze]
    split
    · rename_i e
      subst e
      simp only [Zd, if_neg (fun e : k = a => h e.symm)]
    · simp only [Zd, ih]
theorem Z1vo {σ : Zc} {a b : Nat} {x y : Zb} (h : a ≠ b) : Ze (Ze σ a x) b y = Ze (Ze σ b y) a x := by
  induction σ with
  | nil => rfl
  | cons p σ ih =>
    obtain ⟨k, z⟩ := p
    by_cases e1 : k = a
    · subst e1
      simp [Ze, h]
    · by_cases e2 : k = b
      · subst e2
        simp [Ze, e1]
      · simp only [Ze, if_neg e1, if_neg e2, ih]
def HS (H : Zc) (ba bh : Nat) (s : Tk) : Zc := Ze (Ze H ba (.cells 1 (ints s.at_))) bh (.cells 1 (ints s.he))
theorem HS_HS {H : Zc} {ba bh : Nat} (h : ba ≠ bh) (s s' : Tk) : HS (HS H ba bh s) ba bh s' = HS H ba bh s' := by
  unfold HS
  rw [Z1vo (a := bh) (b := ba) (fun e => h e.symm), Zaj, Zaj]
theorem HS_a {H : Zc} {ba bh : Nat} {x : Zb} (h : ba ≠ bh) (hx : Zd H ba = some x) (s : Tk) : Zd (HS H ba bh s) ba = some (.cells 1 (ints s.at_)) := by
  unfold HS
  rw [Z1vn h]
  exact Z5k hx
theorem HS_h {H : Zc} {ba bh : Nat} {x : Zb} (h : ba ≠ bh) (hx : Zd H bh = some x) (s : Tk) : Zd (HS H ba bh s) bh = some (.cells 1 (ints s.he)) := by
  unfold HS
  exact Z5k (by rw [Z1vn (fun e => h e.symm)]; exact hx)
theorem Z1vp {H : Zc} {ba bh k : Nat} {x : Zb} (h1 : k ≠ ba) (h2 : k ≠ bh) (s : Tk) : HS ((k, x) :: H) ba bh s = (k, x) :: HS H ba bh s := by
  unfold HS
  rw [Z9c h1 rfl, Z9c h2 rfl]
theorem Z1vq {β H : Zc} {ba bh : Nat} (h1 : ba ∉ Zh β) (h2 : bh ∉ Zh β) (s : Tk) : HS (β ++ H) ba bh s = β ++ HS H ba bh s := by
  unfold HS
  rw [Zai h1, Zai h2]
theorem Z1vr {H : Zc} {ba bh : Nat} (s : Tk) : Zh (HS H ba bh s) = Zh H := by
  unfold HS
  rw [Zn, Zn]
theorem Z1vs {l : List Nat} {i : Nat} (h : i < l.length) : (ints l)[0 + ((i : Nat) : Int).toNat]? = some (.int .i64 ((l.getD i 0 : Nat) : Int)) := by
  rw [Nat.zero_add, Int.toNat_natCast, ints, List.getElem?_map, List.getD_eq_getElem?_getD, List.getElem?_eq_getElem h]; rfl
theorem Z1vt {l : List Nat} {i m : Nat} (x : Z0) (hx : x = .int .i64 ((l.getD i 0 : Nat) : Int)) : (ints l).set (0 + ((i : Nat) : Int).toNat) (Z1r x 0 (Z0.int .i64 ((m : Nat) : Int)).cells) = ints (l.set i m) := by
  subst hx
  rw [Nat.zero_add, Int.toNat_natCast, ints, ints, List.map_set]; rfl
def Z1vu (l : List Nd) (cols : List Col) (keep : List Bool) (g h : Bool) (ba bh : Nat) : List Z0 := [.slc 8 (l.map encN) true, .slc 5 (cols.map encC) g, .slc 1 (keep.map .bool) h, .arr 1 ba 0 l.length, .arr 1 bh 0 l.length]
structure ColsT (l : List Nd) (cols : List Col) (keep : List Bool) : Prop where
  len : cols.length = l.length
  sm : ∀ i c, cols[i]? = some c → keep.getD i false = true → c.Sm
  text : ∀ i c, cols[i]? = some c → keep.getD i false = true → ∀ b ∈ c.texts, b.length ≤ 4096
  lens : ∀ i c, cols[i]? = some c → keep.getD i false = true → ∀ v ∈ c.lens, v ≤ 16384
def valC (i m : Int) (bv kv : Z0) : Z0 := .agg [.bool false, .int .i64 i, .int .i64 m, bv, kv]
def zeroV : Z0 := .agg [.bool false, .int .i64 0, .int .i64 0, .slc 0 [] true, .slc 0 [] true]
theorem valE {i m : Int} {bv : Z0} {xs : List Z0} {f : Bool} (h : bv.one = true) : (Z0.agg [.bool false, .int .i64 i, .int .i64 m, bv, .slc 5 xs f]).elem 5 := by
  refine ⟨rfl, fun c hc => ?_⟩
  simp only [Z0.cells, List.mem_cons, List.not_mem_nil, or_false] at hc
  rcases hc with rfl | rfl | rfl | rfl | rfl
  · rfl
  · rfl
  · rfl
  · exact h
  · rfl
theorem Z1vv {l : List Nd} (hT : TreeN l) (hK : Z1vc l) {cols : List Col} {keep : List Bool} (hC : ColsT l cols keep) (hkl : keep.length = l.length) (hWh : Whole l keep) (g h : Bool) (ba bh : Nat) (hab : ba ≠ bh) :
    ∀ (t : Ty) (a : Nat) (nd : Nd), l[a]? = some nd → nd.t = t → keep.getD a false = true → ∀ (s s' : Tk) (v : Vl), s.sz l.length → takeT cols keep t a s = some (v, s') → ∀ (H : Zc), Zd H ba = some (.cells 1 (ints s.at_)) → Zd H bh = some (.cells 1 (ints s.he)) →
      Z1q Try.prog Zf2 [.iptr (Z1vu l cols keep g h ba bh), .int .i64 (a : Int)] H fun r H' => r = encV v ∧ H' = HS H ba bh s' := by
  refine Ty.ind fun k ns ks le pr sc ih a nd hnd hndt hka s s' v hsz htk H hHa hHh => ?_
  have hal : a < l.length := (List.getElem?_eq_some_iff.1 hnd).1
  have hac : a < cols.length := by rw [hC.len]; exact hal
  have hN := hT.nok a nd hnd
  obtain ⟨c, hc⟩ : ∃ c, cols[a]? = some c := ⟨_, List.getElem?_eq_getElem hac⟩
  have hcm := List.mem_of_getElem? hc
  have hsm := hC.sm a c hc hka
  have hcD : cols.getD a col0 = c := by rw [List.getD_eq_getElem?_getD, hc]; rfl
  have hgN : (l.map encN)[((a : Nat) : Int).toNat]? = some (encN nd) := by rw [Int.toNat_natCast, List.getElem?_map, hnd]; rfl
  have hgC : (cols.map encC)[((a : Nat) : Int).toNat]? = some (encC c) := by rw [Int.toNat_natCast, List.getElem?_map, hc]; rfl
  have hk : nd.t.kind = k := by rw [hndt]; rfl
  have hks : nd.t.kids = ks := by rw [hndt]; rfl
  have hkal := hK.num nd (List.mem_of_getElem? hnd)
  have hkn : (ints nd.kids).length = nd.kids.length := List.length_map ..
  have hkl2 : nd.kids.length = ks.length := by rw [hN.len, hks]
  have hkidx : ∀ (j : Nat) (u : Ty), ks[j]? = some u → ∃ m, (ints nd.kids)[((j : Nat) : Int).toNat]? = some (.int .i64 ((a + 1 + cntL (ks.take j) : Nat) : Int)) ∧ l[a + 1 + cntL (ks.take j)]? = some m ∧ m.t = u ∧ (a + 1 + cntL (ks.take j)) ∈ nd.kids := by
    intro j u hu
    have hjl : j < nd.kids.length := by rw [hkl2]; exact (List.getElem?_eq_some_iff.1 hu).1
    obtain ⟨u', m, e1, e2, e3, e4, _⟩ := hN.kids j _ (List.getElem?_eq_getElem hjl)
    rw [hks, hu] at e1
    cases e1
    rw [hks] at e2
    refine ⟨m, ?_, by rw [← e2]; exact e3, e4, by rw [← e2]; exact List.getElem_mem hjl⟩
    rw [Int.toNat_natCast, ints, List.getElem?_map, List.getElem?_eq_getElem hjl, e2]; rfl
  have hla : a < s.at_.length := by rw [hsz.1]; exact hal
  have hlh : a < s.he.length := by rw [hsz.2]; exact hal
  rw [takeT, hcD] at htk
  generalize hi : s.at_.getD a 0 = i at htk
  generalize hj : s.he.getD a 0 = j at htk
  obtain ⟨hb, hhb⟩ : ∃ hb, c.here[i]? = some hb := by
    cases e : c.here[i]? with
    | none => rw [e] at htk; cases htk
    | some hb => exact ⟨hb, rfl⟩
  have hil : i < c.here.length := (List.getElem?_eq_some_iff.1 hhb).1
  have hi1 := hsm.here
  have hgx : (c.here.map Z0.bool)[((i : Nat) : Int).toNat]? = some (.bool hb) := by rw [Int.toNat_natCast, List.getElem?_map, hhb]; rfl
  rw [hhb] at htk
  refine Z8t rfl Z1v6 (Nat.le_of_ble_eq_true rfl) ?_
  refine Z9z ?_
  refine Z9k (by simp [Z0.cells, Z0.one]) fun b4 hb4 => ?_
  (refine Z8y ?_; (repeat (first | refine Z9v rfl ?_ | refine Z9w ?_)); refine Z9u ?_)
  have h4a : b4 ≠ ba := fun e => by subst e; exact hb4 (by have := Zk hHa; exact List.mem_map_of_mem (f := (·.1)) this)
  have h4h : b4 ≠ bh := fun e => by subst e; exact hb4 (by have := Zk hHh; exact List.mem_map_of_mem (f := (·.1)) this)
  refine Z9z ?_
  (repeat (refine st_q rfl rfl rfl ?_))
  refine Z93 rfl (by omega) hgC ?_
  (repeat (refine st_q rfl rfl rfl ?_))
  refine Z93 rfl (by omega) hgN ?_
  (repeat (refine st_q rfl rfl rfl ?_))
  refine Z9k (by simp [Z0.cells, Z0.one]) fun b5 hb5 => ?_
  refine Z9k (by simp [Z0.cells, Z0.one]) fun b6 hb6 => ?_
  have h65 : b6 ≠ b5 := fun e => hb6 (by rw [e]; simp [Zh])
  refine Z9a rfl (Z90 h65 Z8z) rfl (by decide) (Kfi rfl) (fun h => by cases h) (Z9c h65 Z9b) ?_
  refine Z9a rfl Z8z rfl (by decide) (Kfi rfl) (fun h => by cases h) Z9b ?_
  (refine Z8y ?_; (repeat (first | refine Z9v rfl ?_ | refine Z9w ?_)); refine Z9u ?_)
  refine Zb3 (d := 6) (cs := Zm2 nd) rfl ?_
  refine Zb3 (d := 5) (cs := Zxu c) rfl ?_
  (refine Z9y (keep := [0, 1, 4, 5, 6]) ?_; ((repeat (first | refine Z9v rfl ?_ | refine Z9w ?_)); refine Z9u ?_))
  rw [show (Z0.agg [.bool false, .int .i64 0, .int .i64 0, .slc 0 [] true, .slc 0 [] true]).cells.length = 5 from rfl]
  have hxa := Z1vs hla
  have hxh := Z1vs hlh
  rw [hi] at hxa
  rw [hj] at hxh
  refine Z9z ?_
  (repeat (refine st_q rfl rfl rfl ?_))
  refine Z94 rfl ⟨by omega, by omega⟩ ?_
  refine Z92 rfl (Z90 h4a hHa) hxa rfl ?_
  (repeat (refine st_q rfl rfl rfl ?_))
  (refine Z8y ?_; (repeat (first | refine Z9v rfl ?_ | refine Z9w ?_)); refine Z9u ?_)
  refine Z9z ?_
  (repeat (refine st_q rfl rfl rfl ?_))
  refine Z94 rfl ⟨by omega, by omega⟩ ?_
  refine Z92 rfl (Z90 h4a hHa) hxa rfl ?_
  (repeat (refine st_q rfl rfl rfl ?_))
  rw [Kwr i (by omega)]
  refine Z94 rfl ⟨by omega, by omega⟩ ?_
  refine Z9a rfl (Z90 h4a hHa) hxa (by decide) (Kfi rfl) (fun _ => ⟨rfl, rfl⟩) (Z9c h4a rfl) ?_
  rw [Z1vt _ (by rw [hi])]
  (refine Z8y ?_; (repeat (first | refine Z9v rfl ?_ | refine Z9w ?_)); refine Z9u ?_)
  (refine Z9y (keep := [0, 1, 4, 5, 6, 7]) ?_; ((repeat (first | refine Z9v rfl ?_ | refine Z9w ?_)); refine Z9u ?_))
  refine awp_seq ?_
  refine awp_seq ?_
  refine Zbm (fun _ _ => rfl) ?_
  (repeat (refine st_q rfl rfl rfl ?_))
  refine Z93 rfl (by omega) hgx ?_
  (repeat (refine st_q rfl rfl rfl ?_))
  (refine Z8y ?_; (repeat (first | refine Z9v rfl ?_ | refine Z9w ?_)); refine Z9u ?_)
  cases hb with
  | false =>
    simp only [Option.some.injEq, Prod.mk.injEq] at htk
    obtain ⟨rfl, rfl⟩ := htk
    refine Kc1 rfl ?_
    refine Z9z ?_
    (repeat (refine st_q rfl rfl rfl ?_))
    (first | refine Z9a rfl Z8z rfl (by decide) (Kfi rfl) (fun h => by cases h) Z9b ?_ | refine Z8v rfl (Z9a rfl Z8z rfl (by decide) (Kfi rfl) (fun h => by cases h) Z9b ?_))
    (refine Z8y ?_; (repeat (first | refine Z9v rfl ?_ | refine Z9w ?_)); refine Z9u ?_)
    refine Z8d ?_
    refine Zau (vs := [.agg [.bool true, .int .i64 0, .int .i64 0, .slc 0 [] true, .slc 0 [] true]]) (Zy4 rfl Z8z rfl) ?_ (HSub.tail _ _) ⟨rfl, ?_⟩
    · rw [nullV, encV]
      (repeat (first | exact VRle.refl _ | exact Zc5 | refine Zc6 rfl rfl ?_ | refine Zc7 rfl ?_ | refine Zc4 ?_ ?_))
    · unfold HS
      exact (Z1pm (by rw [Z1vn (fun e => hab e.symm)]; exact hHh)).symm
  | true =>
  refine Kc2 rfl ?_
  refine Zbn (fun _ _ => rfl) ?_
  (refine Z9y (keep := [0, 1, 4, 5, 6]) ?_; ((repeat (first | refine Z9v rfl ?_ | refine Z9w ?_)); refine Z9u ?_))
  simp only at htk
  by_cases hji : i < j
  · rw [if_pos hji] at htk; cases htk
  rw [if_neg hji] at htk
  have hHh1 : Zd (Ze H ba (.cells 1 (ints (s.at_.set a (i + 1))))) bh = some (.cells 1 (ints s.he)) := by rw [Z1vn (fun e => hab e.symm)]; exact hHh
  refine Z9z ?_
  (repeat (refine st_q rfl rfl rfl ?_))
  refine Z94 rfl ⟨by omega, by omega⟩ ?_
  refine Z92 rfl (Z90 h4h hHh1) hxh rfl ?_
  (repeat (refine st_q rfl rfl rfl ?_))
  (refine Z8y ?_; (repeat (first | refine Z9v rfl ?_ | refine Z9w ?_)); refine Z9u ?_)
  refine Z9z ?_
  (repeat (refine st_q rfl rfl rfl ?_))
  refine Z94 rfl ⟨by omega, by omega⟩ ?_
  refine Z92 rfl (Z90 h4h hHh1) hxh rfl ?_
  (repeat (refine st_q rfl rfl rfl ?_))
  rw [Kwr j (by omega)]
  refine Z94 rfl ⟨by omega, by omega⟩ ?_
  refine Z9a rfl (Z90 h4h hHh1) hxh (by decide) (Kfi rfl) (fun _ => ⟨rfl, rfl⟩) (Z9c h4h rfl) ?_
  rw [Z1vt _ (by rw [hj])]
  (refine Z8y ?_; (repeat (first | refine Z9v rfl ?_ | refine Z9w ?_)); refine Z9u ?_)
  (refine Z9y (keep := [0, 4, 5, 6, 8]) ?_; ((repeat (first | refine Z9v rfl ?_ | refine Z9w ?_)); refine Z9u ?_))
  have hHS2 : Ze (Ze H ba (.cells 1 (ints (s.at_.set a (i + 1))))) bh (.cells 1 (ints (s.he.set a (j + 1)))) = HS H ba bh ⟨s.at_.set a (i + 1), s.he.set a (j + 1)⟩ := rfl
  rw [hHS2]
  have hsz2 : (⟨s.at_.set a (i + 1), s.he.set a (j + 1)⟩ : Tk).sz l.length := ⟨by rw [List.length_set]; exact hsz.1, by rw [List.length_set]; exact hsz.2⟩
  generalize (⟨s.at_.set a (i + 1), s.he.set a (j + 1)⟩ : Tk) = s2 at htk hsz2 ⊢
  refine Z9z ?_
  refine Z9k (by simp [Z0.cells, Z0.one]) fun b9 hb9 => ?_
  (refine Z8y ?_; (repeat (first | refine Z9v rfl ?_ | refine Z9w ?_)); refine Z9u ?_)
  have h94 : b9 ≠ b4 := fun e => hb9 (by rw [e]; simp [Zh])
  have h9H : b9 ∉ Zh H := fun hm => hb9 (by rw [Zj, Z1vr]; exact List.mem_cons_of_mem _ hm)
  have h9a : b9 ≠ ba := fun e => by subst e; exact h9H (by have := Zk hHa; exact List.mem_map_of_mem (f := (·.1)) this)
  have h9h : b9 ≠ bh := fun e => by subst e; exact h9H (by have := Zk hHh; exact List.mem_map_of_mem (f := (·.1)) this)
  rw [show (Z0.agg [.bool false, .int .i64 0, .int .i64 0, .slc 0 [] true, .slc 0 [] true]).cells.length = 5 from rfl]
  -- what is behind all ways
  have fin : ∀ (s3 : Tk) (kv : Z0) (xs : List Vl) (β : Zc) (i m : Int) (bv : Z0), Zbr 5 kv (Zm5 xs) β → b9 ∉ Zh β → VRle [.agg [.bool false, .int .i64 i, .int .i64 m, bv, .slc 5 (Zm5 xs) true]] [encV v] → bv.one = true → s' = s3 →
      AWp Try.prog Z1u7.n (Z1u7.code.snd 9) (ARet Z1u7.res fun r H' => r = encV v ∧ H' = HS H ba bh s') (fset 4 (some (.ptr b4 0 0)) (fset 9 (some (.ptr b9 0 0)) Z27))
        (β ++ ((b9, .cells 5 [.agg [.bool false, .int .i64 i, .int .i64 m, bv, kv]]) :: (b4, .cells 5 [.agg [.bool false, .int .i64 0, .int .i64 0, .slc 0 [] true, .slc 0 [] true]]) :: HS H ba bh s3)) := by
    intro s3 kv xs β i m bv ho hnb hv hbv e
    subst e
    refine Z9z ?_
    (repeat (refine st_q rfl rfl rfl ?_))
    refine Z92 rfl (by rw [Zah hnb]; exact Z8z) rfl rfl ?_
    refine Z9t rfl (Zud ho _) ?_
    (repeat (refine st_q rfl rfl rfl ?_))
    refine Z9a rfl Z8z rfl (by decide) (Kfi rfl) (fun h => by cases h) Z9b ?_
    (refine Z8y ?_; (repeat (first | refine Z9v rfl ?_ | refine Z9w ?_)); refine Z9u ?_)
    refine Z9z ?_
    refine Z92 rfl Z8z rfl rfl ?_
    refine Z9a rfl (Z90 h94 Z8z) rfl (by decide) (valE hbv) (fun h => by cases h) (Z9c h94 Z9b) ?_
    (refine Z8y ?_; (repeat (first | refine Z9v rfl ?_ | refine Z9w ?_)); refine Z9u ?_)
    refine Z8d ?_
    exact Zau (vs := [.agg [.bool false, .int .i64 i, .int .i64 m, bv, .slc 5 (Zm5 xs) true]]) (Zy4 rfl (Z90 h94 Z8z) rfl) hv (HSub.of_sublist ((List.sublist_cons_self _ _).trans (List.sublist_cons_self _ _))) ⟨rfl, rfl⟩
  have h9n : b9 ∉ Zh ([] : Zc) := by simp [Zh]
  -- a call in the midst
  have call : ∀ (u : Ty), u ∈ ks → ∀ (x : Nat) (m : Nd), l[x]? = some m → m.t = u → keep.getD x false = true → ∀ (st s1 : Tk) (vj : Vl), st.sz l.length → takeT cols keep u x st = some (vj, s1) → ∀ (β : Zc) (V : Zb), ba ∉ Zh β → bh ∉ Zh β →
      Z1q Try.prog Zf2 [.iptr (Z1vu l cols keep g h ba bh), .int .i64 (x : Int)] (β ++ ((b9, V) :: (b4, .cells 5 [.agg [.bool false, .int .i64 0, .int .i64 0, .slc 0 [] true, .slc 0 [] true]]) :: HS H ba bh st)) fun r H' => r = .agg (Zm6 vj) ∧ H' = β ++ ((b9, V) :: (b4, .cells 5 [.agg [.bool false, .int .i64 0, .int .i64 0, .slc 0 [] true, .slc 0 [] true]]) :: HS H ba bh s1) := by
    intro u hu x m hm hmt hkx st s1 vj hst ht β V h1 h2
    have := ih u hu x m hm hmt hkx st s1 vj hst ht (β ++ ((b9, V) :: (b4, .cells 5 [.agg [.bool false, .int .i64 0, .int .i64 0, .slc 0 [] true, .slc 0 [] true]]) :: HS H ba bh st))
      (by rw [Zah h1]; exact Z90 h9a (Z90 h4a (HS_a hab hHa st)))
      (by rw [Zah h2]; exact Z90 h9h (Z90 h4h (HS_h hab hHh st)))
    rw [Z1vq h1 h2, Z1vp h9a h9h, Z1vp h4a h4h, HS_HS hab, Zm7] at this
    exact this
  have kept : ∀ (r x : Z0) (β : Zc) (V : Zb) (σ1 σ2 : Zc), b9 ∉ Zh β → Z23 (([r, x, .ptr b9 0 0] : List Z0).drop 2) (β ++ ((b9, V) :: σ1)) (β ++ ((b9, V) :: σ2)) := by
    intro r x β V σ1 σ2 hn v hv b hb
    simp only [List.drop_succ_cons, List.drop_zero, List.mem_singleton] at hv
    subst hv
    simp only [Z22, Option.some.injEq] at hb
    subst hb
    rw [Zah hn, Zah hn, Z8z, Z8z]
  have fresh' : ∀ (b' : Nat) (β : Zc) (V : Zb) (st : Tk), b' ∉ Zh (β ++ ((b9, V) :: (b4, .cells 5 [.agg [.bool false, .int .i64 0, .int .i64 0, .slc 0 [] true, .slc 0 [] true]]) :: HS H ba bh st)) → b' ≠ b9 ∧ b' ≠ ba ∧ b' ≠ bh := by
    intro b' β V st hb'
    refine ⟨fun e => hb' (by rw [e]; simp [Zh]), fun e => hb' ?_, fun e => hb' ?_⟩
    · subst e
      have := Zk hHa
      have h1 : b' ∈ Zh (HS H b' bh st) := by rw [Z1vr]; exact List.mem_map_of_mem (f := (·.1)) this
      simp only [Zh, List.map_append, List.map_cons, List.mem_append, List.mem_cons] at h1 ⊢
      exact .inr (.inr (.inr h1))
    · subst e
      have := Zk hHh
      have h1 : b' ∈ Zh (HS H ba b' st) := by rw [Z1vr]; exact List.mem_map_of_mem (f := (·.1)) this
      simp only [Zh, List.map_append, List.map_cons, List.mem_append, List.mem_cons] at h1 ⊢
      exact .inr (.inr (.inr h1))
  have heA : ∀ (us : List Vl) (vj : Vl), Zm5 us ++ [Z0.agg (Zm6 vj)] = Zm5 (us ++ [vj]) := fun us vj => by rw [Zm8, Zm8, List.map_append, ← Zm7]; rfl
  have nk : ∀ (b' k : Nat) (x : Zb), b' ≠ k → k ∉ Zh [(b', x)] := fun b' k x h hm => by simp only [Zh, List.map_cons, List.map_nil, List.mem_singleton] at hm; exact h hm.symm
  refine awp_seq ?_
  refine awp_seq ?_
  refine Zbm (fun _ _ => rfl) ?_
  (repeat (refine st_q rfl rfl rfl ?_))
  rw [hk]
  (refine Z8y ?_; (repeat (first | refine Z9v rfl ?_ | refine Z9w ?_)); refine Z9u ?_)
  have hil2 : ∀ {α : Type} (f : α → Z0) (xs : List α) (y : α), xs[j]? = some y → (xs.map f)[((j : Nat) : Int).toNat]? = some (f y) := fun f xs y hy => by rw [Int.toNat_natCast, List.getElem?_map, hy]; rfl
  have hvle : ∀ (i m : Int) (xs : List Vl), VRle [.agg [.bool false, .int .i64 i, .int .i64 m, .slc 0 [] true, .slc 5 (Zm5 xs) true]] [encV (.mk false i m [] xs)] := fun i m xs => by
    rw [encV]
    refine VRle.agg (by simp [Z0.one]) ?_
    refine VRle.cons (VRle.refl _) (VRle.cons (VRle.refl _) (VRle.cons (VRle.refl _) (VRle.cons ?_ (VRle.cons ?_ (VRle.refl _)))))
    · rw [show bytes [] = [] from rfl]; exact VRle.nilF _ _
    · exact VRle.full
  by_cases k10 : k = 10 ∨ k = 11
  · rw [if_pos k10] at htk
    obtain ⟨n, hn⟩ : ∃ n, c.lens[j]? = some n := by
      cases e : c.lens[j]? with
      | none => rw [e] at htk; cases htk
      | some n => exact ⟨n, rfl⟩
    rw [hn] at htk
    have hn2 := hC.lens a c hc hka n (List.mem_of_getElem? hn)
    have hgl := hil2 (Z0.int .i64) c.lens n hn
    obtain ⟨VS, hts⟩ : ∃ VS, iterO (takeL cols keep ks (a + 1)) n.toNat s2 = some (VS, s') ∧ v = .mk false 0 0 [] VS := by
      simp only at htk
      split at htk
      · cases htk
      · rename_i vs s0 h0
        simp only [Option.some.injEq, Prod.mk.injEq] at htk
        obtain ⟨e1, rfl⟩ := htk
        exact ⟨vs, h0, e1.symm⟩
    obtain ⟨hts, rfl⟩ := hts
    have hks1000 : ks.length ≤ 1000 := by omega
    have hmul : ∀ i : Nat, i ≤ 16384 → i * ks.length ≤ 16384000 := fun i hi => Nat.le_trans (Nat.mul_le_mul hi hks1000) (by decide)
    obtain ⟨I, hI⟩ : ∃ I : Nat → Z26 → Zc → Prop, I = fun m F σ' => ∃ (i' : Nat) (st : Tk) (us : List Vl) (kv : Z0) (β : Zc), F = fset 0 (some (.iptr (Z1vu l cols keep g h ba bh))) (fset 4 (some (.ptr b4 0 0)) (fset 6 (some (.iptr (Zm2 nd))) (fset 9 (some (.ptr b9 0 0)) (fset 87 (some (.int .i64 n)) (fset 88 (some (.int .i64 (i' : Nat))) Z27))))) ∧
      β ++ ((b9, Zb.cells 5 [.agg [.bool false, .int .i64 0, .int .i64 0, .slc 0 [] true, kv]]) :: (b4, .cells 5 [.agg [.bool false, .int .i64 0, .int .i64 0, .slc 0 [] true, .slc 0 [] true]]) :: HS H ba bh st) = σ' ∧ Zbr 5 kv (Zm5 us) β ∧ b9 ∉ Zh β ∧ ba ∉ Zh β ∧ bh ∉ Zh β ∧ st.sz l.length ∧ i' ≤ n.toNat ∧ us.length ≤ i' * ks.length ∧ (∃ ws, iterO (takeL cols keep ks (a + 1)) (n.toNat - i') st = some (ws, s') ∧ us ++ ws = VS) ∧ m = n.toNat - i' := ⟨_, rfl⟩
    have loop : AWp Try.prog Z1u7.n (.loop Z1ts) (Z8g 7 (Z8e Try.prog Z1u7.n (.exit 0) (Z8g 2 (Z8e Try.prog Z1u7.n (.seq (.seq (.region Z1tt [0, 4, 9, 108, 109, 110]) (.block 11 (.loop Z1tz))) (.exit 0)) (Z8g 3 (Z8e Try.prog Z1u7.n (.seq (.seq (.region Z1u0 [0, 4, 6, 9]) (.region Z1u1 [4, 9])) (.exit 0)) (Z8g 4 (Z8e Try.prog Z1u7.n (.seq (.region Z1u2 [4, 9]) (.exit 0)) (Z8g 5 (Z8e Try.prog Z1u7.n (.region Z1u3 [4, 5, 8, 9]) (Z8g 6 (Z8e Try.prog Z1u7.n (.seq (.region Z1u4 [4, 9]) (.exit 0)) (Z8g 0 (Z8e Try.prog Z1u7.n (Z1u7.code.snd 9) (ARet Z1u7.res fun r H' => r = encV (.mk false 0 0 [] VS) ∧ H' = HS H ba bh s')))))))))))))))
        (fset 0 (some (.iptr (Z1vu l cols keep g h ba bh))) (fset 4 (some (.ptr b4 0 0)) (fset 6 (some (.iptr (Zm2 nd))) (fset 9 (some (.ptr b9 0 0)) (fset 87 (some (.int .i64 n)) (fset 88 (some (.int .i64 0)) Z27))))))
        ((b9, Zb.cells 5 [.agg [.bool false, .int .i64 0, .int .i64 0, .slc 0 [] true, .slc 0 [] true]]) :: (b4, .cells 5 [.agg [.bool false, .int .i64 0, .int .i64 0, .slc 0 [] true, .slc 0 [] true]]) :: HS H ba bh s2) := by
      refine Zaa I (n := n.toNat) (by
        rw [hI]
        exact ⟨0, s2, [], .slc 0 [] true, [], rfl, rfl, Zbr.nil 5 0, by simp [Zh], by simp [Zh], by simp [Zh], hsz2, by omega, by simp, ⟨VS, hts, rfl⟩, by omega⟩) ?_
      intro m0 F σ' hIm
      rw [hI] at hIm
      obtain ⟨i', st, us, kv, β, rfl, rfl, ho, hnb, hna, hnh, hst, hi', hus, ⟨ws, hw, hVS⟩, rfl⟩ := hIm
      (repeat (first | refine st_q rfl rfl rfl ?_ | (refine Z8y ?_; (repeat (first | refine Z9v rfl ?_ | refine Z9w ?_)); refine Z9u ?_) | refine awp_seq ?_ | refine Zbm (fun _ _ => rfl) ?_))
      refine Za3 (p := (i' : Int) < n) rfl (fun h5 => ?_) (fun h5 => ?_)
      · have hrest : n.toNat - i' = (n.toNat - (i' + 1)) + 1 := by omega
        rw [hrest, iterO] at hw
        split at hw
        · cases hw
        rename_i u1 sE hL
        split at hw
        · cases hw
        rename_i u2 s3 hR
        simp only [Option.some.injEq, Prod.mk.injEq] at hw
        obtain ⟨rfl, rfl⟩ := hw
        have hul := Z1qb cols keep _ _ _ _ _ hL
        have hmi := hmul i' (by omega)
        have hsE : sE.sz l.length := Z1q9 (f := takeL cols keep ks (a + 1)) (N := l.length) (fun s vs s' hh hs => by
          have hLs : ∀ (ks : List Ty) (a : Nat) (s : Tk) (vs : List Vl) (s' : Tk), takeL cols keep ks a s = some (vs, s') → s.sz l.length → s'.sz l.length := by
            intro ks
            induction ks with
            | nil => intro a s vs s' h hs; simp only [takeL, Option.some.injEq, Prod.mk.injEq] at h; rw [← h.2]; exact hs
            | cons t ts ih2 =>
              intro a s vs s' h hs
              simp only [takeL] at h
              split at h
              · cases h
              · rename_i v0 s10 h10
                split at h
                · cases h
                · rename_i w0 s20 h20
                  simp only [Option.some.injEq, Prod.mk.injEq] at h
                  rw [← h.2]
                  exact ih2 _ _ _ _ h20 (Z1qa cols keep l.length _ _ _ _ _ h10 hs)
          exact hLs _ _ _ _ _ hh hs) 1 st u1 sE (by simp [iterO, hL]) hst
        (repeat (first | refine st_q rfl rfl rfl ?_ | (refine Z8y ?_; (repeat (first | refine Z9v rfl ?_ | refine Z9w ?_)); refine Z9u ?_) | refine awp_seq ?_ | refine Zbm (fun _ _ => rfl) ?_ | refine Z8h ?_ | refine Zbn (fun _ _ => rfl) ?_))
        rw [hkn]
        obtain ⟨J, hJ⟩ : ∃ J : Nat → Z26 → Zc → Prop, J = fun m F σ' => ∃ (j' : Nat) (st : Tk) (ut : List Vl) (kv : Z0) (β : Zc), F = fset 0 (some (.iptr (Z1vu l cols keep g h ba bh))) (fset 4 (some (.ptr b4 0 0)) (fset 6 (some (.iptr (Zm2 nd))) (fset 9 (some (.ptr b9 0 0)) (fset 87 (some (.int .i64 n)) (fset 88 (some (.int .i64 (i' : Nat))) (fset 91 (some (.slc 1 (ints nd.kids) true)) (fset 92 (some (.int .i64 (nd.kids.length : Nat))) (fset 93 (some (.int .i64 (j' : Nat))) Z27)))))))) ∧
          β ++ ((b9, Zb.cells 5 [.agg [.bool false, .int .i64 0, .int .i64 0, .slc 0 [] true, kv]]) :: (b4, .cells 5 [.agg [.bool false, .int .i64 0, .int .i64 0, .slc 0 [] true, .slc 0 [] true]]) :: HS H ba bh st) = σ' ∧ Zbr 5 kv (Zm5 ut) β ∧ b9 ∉ Zh β ∧ ba ∉ Zh β ∧ bh ∉ Zh β ∧ st.sz l.length ∧ j' ≤ nd.kids.length ∧ ut.length ≤ i' * ks.length + j' ∧ (∃ ws, takeL cols keep (ks.drop j') (a + 1 + cntL (ks.take j')) st = some (ws, sE) ∧ ut ++ ws = us ++ u1) ∧ m = nd.kids.length - j' := ⟨_, rfl⟩
        refine Zaa J (n := nd.kids.length) (by
          rw [hJ]
          exact ⟨0, st, us, kv, β, rfl, rfl, ho, hnb, hna, hnh, hst, by omega, by omega, ⟨u1, by simpa [cntL] using hL, rfl⟩, by omega⟩) ?_
        clear ho hnb hna hnh hst
        clear kv β
        intro m1 F σ' hJm
        rw [hJ] at hJm
        obtain ⟨j', st, ut, kv, β, rfl, rfl, ho, hnb, hna, hnh, hst, hj', hut, ⟨ws, hw, hVt⟩, rfl⟩ := hJm
        (repeat (first | refine st_q rfl rfl rfl ?_ | (refine Z8y ?_; (repeat (first | refine Z9v rfl ?_ | refine Z9w ?_)); refine Z9u ?_) | refine awp_seq ?_ | refine Zbm (fun _ _ => rfl) ?_))
        refine Za3 (p := (j' : Int) < (nd.kids.length : Nat)) rfl (fun h6 => ?_) (fun h6 => ?_)
        · have hjl : j' < nd.kids.length := by omega
          have hjk : j' < ks.length := by omega
          obtain ⟨m, hx, hm, hmt, hxm⟩ := hkidx j' ks[j'] (List.getElem?_eq_getElem hjk)
          have hcs := Z1q8 ks j' ks[j'] (List.getElem?_eq_getElem hjk)
          have humem : ks[j'] ∈ ks := List.getElem_mem hjk
          rw [List.drop_eq_getElem_cons hjk, takeL] at hw
          generalize ks[j'] = u at hm hmt hcs hw humem hx
          generalize hxe : a + 1 + cntL (ks.take j') = x at hx hm hw hxm
          have hcs2 : a + 1 + cntL (ks.take (j' + 1)) = x + cnt u := by omega
          have hkx : keep.getD x false = true := by
            rcases (hWh a nd hnd x hxm).2 hka with e | e
            · exact e
            · omega
          split at hw
          · cases hw
          rename_i vj s1 ht1
          split at hw
          · cases hw
          rename_i w2 s4 hw2
          simp only [Option.some.injEq, Prod.mk.injEq] at hw
          obtain ⟨rfl, rfl⟩ := hw
          have hst1 := Z1qa cols keep l.length _ _ _ _ _ ht1 hst
          (repeat (first | refine awp_seq ?_ | refine Zbm (fun _ _ => rfl) ?_ | refine Z8h ?_ | refine Zbn (fun _ _ => rfl) ?_))
          refine Z93 rfl (by omega) hx ?_
          (repeat (refine st_q rfl rfl rfl ?_))
          (refine Z8y ?_; (repeat (first | refine Z9v rfl ?_ | refine Z9w ?_)); refine Z9u ?_)
          refine Zbm (fun _ _ => rfl) ?_
          (repeat (refine st_q rfl rfl rfl ?_))
          refine Z1vl rfl rfl (by rw [Zah hnb]; exact Z8z) rfl rfl ?_
          (repeat (refine st_q rfl rfl rfl ?_))
          refine Z1vm rfl (call _ humem _ _ hm hmt hkx st s1 vj hst ht1 β _ hna hnh) (kept _ _ _ _ _ _ hnb) ?_
          (repeat (refine st_q rfl rfl rfl ?_))
          refine Zbs (ys := [.agg (Zm6 vj)]) ho rfl rfl (by rw [Zm9, List.length_singleton]; omega) fun b' hb' => ?_
          obtain ⟨f9, fa, fh⟩ := fresh' b' β _ s1 hb'
          rw [heA]
          (repeat (refine st_q rfl rfl rfl ?_))
          refine Z9a rfl (Z90 f9 Z8z) rfl (by decide) (Kfi rfl) (fun h => by cases h) (Z9c f9 Z9b) ?_
          (refine Z8y ?_; (repeat (first | refine Z9v rfl ?_ | refine Z9w ?_)); refine Z9u ?_)
          refine Zbp ?_
          (repeat (refine st_q rfl rfl rfl ?_))
          rw [show IntKind.wrap .i64 ((j' : Int) + 1) = ((j' + 1 : Nat) : Int) by rw [w64 _ (by omega) (by omega)]; omega]
          (refine Z8y ?_; (repeat (first | refine Z9v rfl ?_ | refine Z9w ?_)); refine Z9u ?_)
          refine ⟨_, nd.kids.length - (j' + 1), HSub.refl _, ?_, by omega⟩
          rw [hJ]
          exact ⟨j' + 1, s1, ut ++ [vj], _, _, rfl, rfl, Zbr.mk, nk _ _ _ f9, nk _ _ _ fa, nk _ _ _ fh, hst1, by omega, by rw [List.length_append, List.length_singleton]; omega, ⟨w2, by rw [hcs2]; exact hw2, by rw [List.append_assoc]; exact hVt⟩, rfl⟩
        · rw [List.drop_of_length_le (by omega), takeL] at hw
          simp only [Option.some.injEq, Prod.mk.injEq] at hw
          obtain ⟨rfl, rfl⟩ := hw
          rw [List.append_nil] at hVt
          subst hVt
          (repeat refine Zbo (fun _ _ => rfl) ?_)
          refine Zbp ?_
          (repeat (refine st_q rfl rfl rfl ?_))
          rw [show IntKind.wrap .i64 ((i' : Int) + 1) = ((i' + 1 : Nat) : Int) by rw [w64 _ (by omega) (by omega)]; omega]
          (refine Z8y ?_; (repeat (first | refine Z9v rfl ?_ | refine Z9w ?_)); refine Z9u ?_)
          refine ⟨_, n.toNat - (i' + 1), HSub.refl _, ?_, by omega⟩
          rw [hI]
          exact ⟨i' + 1, st, us ++ u1, kv, β, rfl, rfl, ho, hnb, hna, hnh, hst, by omega, by rw [List.length_append, hul, Nat.succ_mul]; omega, ⟨u2, hR, by rw [List.append_assoc]; exact hVS⟩, rfl⟩
      · have hz : n.toNat - i' = 0 := by omega
        rw [hz, iterO] at hw
        simp only [Option.some.injEq, Prod.mk.injEq] at hw
        obtain ⟨rfl, rfl⟩ := hw
        rw [List.append_nil] at hVS
        subst hVS
        refine Zbo (fun _ _ => rfl) ?_
        refine Zbo (fun _ _ => rfl) ?_
        (refine Z9y (keep := [4, 9]) ?_; ((repeat (first | refine Z9v rfl ?_ | refine Z9w ?_)); refine Z9u ?_))
        exact fin st kv us β 0 0 _ ho hnb (hvle _ _ _) rfl rfl
    rcases k10 with k10 | k10
    · subst k10
      (repeat (first | refine st_q rfl rfl rfl ?_ | (refine Z8y ?_; (repeat (first | refine Z9v rfl ?_ | refine Z9w ?_)); refine Z9u ?_) | refine awp_seq ?_ | refine Zbm (fun _ _ => rfl) ?_ | refine Z8h ?_ | refine Zbn (fun _ _ => rfl) ?_ | refine Zbo (fun _ _ => rfl) ?_ | refine Kc1 rfl ?_))
      refine Z93 rfl (by omega) hgl ?_
      (repeat (first | refine st_q rfl rfl rfl ?_ | (refine Z8y ?_; (repeat (first | refine Z9v rfl ?_ | refine Z9w ?_)); refine Z9u ?_) | refine Z8h ?_))
      exact loop
    · subst k10
      (repeat (first | refine st_q rfl rfl rfl ?_ | (refine Z8y ?_; (repeat (first | refine Z9v rfl ?_ | refine Z9w ?_)); refine Z9u ?_) | refine awp_seq ?_ | refine Zbm (fun _ _ => rfl) ?_ | refine Z8h ?_ | refine Zbo (fun _ _ => rfl) ?_ | refine Kc1 rfl ?_ | refine Kc2 rfl ?_))
      refine Z93 rfl (by omega) hgl ?_
      (repeat (first | refine st_q rfl rfl rfl ?_ | (refine Z8y ?_; (repeat (first | refine Z9v rfl ?_ | refine Z9w ?_)); refine Z9u ?_) | refine Z8h ?_))
      exact loop
  rw [if_neg k10] at htk
  by_cases k12 : k = 12
  · subst k12
    rw [if_pos rfl] at htk
    obtain ⟨VS, hts⟩ : ∃ VS, takeS cols keep ks (a + 1) s2 = some (VS, s') ∧ v = .mk false 0 0 [] VS := by
      split at htk
      · cases htk
      · rename_i vs s0 h0
        simp only [Option.some.injEq, Prod.mk.injEq] at htk
        obtain ⟨e1, rfl⟩ := htk
        exact ⟨vs, h0, e1.symm⟩
    obtain ⟨hts, rfl⟩ := hts
    (repeat (first | refine st_q rfl rfl rfl ?_ | (refine Z8y ?_; (repeat (first | refine Z9v rfl ?_ | refine Z9w ?_)); refine Z9u ?_) | refine awp_seq ?_ | refine Zbm (fun _ _ => rfl) ?_ | refine Z8h ?_ | refine Zbn (fun _ _ => rfl) ?_ | refine Zbo (fun _ _ => rfl) ?_ | refine Kc1 rfl ?_ | refine Kc2 rfl ?_))
    rw [hkn]
    obtain ⟨I, hI⟩ : ∃ I : Nat → Z26 → Zc → Prop, I = fun m F σ' => ∃ (j : Nat) (st : Tk) (us : List Vl) (kv : Z0) (β : Zc), F = fset 0 (some (.iptr (Z1vu l cols keep g h ba bh))) (fset 4 (some (.ptr b4 0 0)) (fset 9 (some (.ptr b9 0 0)) (fset 108 (some (.slc 1 (ints nd.kids) true)) (fset 109 (some (.int .i64 (nd.kids.length : Nat))) (fset 110 (some (.int .i64 (j : Nat))) Z27))))) ∧
      β ++ ((b9, Zb.cells 5 [.agg [.bool false, .int .i64 0, .int .i64 0, .slc 0 [] true, kv]]) :: (b4, .cells 5 [.agg [.bool false, .int .i64 0, .int .i64 0, .slc 0 [] true, .slc 0 [] true]]) :: HS H ba bh st) = σ' ∧ Zbr 5 kv (Zm5 us) β ∧ b9 ∉ Zh β ∧ ba ∉ Zh β ∧ bh ∉ Zh β ∧ st.sz l.length ∧ j ≤ nd.kids.length ∧ us.length ≤ j ∧ (∃ ws, takeS cols keep (ks.drop j) (a + 1 + cntL (ks.take j)) st = some (ws, s') ∧ us ++ ws = VS) ∧ m = nd.kids.length - j := ⟨_, rfl⟩
    refine Zaa I (n := nd.kids.length) (by
      rw [hI]
      exact ⟨0, s2, [], .slc 0 [] true, [], rfl, rfl, Zbr.nil 5 0, by simp [Zh], by simp [Zh], by simp [Zh], hsz2, by omega, by simp, ⟨VS, by simpa [cntL] using hts, rfl⟩, by omega⟩) ?_
    intro m0 F σ' hIm
    rw [hI] at hIm
    obtain ⟨j', st, us, kv, β, rfl, rfl, ho, hnb, hna, hnh, hst, hj', hus, ⟨ws, hw, hVS⟩, rfl⟩ := hIm
    (repeat (first | refine st_q rfl rfl rfl ?_ | (refine Z8y ?_; (repeat (first | refine Z9v rfl ?_ | refine Z9w ?_)); refine Z9u ?_) | refine awp_seq ?_ | refine Zbm (fun _ _ => rfl) ?_))
    refine Za3 (p := (j' : Int) < (nd.kids.length : Nat)) rfl (fun h5 => ?_) (fun h5 => ?_)
    · have hjl : j' < nd.kids.length := by omega
      have hjk : j' < ks.length := by omega
      obtain ⟨m, hx, hm, hmt, hxm⟩ := hkidx j' ks[j'] (List.getElem?_eq_getElem hjk)
      have hcs := Z1q8 ks j' ks[j'] (List.getElem?_eq_getElem hjk)
      have humem : ks[j'] ∈ ks := List.getElem_mem hjk
      rw [List.drop_eq_getElem_cons hjk, takeS] at hw
      generalize ks[j'] = u at hm hmt hcs hw humem hx
      generalize hxe : a + 1 + cntL (ks.take j') = x at hx hm hw hxm
      have hxl : x < l.length := (List.getElem?_eq_some_iff.1 hm).1
      have hgk := Zxw (f := Z0.bool) (show x < keep.length by omega)
      have hdk : keep.getD x false = keep[x] := by rw [List.getD_eq_getElem?_getD, List.getElem?_eq_getElem (by omega)]; rfl
      rw [hdk] at hw
      generalize keep[x] = kx at hgk hw hdk
      have hcs2 : a + 1 + cntL (ks.take (j' + 1)) = x + cnt u := by omega
      (repeat (first | refine awp_seq ?_ | refine Zbm (fun _ _ => rfl) ?_ | refine Z8h ?_ | refine Zbn (fun _ _ => rfl) ?_))
      refine Z93 rfl (by omega) hx ?_
      (repeat (first | refine st_q rfl rfl rfl ?_ | (refine Z8y ?_; (repeat (first | refine Z9v rfl ?_ | refine Z9w ?_)); refine Z9u ?_) | refine awp_seq ?_ | refine Zbm (fun _ _ => rfl) ?_))
      refine Z93 rfl (by omega) hgk ?_
      (repeat (refine st_q rfl rfl rfl ?_))
      (refine Z8y ?_; (repeat (first | refine Z9v rfl ?_ | refine Z9w ?_)); refine Z9u ?_)
      cases kx with
      | false =>
        simp only [Bool.false_eq_true, if_false] at hw
        refine Kc2 rfl ?_
        refine Zbn (fun _ _ => rfl) ?_
        (refine Z9y (keep := [0, 4, 9, 108, 109, 110]) ?_; ((repeat (first | refine Z9v rfl ?_ | refine Z9w ?_)); refine Z9u ?_))
        refine Zbp ?_
        (repeat (refine st_q rfl rfl rfl ?_))
        rw [show IntKind.wrap .i64 ((j' : Int) + 1) = ((j' + 1 : Nat) : Int) by rw [w64 _ (by omega) (by omega)]; omega]
        (refine Z8y ?_; (repeat (first | refine Z9v rfl ?_ | refine Z9w ?_)); refine Z9u ?_)
        refine ⟨_, nd.kids.length - (j' + 1), HSub.refl _, ?_, by omega⟩
        rw [hI]
        exact ⟨j' + 1, st, us, kv, β, rfl, rfl, ho, hnb, hna, hnh, hst, by omega, by omega, ⟨ws, by rw [hcs2]; exact hw, hVS⟩, rfl⟩
      | true =>
        have hkx := hdk
        simp only [if_true] at hw
        split at hw
        · cases hw
        rename_i vj s1 ht1
        split at hw
        · cases hw
        rename_i w2 s3 hw2
        simp only [Option.some.injEq, Prod.mk.injEq] at hw
        obtain ⟨rfl, rfl⟩ := hw
        have hst1 := Z1qa cols keep l.length _ _ _ _ _ ht1 hst
        refine Kc1 rfl ?_
        refine Zbm (fun _ _ => rfl) ?_
        (repeat (refine st_q rfl rfl rfl ?_))
        refine Z1vl rfl rfl (by rw [Zah hnb]; exact Z8z) rfl rfl ?_
        (repeat (refine st_q rfl rfl rfl ?_))
        refine Z1vm rfl (call _ humem _ _ hm hmt hkx st s1 vj hst ht1 β _ hna hnh) (kept _ _ _ _ _ _ hnb) ?_
        (repeat (refine st_q rfl rfl rfl ?_))
        refine Zbs (ys := [.agg (Zm6 vj)]) ho rfl rfl (by rw [Zm9, List.length_singleton]; omega) fun b' hb' => ?_
        obtain ⟨f9, fa, fh⟩ := fresh' b' β _ s1 hb'
        rw [heA]
        (repeat (refine st_q rfl rfl rfl ?_))
        refine Z9a rfl (Z90 f9 Z8z) rfl (by decide) (Kfi rfl) (fun h => by cases h) (Z9c f9 Z9b) ?_
        (refine Z8y ?_; (repeat (first | refine Z9v rfl ?_ | refine Z9w ?_)); refine Z9u ?_)
        refine Zbp ?_
        (repeat (refine st_q rfl rfl rfl ?_))
        rw [show IntKind.wrap .i64 ((j' : Int) + 1) = ((j' + 1 : Nat) : Int) by rw [w64 _ (by omega) (by omega)]; omega]
        (refine Z8y ?_; (repeat (first | refine Z9v rfl ?_ | refine Z9w ?_)); refine Z9u ?_)
        refine ⟨_, nd.kids.length - (j' + 1), HSub.refl _, ?_, by omega⟩
        rw [hI]
        exact ⟨j' + 1, s1, us ++ [vj], _, _, rfl, rfl, Zbr.mk, nk _ _ _ f9, nk _ _ _ fa, nk _ _ _ fh, hst1, by omega, by rw [List.length_append, List.length_singleton]; omega, ⟨w2, by rw [hcs2]; exact hw2, by rw [List.append_assoc]; exact hVS⟩, rfl⟩
    · rw [List.drop_of_length_le (by omega), takeS] at hw
      simp only [Option.some.injEq, Prod.mk.injEq] at hw
      obtain ⟨rfl, rfl⟩ := hw
      rw [List.append_nil] at hVS
      subst hVS
      refine Zbo (fun _ _ => rfl) ?_
      refine Zbo (fun _ _ => rfl) ?_
      (refine Z9y (keep := [4, 9]) ?_; ((repeat (first | refine Z9v rfl ?_ | refine Z9w ?_)); refine Z9u ?_))
      exact fin st kv us β 0 0 _ ho hnb (hvle _ _ _) rfl rfl
  rw [if_neg k12] at htk
  by_cases k13 : k = 13
  · subst k13
    rw [if_pos rfl] at htk
    obtain ⟨n, hn⟩ : ∃ n, c.ints[j]? = some n := by
      cases e : c.ints[j]? with
      | none => rw [e] at htk; cases htk
      | some n => exact ⟨n, rfl⟩
    rw [hn] at htk
    have hgi := hil2 (Z0.int .i64) c.ints n hn
    simp only at htk
    split at htk
    · cases htk
    rename_i hn0
    split at htk
    · cases htk
    rename_i vj s1 hN1
    simp only [Option.some.injEq, Prod.mk.injEq] at htk
    obtain ⟨rfl, rfl⟩ := htk
    obtain ⟨u, hu, ht1⟩ := Z1q7 hN1
    obtain ⟨m, hx, hm, hmt, hxm⟩ := hkidx n.toNat u hu
    have humem := List.mem_of_getElem? hu
    have hxn : (ints nd.kids)[n.toNat]? = some (.int .i64 ((a + 1 + cntL (ks.take n.toNat) : Nat) : Int)) := by rw [← hx, Int.toNat_natCast]
    generalize a + 1 + cntL (ks.take n.toNat) = x at hx hm ht1 hxn hxm
    have hkx : keep.getD x false = true := by
      rcases (hWh a nd hnd x hxm).2 hka with e | e
      · exact e
      · rw [hk] at e; cases e
    (repeat (first | refine st_q rfl rfl rfl ?_ | (refine Z8y ?_; (repeat (first | refine Z9v rfl ?_ | refine Z9w ?_)); refine Z9u ?_) | refine awp_seq ?_ | refine Zbm (fun _ _ => rfl) ?_ | refine Z8h ?_ | refine Zbn (fun _ _ => rfl) ?_ | refine Zbo (fun _ _ => rfl) ?_ | refine Kc1 rfl ?_ | refine Kc2 rfl ?_))
    refine Z93 rfl (by omega) hgi ?_
    (repeat (refine st_q rfl rfl rfl ?_))
    (first | refine Z9a rfl Z8z rfl (by decide) (Kfi rfl) (fun h => by cases h) Z9b ?_ | refine Z8v rfl (Z9a rfl Z8z rfl (by decide) (Kfi rfl) (fun h => by cases h) Z9b ?_))
    (refine Z8y ?_; (repeat (first | refine Z9v rfl ?_ | refine Z9w ?_)); refine Z9u ?_)
    refine Zbm (fun _ _ => rfl) ?_
    (repeat (refine st_q rfl rfl rfl ?_))
    refine Z1vl rfl rfl Z8z rfl rfl ?_
    (repeat (refine st_q rfl rfl rfl ?_))
    refine Z92 rfl Z8z rfl rfl ?_
    refine Z93 rfl (by omega) hxn ?_
    (repeat (refine st_q rfl rfl rfl ?_))
    refine Z1vm rfl (call u humem x m hm hmt hkx s2 s1 vj hsz2 ht1 [] _ (by simp [Zh]) (by simp [Zh])) (kept _ _ [] _ _ _ (by simp [Zh])) ?_
    (repeat (refine st_q rfl rfl rfl ?_))
    refine Zbs (β := []) (ys := [.agg (Zm6 vj)]) (Zbr.nil 5 0) rfl rfl (by simp) fun b' hb' => ?_
    obtain ⟨f9, fa, fh⟩ := fresh' b' [] _ s1 hb'
    rw [show ([] : List Z0) ++ [Z0.agg (Zm6 vj)] = Zm5 [vj] from by rw [Zm8, List.map_cons, List.map_nil, Zm7]; rfl]
    (repeat (refine st_q rfl rfl rfl ?_))
    refine Z9a rfl (Z90 f9 Z8z) rfl (by decide) (Kfi rfl) (fun h => by cases h) (Z9c f9 Z9b) ?_
    (refine Z8y ?_; (repeat (first | refine Z9v rfl ?_ | refine Z9w ?_)); refine Z9u ?_)
    refine Zbo (fun _ _ => rfl) ?_
    (refine Z9y (keep := [4, 9]) ?_; ((repeat (first | refine Z9v rfl ?_ | refine Z9w ?_)); refine Z9u ?_))
    exact fin s1 _ [vj] [(b', _)] n 0 _ Zbr.mk (nk _ _ _ f9) (hvle _ _ _) rfl rfl
  rw [if_neg k13] at htk
  by_cases hT7 : Zmb k = true
  · rw [if_pos hT7] at htk
    obtain ⟨bs, hbs⟩ : ∃ bs, c.texts[j]? = some bs := by
      cases e : c.texts[j]? with
      | none => rw [e] at htk; cases htk
      | some n => exact ⟨n, rfl⟩
    rw [hbs] at htk
    simp only [Option.some.injEq, Prod.mk.injEq] at htk
    obtain ⟨rfl, rfl⟩ := htk
    have hgt := hil2 (fun b => Z0.slc 1 (bytes b) false) c.texts bs hbs
    have hb4k := hC.text a c hc hka bs (List.mem_of_getElem? hbs)
    have hcl := Zue (bytes bs) false (fun x hx => by obtain ⟨y, _, rfl⟩ := List.mem_map.1 hx; exact ⟨rfl, by simp [Zx, Z0.cells, Z0.one]⟩) (by rw [Zam]; omega)
    have hvb : VRle [.agg [.bool false, .int .i64 0, .int .i64 0, .slc 1 (bytes bs) true, .slc 5 (Zm5 []) true]] [encV (.mk false 0 0 bs [])] := by
      rw [encV]
      refine VRle.agg (by simp [Z0.one]) ?_
      exact VRle.cons (VRle.refl _) (VRle.cons (VRle.refl _) (VRle.cons (VRle.refl _) (VRle.cons VRle.full (VRle.cons VRle.full (VRle.refl _)))))
    rcases Z1jz hT7 with e | e | e | e
    · subst e
      (repeat (first | refine st_q rfl rfl rfl ?_ | (refine Z8y ?_; (repeat (first | refine Z9v rfl ?_ | refine Z9w ?_)); refine Z9u ?_) | refine awp_seq ?_ | refine Zbm (fun _ _ => rfl) ?_ | refine Z8h ?_ | refine Zbn (fun _ _ => rfl) ?_ | refine Zbo (fun _ _ => rfl) ?_ | refine Kc1 rfl ?_ | refine Kc2 rfl ?_))
      refine Z93 rfl (by omega) hgt ?_
      (repeat (refine st_q rfl rfl rfl ?_))
      refine Z9t rfl (hcl _) ?_
      refine Z9t rfl (Zua (bytes bs) false _) ?_
      (repeat (refine st_q rfl rfl rfl ?_))
      (first | refine Z9a rfl Z8z rfl (by decide) (Kfi rfl) (fun h => by cases h) Z9b ?_ | refine Z8v rfl (Z9a rfl Z8z rfl (by decide) (Kfi rfl) (fun h => by cases h) Z9b ?_))
      (refine Z8y ?_; (repeat (first | refine Z9v rfl ?_ | refine Z9w ?_)); refine Z9u ?_)
      refine Zbo (fun _ _ => rfl) ?_
      (refine Z9y (keep := [4, 9]) ?_; ((repeat (first | refine Z9v rfl ?_ | refine Z9w ?_)); refine Z9u ?_))
      exact fin s2 _ [] [] 0 0 _ (Zbr.nil 5 0) h9n hvb rfl rfl
    · subst e
      (repeat (first | refine st_q rfl rfl rfl ?_ | (refine Z8y ?_; (repeat (first | refine Z9v rfl ?_ | refine Z9w ?_)); refine Z9u ?_) | refine awp_seq ?_ | refine Zbm (fun _ _ => rfl) ?_ | refine Z8h ?_ | refine Zbn (fun _ _ => rfl) ?_ | refine Zbo (fun _ _ => rfl) ?_ | refine Kc1 rfl ?_ | refine Kc2 rfl ?_))
      refine Z93 rfl (by omega) hgt ?_
      (repeat (refine st_q rfl rfl rfl ?_))
      refine Z9t rfl (hcl _) ?_
      refine Z9t rfl (Zua (bytes bs) false _) ?_
      (repeat (refine st_q rfl rfl rfl ?_))
      (first | refine Z9a rfl Z8z rfl (by decide) (Kfi rfl) (fun h => by cases h) Z9b ?_ | refine Z8v rfl (Z9a rfl Z8z rfl (by decide) (Kfi rfl) (fun h => by cases h) Z9b ?_))
      (refine Z8y ?_; (repeat (first | refine Z9v rfl ?_ | refine Z9w ?_)); refine Z9u ?_)
      refine Zbo (fun _ _ => rfl) ?_
      (refine Z9y (keep := [4, 9]) ?_; ((repeat (first | refine Z9v rfl ?_ | refine Z9w ?_)); refine Z9u ?_))
      exact fin s2 _ [] [] 0 0 _ (Zbr.nil 5 0) h9n hvb rfl rfl
    · subst e
      (repeat (first | refine st_q rfl rfl rfl ?_ | (refine Z8y ?_; (repeat (first | refine Z9v rfl ?_ | refine Z9w ?_)); refine Z9u ?_) | refine awp_seq ?_ | refine Zbm (fun _ _ => rfl) ?_ | refine Z8h ?_ | refine Zbn (fun _ _ => rfl) ?_ | refine Zbo (fun _ _ => rfl) ?_ | refine Kc1 rfl ?_ | refine Kc2 rfl ?_))
      refine Z93 rfl (by omega) hgt ?_
      (repeat (refine st_q rfl rfl rfl ?_))
      refine Z9t rfl (hcl _) ?_
      refine Z9t rfl (Zua (bytes bs) false _) ?_
      (repeat (refine st_q rfl rfl rfl ?_))
      (first | refine Z9a rfl Z8z rfl (by decide) (Kfi rfl) (fun h => by cases h) Z9b ?_ | refine Z8v rfl (Z9a rfl Z8z rfl (by decide) (Kfi rfl) (fun h => by cases h) Z9b ?_))
      (refine Z8y ?_; (repeat (first | refine Z9v rfl ?_ | refine Z9w ?_)); refine Z9u ?_)
      refine Zbo (fun _ _ => rfl) ?_
      (refine Z9y (keep := [4, 9]) ?_; ((repeat (first | refine Z9v rfl ?_ | refine Z9w ?_)); refine Z9u ?_))
      exact fin s2 _ [] [] 0 0 _ (Zbr.nil 5 0) h9n hvb rfl rfl
    · subst e
      (repeat (first | refine st_q rfl rfl rfl ?_ | (refine Z8y ?_; (repeat (first | refine Z9v rfl ?_ | refine Z9w ?_)); refine Z9u ?_) | refine awp_seq ?_ | refine Zbm (fun _ _ => rfl) ?_ | refine Z8h ?_ | refine Zbn (fun _ _ => rfl) ?_ | refine Zbo (fun _ _ => rfl) ?_ | refine Kc1 rfl ?_ | refine Kc2 rfl ?_))
      refine Z93 rfl (by omega) hgt ?_
      (repeat (refine st_q rfl rfl rfl ?_))
      refine Z9t rfl (hcl _) ?_
      refine Z9t rfl (Zua (bytes bs) false _) ?_
      (repeat (refine st_q rfl rfl rfl ?_))
      (first | refine Z9a rfl Z8z rfl (by decide) (Kfi rfl) (fun h => by cases h) Z9b ?_ | refine Z8v rfl (Z9a rfl Z8z rfl (by decide) (Kfi rfl) (fun h => by cases h) Z9b ?_))
      (refine Z8y ?_; (repeat (first | refine Z9v rfl ?_ | refine Z9w ?_)); refine Z9u ?_)
      refine Zbo (fun _ _ => rfl) ?_
      (refine Z9y (keep := [4, 9]) ?_; ((repeat (first | refine Z9v rfl ?_ | refine Z9w ?_)); refine Z9u ?_))
      exact fin s2 _ [] [] 0 0 _ (Zbr.nil 5 0) h9n hvb rfl rfl
  rw [if_neg hT7] at htk
  by_cases k9 : k = 9
  · subst k9
    rw [if_pos rfl] at htk
    split at htk
    · rename_i m n hm hn
      simp only [Option.some.injEq, Prod.mk.injEq] at htk
      obtain ⟨rfl, rfl⟩ := htk
      have hgm := hil2 (Z0.int .i64) c.ns m hm
      have hgn := hil2 (Z0.int .i64) c.ints n hn
      (repeat (first | refine st_q rfl rfl rfl ?_ | (refine Z8y ?_; (repeat (first | refine Z9v rfl ?_ | refine Z9w ?_)); refine Z9u ?_) | refine awp_seq ?_ | refine Zbm (fun _ _ => rfl) ?_ | refine Z8h ?_ | refine Zbn (fun _ _ => rfl) ?_ | refine Zbo (fun _ _ => rfl) ?_ | refine Kc1 rfl ?_ | refine Kc2 rfl ?_))
      refine Z93 rfl (by omega) hgm ?_
      (repeat (refine st_q rfl rfl rfl ?_))
      (first | refine Z9a rfl Z8z rfl (by decide) (Kfi rfl) (fun h => by cases h) Z9b ?_ | refine Z8v rfl (Z9a rfl Z8z rfl (by decide) (Kfi rfl) (fun h => by cases h) Z9b ?_))
      (refine Z8y ?_; (repeat (first | refine Z9v rfl ?_ | refine Z9w ?_)); refine Z9u ?_)
      refine Z9z ?_
      (repeat (refine st_q rfl rfl rfl ?_))
      refine Z93 rfl (by omega) hgn ?_
      (repeat (refine st_q rfl rfl rfl ?_))
      (first | refine Z9a rfl Z8z rfl (by decide) (Kfi rfl) (fun h => by cases h) Z9b ?_ | refine Z8v rfl (Z9a rfl Z8z rfl (by decide) (Kfi rfl) (fun h => by cases h) Z9b ?_))
      (refine Z8y ?_; (repeat (first | refine Z9v rfl ?_ | refine Z9w ?_)); refine Z9u ?_)
      refine Zbo (fun _ _ => rfl) ?_
      (refine Z9y (keep := [4, 9]) ?_; ((repeat (first | refine Z9v rfl ?_ | refine Z9w ?_)); refine Z9u ?_))
      exact fin s2 _ [] [] n m _ (Zbr.nil 5 0) h9n (hvle _ _ _) rfl rfl
    · cases htk
  rw [if_neg k9] at htk
  obtain ⟨n, hn⟩ : ∃ n, c.ints[j]? = some n := by
    cases e : c.ints[j]? with
    | none => rw [e] at htk; cases htk
    | some n => exact ⟨n, rfl⟩
  rw [hn] at htk
  simp only [Option.some.injEq, Prod.mk.injEq] at htk
  obtain ⟨rfl, rfl⟩ := htk
  have hgn := hil2 (Z0.int .i64) c.ints n hn
  have hnt : ¬ k = 7 ∧ ¬ k = 8 ∧ ¬ k = 16 ∧ ¬ k = 17 := by
    refine ⟨fun e => hT7 (by rw [e]; rfl), fun e => hT7 (by rw [e]; rfl), fun e => hT7 (by rw [e]; rfl), fun e => hT7 (by rw [e]; rfl)⟩
  (repeat (first | refine st_q rfl rfl rfl ?_ | (refine Z8y ?_; (repeat (first | refine Z9v rfl ?_ | refine Z9w ?_)); refine Z9u ?_) | refine awp_seq ?_ | refine Zbm (fun _ _ => rfl) ?_ | refine Z8h ?_))
  (rw [decide_eq_false (p := k = 10) (by omega)])
  (repeat (first | refine st_q rfl rfl rfl ?_ | (refine Z8y ?_; (repeat (first | refine Z9v rfl ?_ | refine Z9w ?_)); refine Z9u ?_) | refine Zbm (fun _ _ => rfl) ?_ | refine Kc2 rfl ?_))
  (rw [decide_eq_false (p := k = 11) (by omega)])
  (repeat (first | refine st_q rfl rfl rfl ?_ | (refine Z8y ?_; (repeat (first | refine Z9v rfl ?_ | refine Z9w ?_)); refine Z9u ?_) | refine awp_seq ?_ | refine Zbm (fun _ _ => rfl) ?_ | refine Zbn (fun _ _ => rfl) ?_ | refine Kc2 rfl ?_))
  (rw [decide_eq_false (p := k = 12) (by omega)])
  (repeat (first | refine st_q rfl rfl rfl ?_ | (refine Z8y ?_; (repeat (first | refine Z9v rfl ?_ | refine Z9w ?_)); refine Z9u ?_) | refine awp_seq ?_ | refine Zbm (fun _ _ => rfl) ?_ | refine Zbn (fun _ _ => rfl) ?_ | refine Kc2 rfl ?_))
  (rw [decide_eq_false (p := k = 13) (by omega)])
  (repeat (first | refine st_q rfl rfl rfl ?_ | (refine Z8y ?_; (repeat (first | refine Z9v rfl ?_ | refine Z9w ?_)); refine Z9u ?_) | refine awp_seq ?_ | refine Zbm (fun _ _ => rfl) ?_ | refine Zbn (fun _ _ => rfl) ?_ | refine Kc2 rfl ?_))
  (rw [decide_eq_false (p := k = 7) (by omega)])
  (repeat (first | refine st_q rfl rfl rfl ?_ | (refine Z8y ?_; (repeat (first | refine Z9v rfl ?_ | refine Z9w ?_)); refine Z9u ?_) | refine awp_seq ?_ | refine Zbm (fun _ _ => rfl) ?_ | refine Kc2 rfl ?_))
  (rw [decide_eq_false (p := k = 8) (by omega)])
  (repeat (first | refine st_q rfl rfl rfl ?_ | (refine Z8y ?_; (repeat (first | refine Z9v rfl ?_ | refine Z9w ?_)); refine Z9u ?_) | refine awp_seq ?_ | refine Zbm (fun _ _ => rfl) ?_ | refine Kc2 rfl ?_))
  (rw [decide_eq_false (p := k = 16) (by omega)])
  (repeat (first | refine st_q rfl rfl rfl ?_ | (refine Z8y ?_; (repeat (first | refine Z9v rfl ?_ | refine Z9w ?_)); refine Z9u ?_) | refine Zbm (fun _ _ => rfl) ?_ | refine Kc2 rfl ?_))
  (rw [decide_eq_false (p := k = 17) (by omega)])
  (repeat (first | refine st_q rfl rfl rfl ?_ | (refine Z8y ?_; (repeat (first | refine Z9v rfl ?_ | refine Z9w ?_)); refine Z9u ?_) | refine awp_seq ?_ | refine Zbm (fun _ _ => rfl) ?_ | refine Zbn (fun _ _ => rfl) ?_ | refine Kc2 rfl ?_))
  (rw [decide_eq_false (p := k = 9) (by omega)])
  (repeat (first | refine st_q rfl rfl rfl ?_ | refine awp_seq ?_ | refine Zbm (fun _ _ => rfl) ?_ | refine Zbn (fun _ _ => rfl) ?_ | refine Zbo (fun _ _ => rfl) ?_ | refine Kc2 rfl ?_))
  refine Z93 rfl (by omega) hgn ?_
  (repeat (refine st_q rfl rfl rfl ?_))
  (first | refine Z9a rfl Z8z rfl (by decide) (Kfi rfl) (fun h => by cases h) Z9b ?_ | refine Z8v rfl (Z9a rfl Z8z rfl (by decide) (Kfi rfl) (fun h => by cases h) Z9b ?_))
  (refine Z8y ?_; (repeat (first | refine Z9v rfl ?_ | refine Z9w ?_)); refine Z9u ?_)
  refine Zbo (fun _ _ => rfl) ?_
  (refine Z9y (keep := [4, 9]) ?_; ((repeat (first | refine Z9v rfl ?_ | refine Z9w ?_)); refine Z9u ?_))
  exact fin s2 _ [] [] n 0 _ (Zbr.nil 5 0) h9n (hvle _ _ _) rfl rfl
end Go.Abs
namespace Go.Abs
open Go Go.Proofs
set_option linter.unusedVariables false
set_option linter.unusedSimpArgs false
set_option maxHeartbeats 4000000
attribute [local irreducible] AWp aops KP
def takeR (cols : List Col) (keep : List Bool) (t : Ty) : Nat → Tk → Option (List Vl × Tk)
  | 0, s => some ([], s)
  | n + 1, s => match takeT cols keep t 0 s with
    | none => none
    | some (v, s1) => match takeR cols keep t n s1 with
      | none => none
      | some (vs, s2) => some (v :: vs, s2)
theorem Z1yn (t : Ty) : Z1vc (Zm4 t) := by
  have hT := Z1m1 t
  refine ⟨Nat.le_trans (Z1li t) (by decide), fun n hn => ?_, fun n hn x hx => ?_⟩
  · obtain ⟨i, hi⟩ := List.getElem?_of_mem hn
    have hN := hT.nok i n hi
    have h100 := Z1li t
    rcases Nat.lt_or_ge n.kids.length 1001 with h | h
    · omega
    · obtain ⟨u, m, e1, e2, e3, _⟩ := hN.kids 1000 _ (List.getElem?_eq_getElem (by omega))
      have hlt := (List.getElem?_eq_some_iff.1 e3).1
      have hc : ∀ (ks : List Ty), ks.length ≤ cntL ks := by
        intro ks
        induction ks with
        | nil => simp [cntL]
        | cons a b ih => have := Z1ly a; rw [cntL, List.length_cons]; omega
      have h1 := hc (n.t.kids.take 1000)
      rw [List.length_take, ← hN.len] at h1
      omega
  · obtain ⟨i, hi⟩ := List.getElem?_of_mem hn
    obtain ⟨j, hj⟩ := List.getElem?_of_mem hx
    obtain ⟨u, m, e1, e2, e3, _⟩ := (hT.nok i n hi).kids j x hj
    exact (List.getElem?_eq_some_iff.1 e3).1
structure Asks (l : List Nd) (cols : List Col) (keep : List Bool) (n : Nat) (want : Nat → Nat) (key : Nat → Bool) : Prop where
  w0 : want 0 = n
  k0 : key 0 = true
  kid : ∀ i nd, l[i]? = some nd → keep.getD i false = true → ∀ (j x : Nat), nd.kids[j]? = some x → want x = askF nd.t.kind (cols.getD i col0) j ∧ key x = (decide (nd.t.kind = 11) && decide (j = 0))
  right : ∀ i nd, l[i]? = some nd → keep.getD i false = true → Right nd (cols.getD i col0) (want i) (!key i)
def DoneK (l : List Nd) (i j x : Nat) : Prop := x = 0 ∨ ∃ p q m, l[p]? = some q ∧ q.kids[m]? = some x ∧ (p < i ∨ p = i ∧ m < j)
structure AskI (l : List Nd) (keep : List Bool) (want : Nat → Nat) (key : Nat → Bool) (i j : Nat) (W : List Int) (B : List Bool) : Prop where
  lw : W.length = l.length
  lb : B.length = l.length
  eq : ∀ x, x < l.length → keep.getD x false = true → DoneK l i j x → W[x]? = some ((want x : Nat) : Int) ∧ B[x]? = some (key x)
theorem AskI.up {l : List Nd} (hT : TreeN l) {cols : List Col} {keep : List Bool} {n : Nat} {want : Nat → Nat} {key : Nat → Bool} (hA : Asks l cols keep n want key) {i j : Nat} {W : List Int} {B : List Bool} (h : AskI l keep want key i j W B)
    {nd : Nd} (hnd : l[i]? = some nd) (hk : keep.getD i false = true) {x : Nat} (hx : nd.kids[j]? = some x) :
    AskI l keep want key i (j + 1) (W.set x (askF nd.t.kind (cols.getD i col0) j : Nat)) (B.set x (decide (nd.t.kind = 11) && decide (j = 0))) := by
  obtain ⟨u, m, e1, e2, e3, e4, e5, _⟩ := (hT.nok i nd hnd).kids j x hx
  have hxl := (List.getElem?_eq_some_iff.1 e3).1
  refine ⟨by rw [List.length_set]; exact h.lw, by rw [List.length_set]; exact h.lb, fun y hy hky hd => ?_⟩
  obtain ⟨k1, k2⟩ := hA.kid i nd hnd hk j x hx
  by_cases e : y = x
  · subst e
    rw [List.getElem?_set_self (by rw [h.lw]; exact hy), List.getElem?_set_self (by rw [h.lb]; exact hy), k1, k2]
    exact ⟨rfl, rfl⟩
  · rw [List.getElem?_set_ne (fun e' => e e'.symm), List.getElem?_set_ne (fun e' => e e'.symm)]
    refine h.eq y hy hky ?_
    rcases hd with rfl | ⟨p, q, m', h1, h2, h3⟩
    · exact .inl rfl
    · refine .inr ⟨p, q, m', h1, h2, ?_⟩
      rcases h3 with h3 | ⟨rfl, h3⟩
      · exact .inl h3
      · refine .inr ⟨rfl, ?_⟩
        rw [hnd] at h1
        cases h1
        rcases Nat.lt_or_eq_of_le (Nat.le_of_lt_succ h3) with h4 | h4
        · exact h4
        · subst h4
          rw [hx] at h2
          cases h2
          exact absurd rfl e
theorem AskI.next {l : List Nd} (hT : TreeN l) {keep : List Bool} {want : Nat → Nat} {key : Nat → Bool} {i j : Nat} {W : List Int} {B : List Bool} (h : AskI l keep want key i j W B) {nd : Nd} (hnd : l[i]? = some nd) (hj : nd.kids.length ≤ j) : AskI l keep want key (i + 1) 0 W B := by
  refine ⟨h.lw, h.lb, fun y hy hky hd => h.eq y hy hky ?_⟩
  rcases hd with rfl | ⟨p, q, m', h1, h2, h3⟩
  · exact .inl rfl
  · refine .inr ⟨p, q, m', h1, h2, ?_⟩
    rcases h3 with h3 | ⟨_, h3⟩
    · rcases Nat.lt_or_eq_of_le (Nat.le_of_lt_succ h3) with h4 | h4
      · exact .inl h4
      · subst h4
        rw [hnd] at h1
        cases h1
        have := (List.getElem?_eq_some_iff.1 h2).1
        exact .inr ⟨rfl, by omega⟩
    · omega
theorem AskI.skip {l : List Nd} (hT : TreeN l) {keep : List Bool} (hW : Whole l keep) {want : Nat → Nat} {key : Nat → Bool} {i j : Nat} {W : List Int} {B : List Bool} (h : AskI l keep want key i j W B) {nd : Nd} (hnd : l[i]? = some nd) (hk : keep.getD i false = false) : AskI l keep want key (i + 1) 0 W B := by
  refine ⟨h.lw, h.lb, fun y hy hky hd => h.eq y hy hky ?_⟩
  rcases hd with rfl | ⟨p, q, m', h1, h2, h3⟩
  · exact .inl rfl
  · refine .inr ⟨p, q, m', h1, h2, ?_⟩
    rcases h3 with h3 | ⟨_, h3⟩
    · rcases Nat.lt_or_eq_of_le (Nat.le_of_lt_succ h3) with h4 | h4
      · exact .inl h4
      · subst h4
        have := (hW p q h1 y (List.mem_of_getElem? h2)).1 hky
        rw [hk] at this
        cases this
    · omega
theorem AskI.at {l : List Nd} (hT : TreeN l) {keep : List Bool} {want : Nat → Nat} {key : Nat → Bool} {i : Nat} {W : List Int} {B : List Bool} (h : AskI l keep want key i 0 W B) {nd : Nd} (hnd : l[i]? = some nd) (hk : keep.getD i false = true) : W[i]? = some ((want i : Nat) : Int) ∧ B[i]? = some (key i) := by
  refine h.eq i (List.getElem?_eq_some_iff.1 hnd).1 hk ?_
  by_cases e : i = 0
  · exact .inl e
  · obtain ⟨⟨p, q, m, e1, e2, e3, e4, _⟩⟩ := hT.par i nd hnd (by omega)
    exact .inr ⟨p, q, m, e3, e4, .inl e2⟩
theorem Z1yo (t : Ty) (ht : t.Fit) (h0 : Zlx t = 0) (cols : List Col) (n : Nat) (hn : n ≤ 4096) (kb keep : List Bool) (hkb : (kb = [] ∧ keep = List.replicate (Zm4 t).length true) ∨ (keep = kb ∧ kb ≠ []))
    (hkl : keep.length = (Zm4 t).length) (hk0 : keep.getD 0 false = true) (hC : ColsT (Zm4 t) cols keep) (hW : Whole (Zm4 t) keep) (want : Nat → Nat) (key : Nat → Bool) (hA : Asks (Zm4 t) cols keep n want key) (VS : List Vl) (sE : Tk)
    (hR : takeR cols keep t n ⟨List.replicate (Zm4 t).length 0, List.replicate (Zm4 t).length 0⟩ = some (VS, sE)) (g f : Bool) (σ : Zc) :
    Z1q Try.prog Zdp [encT t, .slc 5 (cols.map encC) g, .int .i64 (n : Int), .slc 1 (kb.map .bool) f] σ fun r σ' => r = .tup [.slc 5 (Zm5 VS) false, .int .i64 0] ∧ σ' = σ := by
  have hfl := Znk t ht
  have hT := Z1m1 t
  have hK := Z1yn t
  have hpos : 0 < (Zm4 t).length := by
    obtain ⟨n0, e, _⟩ := Z1pf h0
    exact (List.getElem?_eq_some_iff.1 e).1
  obtain ⟨n0, hn0, hn0t⟩ := Z1pf h0
  have hL100 := Z1li t
  rw [Zlp] at hfl ⊢
  generalize Zm4 t = l at *
  have hll : (l.map encN).length = l.length := List.length_map ..
  have hcl : (cols.map encC).length = cols.length := List.length_map ..
  have hbl : (kb.map Z0.bool).length = kb.length := List.length_map ..
  have hclen := hC.len
  refine Z8t rfl Z1y9 (Nat.le_of_ble_eq_true rfl) ?_
  refine Z9z ?_
  refine Z9j rfl (Kfi rfl) fun b4 hb4 => ?_
  (repeat (refine st_q rfl rfl rfl ?_))
  (refine Z8y ?_; (repeat (first | refine Z9v rfl ?_ | refine Z9w ?_)); refine Z9u ?_)
  refine Zb3 (d := 4) (cs := Zlo t) rfl ?_
  (repeat (first | refine st_q rfl rfl rfl ?_ | refine awp_seq ?_ | refine Zbm (fun _ _ => rfl) ?_))
  refine Z9t rfl (hfl _) ?_
  (repeat (first | refine st_q rfl rfl rfl ?_ | (refine Z8y ?_; (repeat (first | refine Z9v rfl ?_ | refine Z9w ?_)); refine Z9u ?_) | refine awp_seq ?_ | refine Zbm (fun _ _ => rfl) ?_))
  rw [hll]
  (rw [decide_eq_false (p := (l.length : Int) = 0) (by omega)])
  (repeat (first | refine st_q rfl rfl rfl ?_ | refine Z8v rfl (st_q rfl rfl rfl ?_)))
  (rw [decide_eq_false (p := (n : Int) < 0) (by omega)])
  skip
  (rw [decide_eq_false (p := (4096 : Int) < (n : Int)) (by omega)])
  (repeat (first | refine st_q rfl rfl rfl ?_ | refine Z8v rfl (st_q rfl rfl rfl ?_)))
  rw [hcl, hll]
  (rw [decide_eq_false (p := (cols.length : Int) ≠ (l.length : Int)) (by omega)])
  (repeat refine Z8v rfl (st_q rfl rfl rfl ?_))
  rw [hbl]
  -- behind the first look
  have main : ∀ (f : Bool), AWp Try.prog Z1wv.n (Z1wv.code.snd 4) (ARet Z1wv.res fun r σ' => r = .tup [.slc 5 (Zm5 VS) false, .int .i64 0] ∧ σ' = σ)
      (fset 1 (some (.slc 5 (cols.map encC) g)) (fset 2 (some (.int .i64 (n : Int))) (fset 3 (some (.slc 1 (keep.map .bool) f)) (fset 10 (some (.slc 8 (l.map encN) true)) Z27)))) σ := by
    intro f
    clear hkb
    have hkm : (keep.map Z0.bool).length = keep.length := List.length_map ..
    have hz1 : List.replicate ((l.length : Nat) : Int).toNat (Z0.int .i64 0) = (List.replicate l.length (0 : Int)).map (.int .i64) := by rw [List.map_replicate, Int.toNat_natCast]
    have hz2 : List.replicate ((l.length : Nat) : Int).toNat (Z0.bool false) = (List.replicate l.length false).map .bool := by rw [List.map_replicate, Int.toNat_natCast]
    refine Z9z ?_
    (repeat (refine st_q rfl rfl rfl ?_))
    rw [hll]
    refine Z9l rfl (Kfi rfl) (by omega) (by omega) (by omega) (by omega) fun b11 hb11 => ?_
    (repeat (refine st_q rfl rfl rfl ?_))
    (refine Z8y ?_; (repeat (first | refine Z9v rfl ?_ | refine Z9w ?_)); refine Z9u ?_)
    refine Z9z ?_
    (repeat (refine st_q rfl rfl rfl ?_))
    rw [hll]
    refine Z9l rfl (Kfi rfl) (by omega) (by omega) (by omega) (by omega) fun b12 hb12 => ?_
    have hne : b12 ≠ b11 := fun e => hb12 (by rw [e]; simp [Zh])
    (repeat (refine st_q rfl rfl rfl ?_))
    (refine Z8y ?_; (repeat (first | refine Z9v rfl ?_ | refine Z9w ?_)); refine Z9u ?_)
    rw [hz1, hz2, Int.toNat_natCast]
    refine Z9z ?_
    (repeat (refine st_q rfl rfl rfl ?_))
    refine Z94 rfl ⟨by omega, by omega⟩ ?_
    have hx1 : ((List.replicate l.length (0 : Int)).map (Z0.int .i64))[0 + (0 : Int).toNat]? = some (.int .i64 0) := by
      rw [List.getElem?_map, List.getElem?_replicate, if_pos (by simpa using hpos)]; rfl
    have hx2 : ((List.replicate l.length false).map Z0.bool)[0 + (0 : Int).toNat]? = some (.bool false) := by
      rw [List.getElem?_map, List.getElem?_replicate, if_pos (by simpa using hpos)]; rfl
    refine Z9a rfl (Z90 hne Z8z) hx1 (by decide) (Kfi rfl) (fun _ => ⟨rfl, rfl⟩) (Z9c hne Z9b) ?_
    (repeat (refine st_q rfl rfl rfl ?_))
    refine Z94 rfl ⟨by omega, by omega⟩ ?_
    refine Z9a rfl Z8z hx2 (by decide) (Kfi rfl) (fun _ => ⟨rfl, rfl⟩) Z9b ?_
    (refine Z8y ?_; (repeat (first | refine Z9v rfl ?_ | refine Z9w ?_)); refine Z9u ?_)
    have e1 : ((List.replicate l.length (0 : Int)).map (Z0.int .i64)).set (0 + (0 : Int).toNat) (Z1r (.int .i64 0) 0 (Z0.int .i64 (n : Int)).cells) = ((List.replicate l.length (0 : Int)).set 0 (n : Int)).map (.int .i64) := by rw [List.map_set]; rfl
    have e2 : ((List.replicate l.length false).map Z0.bool).set (0 + (0 : Int).toNat) (Z1r (.bool false) 0 (Z0.bool true).cells) = ((List.replicate l.length false).set 0 true).map .bool := by rw [List.map_set]; rfl
    rw [e1, e2]
    have hI0 : AskI l keep want key 0 0 ((List.replicate l.length (0 : Int)).set 0 (n : Int)) ((List.replicate l.length false).set 0 true) := by
      refine ⟨by simp, by simp, fun x hx hkx hd => ?_⟩
      rcases hd with rfl | ⟨p, q, m, _, _, h3⟩
      · rw [List.getElem?_set_self (by rw [List.length_replicate]; exact hx), List.getElem?_set_self (by rw [List.length_replicate]; exact hx), hA.w0, hA.k0]
        exact ⟨rfl, rfl⟩
      · omega
    generalize (List.replicate l.length (0 : Int)).set 0 (n : Int) = W0 at hI0 ⊢
    generalize (List.replicate l.length false).set 0 true = B0 at hI0 ⊢
    (repeat (first | refine st_q rfl rfl rfl ?_ | (refine Z8y ?_; (repeat (first | refine Z9v rfl ?_ | refine Z9w ?_)); refine Z9u ?_) | refine awp_seq ?_ | refine Zbm (fun _ _ => rfl) ?_ | refine Z8h ?_))
    rw [hll]
    obtain ⟨I, hI⟩ : ∃ I : Nat → Z26 → Zc → Prop, I = fun m F σ' => ∃ (i : Nat) (W : List Int) (B : List Bool), F = fset 1 (some (.slc 5 (cols.map encC) g)) (fset 2 (some (.int .i64 (n : Int))) (fset 3 (some (.slc 1 (keep.map .bool) f)) (fset 10 (some (.slc 8 (l.map encN) true)) (fset 11 (some (.arr 1 b11 0 l.length)) (fset 12 (some (.arr 1 b12 0 l.length)) (fset 76 (some (.int .i64 (l.length : Nat))) (fset 77 (some (.int .i64 (i : Nat))) Z27))))))) ∧
      (b12, Zb.cells 1 (B.map .bool)) :: (b11, Zb.cells 1 (W.map (.int .i64))) :: σ = σ' ∧ i ≤ l.length ∧ AskI l keep want key i 0 W B ∧ m = l.length - i := ⟨_, rfl⟩
    refine Zaa I (n := l.length) (by rw [hI]; exact ⟨0, W0, B0, rfl, rfl, by omega, hI0, by omega⟩) ?_
    intro m0 F σ' hIm
    rw [hI] at hIm
    obtain ⟨i, W, B, rfl, rfl, hi, hAI, rfl⟩ := hIm
    (repeat (first | refine st_q rfl rfl rfl ?_ | (refine Z8y ?_; (repeat (first | refine Z9v rfl ?_ | refine Z9w ?_)); refine Z9u ?_) | refine awp_seq ?_ | refine Zbm (fun _ _ => rfl) ?_))
    refine Za3 (p := (i : Int) < (l.length : Nat)) rfl (fun h3 => ?_) (fun h3 => ?_)
    · have hil : i < l.length := by omega
      have hic : i < cols.length := by omega
      have hgN := Zxw (f := encN) hil
      have hgC := Zxw (f := encC) hic
      have hgK := Zxw (f := Z0.bool) (show i < keep.length by omega)
      have hlI := List.getElem?_eq_getElem hil
      have hcD : cols.getD i col0 = cols[i] := by rw [List.getD_eq_getElem?_getD, List.getElem?_eq_getElem hic]; rfl
      have hdK : keep.getD i false = keep[i] := by rw [List.getD_eq_getElem?_getD, List.getElem?_eq_getElem (by omega)]; rfl
      have hnx : i + 1 ≤ l.length := hil
      have round : ∀ (W' : List Int) (B' : List Bool), AskI l keep want key (i + 1) 0 W' B' → ∀ Q : Z87, AWp Try.prog Z1wv.n (.region Z1wj [1, 2, 3, 10, 11, 12, 76, 77]) (Za9 I (l.length - i) Q)
          (fset 1 (some (.slc 5 (cols.map encC) g)) (fset 2 (some (.int .i64 (n : Int))) (fset 3 (some (.slc 1 (keep.map .bool) f)) (fset 10 (some (.slc 8 (l.map encN) true)) (fset 11 (some (.arr 1 b11 0 l.length)) (fset 12 (some (.arr 1 b12 0 l.length)) (fset 76 (some (.int .i64 (l.length : Nat))) (fset 77 (some (.int .i64 (i : Nat))) Z27))))))))
          ((b12, Zb.cells 1 (B'.map .bool)) :: (b11, Zb.cells 1 (W'.map (.int .i64))) :: σ) := by
        intro W' B' hA' Q
        refine Zbp ?_
        (repeat (refine st_q rfl rfl rfl ?_))
        rw [Kwr i (by omega)]
        (refine Z8y ?_; (repeat (first | refine Z9v rfl ?_ | refine Z9w ?_)); refine Z9u ?_)
        refine ⟨_, l.length - (i + 1), HSub.refl _, ?_, by omega⟩
        rw [hI]
        exact ⟨i + 1, W', B', rfl, rfl, hnx, hA', rfl⟩
      have hRt := hA.right i l[i] hlI
      have hkid := fun (hk : keep.getD i false = true) (j : Nat) (W : List Int) (B : List Bool) (h : AskI l keep want key i j W B) (x : Nat) => AskI.up hT hA h hlI hk (x := x)
      have hnext := fun (j : Nat) (W : List Int) (B : List Bool) (h : AskI l keep want key i j W B) => AskI.next hT h hlI (j := j)
      have hskip := fun (h : keep.getD i false = false) => AskI.skip hT hW hAI hlI h
      have hat := fun (h : keep.getD i false = true) => AskI.at hT hAI hlI h
      have hkx := hK.lt _ (List.getElem_mem hil)
      have hkn1 := hK.num _ (List.getElem_mem hil)
      rw [hcD] at hRt
      rw [hcD] at hkid
      rw [hdK] at hRt hkid hskip hat
      generalize l[i] = nd at hgN hRt hkid hnext hkx hkn1
      generalize cols[i] = c at hgC hRt hkid
      generalize keep[i] = ki at hgK hRt hkid hskip hat
      have hkn : (ints nd.kids).length = nd.kids.length := List.length_map ..
      (repeat (first | refine st_q rfl rfl rfl ?_ | (refine Z8y ?_; (repeat (first | refine Z9v rfl ?_ | refine Z9w ?_)); refine Z9u ?_) | refine awp_seq ?_ | refine Zbm (fun _ _ => rfl) ?_ | refine Z8h ?_ | refine Zbn (fun _ _ => rfl) ?_))
      refine Z93 rfl (by omega) hgK ?_
      (repeat (refine st_q rfl rfl rfl ?_))
      (refine Z8y ?_; (repeat (first | refine Z9v rfl ?_ | refine Z9w ?_)); refine Z9u ?_)
      cases ki with
      | false =>
        refine Kc1 rfl ?_
        refine Zbo (fun _ _ => rfl) ?_
        (refine Z9y (keep := [1, 2, 3, 10, 11, 12, 76, 77]) ?_; ((repeat (first | refine Z9v rfl ?_ | refine Z9w ?_)); refine Z9u ?_))
        exact round W B (hskip rfl) _
      | true =>
        obtain ⟨hw1, hw2⟩ := hat rfl
        have hRt := hRt rfl
        have hwr := Z1ym nd c (want i) (!key i) hRt
        have hsm := hRt.sm
        have hAs := fun j σ => Z1s2 nd.t.kind j (Zm2 nd) rfl rfl (Z1rx nd) c hsm σ
        have hwl : i < W.length := by rw [hAI.lw]; exact hil
        have hbl2 : i < B.length := by rw [hAI.lb]; exact hil
        have hgW : (W.map (Z0.int .i64))[0 + ((i : Nat) : Int).toNat]? = some (.int .i64 ((want i : Nat) : Int)) := by rw [Nat.zero_add, Int.toNat_natCast, List.getElem?_map, hw1]; rfl
        have hgB : (B.map Z0.bool)[0 + ((i : Nat) : Int).toNat]? = some (.bool (key i)) := by rw [Nat.zero_add, Int.toNat_natCast, List.getElem?_map, hw2]; rfl
        refine Kc2 rfl ?_
        refine Zbn (fun _ _ => rfl) ?_
        (refine Z9y (keep := [1, 2, 3, 10, 11, 12, 13, 76, 77]) ?_; ((repeat (first | refine Z9v rfl ?_ | refine Z9w ?_)); refine Z9u ?_))
        rw [encN] at hgN hwr
        refine awp_seq ?_
        refine awp_seq ?_
        refine Zbm (fun _ _ => rfl) ?_
        (repeat (refine st_q rfl rfl rfl ?_))
        refine Z93 rfl (by omega) hgN ?_
        (repeat (refine st_q rfl rfl rfl ?_))
        refine Z93 rfl (by omega) hgC ?_
        (repeat (refine st_q rfl rfl rfl ?_))
        refine Z94 rfl ⟨by omega, by omega⟩ ?_
        refine Z92 rfl (Z90 hne Z8z) hgW rfl ?_
        (repeat (refine st_q rfl rfl rfl ?_))
        refine Z94 rfl ⟨by omega, by omega⟩ ?_
        refine Z92 rfl Z8z hgB rfl ?_
        (repeat (refine st_q rfl rfl rfl ?_))
        refine Z9t rfl (hwr _) ?_
        (repeat (refine st_q rfl rfl rfl ?_))
        (refine Z8y ?_; (repeat (first | refine Z9v rfl ?_ | refine Z9w ?_)); refine Z9u ?_)
        (repeat (first | refine st_q rfl rfl rfl ?_ | (refine Z8y ?_; (repeat (first | refine Z9v rfl ?_ | refine Z9w ?_)); refine Z9u ?_) | refine awp_seq ?_ | refine Zbm (fun _ _ => rfl) ?_ | refine Zbn (fun _ _ => rfl) ?_ | refine Kc2 rfl ?_))
        refine Z93 rfl (by omega) hgN ?_
        rw [Zm2] at hgN
        (repeat (first | refine st_q rfl rfl rfl ?_ | (refine Z8y ?_; (repeat (first | refine Z9v rfl ?_ | refine Z9w ?_)); refine Z9u ?_) | refine Z8h ?_))
        rw [hkn]
        refine Zaa (fun m F σ' => ∃ (j : Nat) (W : List Int) (B : List Bool), F = fset 1 (some (.slc 5 (cols.map encC) g)) (fset 2 (some (.int .i64 (n : Int))) (fset 3 (some (.slc 1 (keep.map .bool) f)) (fset 10 (some (.slc 8 (l.map encN) true)) (fset 11 (some (.arr 1 b11 0 l.length)) (fset 12 (some (.arr 1 b12 0 l.length)) (fset 13 (some (.int .i64 (i : Nat))) (fset 76 (some (.int .i64 (l.length : Nat))) (fset 77 (some (.int .i64 (i : Nat))) (fset 110 (some (.slc 1 (ints nd.kids) true)) (fset 111 (some (.int .i64 (nd.kids.length : Nat))) (fset 112 (some (.int .i64 (j : Nat))) Z27))))))))))) ∧
          (b12, Zb.cells 1 (B.map .bool)) :: (b11, Zb.cells 1 (W.map (.int .i64))) :: σ = σ' ∧ j ≤ nd.kids.length ∧ AskI l keep want key i j W B ∧ m = nd.kids.length - j) (n := nd.kids.length)
          ⟨0, W, B, rfl, rfl, by omega, hAI, by omega⟩ ?_
        rintro m1 F σ' ⟨j, W1, B1, rfl, rfl, hj, hAJ, rfl⟩
        (repeat (first | refine st_q rfl rfl rfl ?_ | (refine Z8y ?_; (repeat (first | refine Z9v rfl ?_ | refine Z9w ?_)); refine Z9u ?_) | refine awp_seq ?_ | refine Zbm (fun _ _ => rfl) ?_))
        refine Za3 (p := (j : Int) < (nd.kids.length : Nat)) rfl (fun h4 => ?_) (fun h4 => ?_)
        · have hjl : j < nd.kids.length := by omega
          have hx : (ints nd.kids)[((j : Nat) : Int).toNat]? = some (.int .i64 ((nd.kids[j] : Nat) : Int)) := by rw [Int.toNat_natCast, ints, List.getElem?_map, List.getElem?_eq_getElem hjl]; rfl
          have hxlt := hkx _ (List.getElem_mem hjl)
          have hup := hkid rfl j W1 B1 hAJ nd.kids[j] (List.getElem?_eq_getElem hjl)
          generalize nd.kids[j] = x at hx hxlt hup
          have hWl := hAJ.lw
          have hBl := hAJ.lb
          have hwx : (W1.map (Z0.int .i64))[0 + (x : Int).toNat]? = some (.int .i64 W1[x]) := by
            rw [Nat.zero_add, Int.toNat_natCast, List.getElem?_map, List.getElem?_eq_getElem (by omega)]; rfl
          have hbx : (B1.map Z0.bool)[0 + (x : Int).toNat]? = some (.bool B1[x]) := by
            rw [Nat.zero_add, Int.toNat_natCast, List.getElem?_map, List.getElem?_eq_getElem (by omega)]; rfl
          have s1 : (W1.map (Z0.int .i64)).set (0 + (x : Int).toNat) (Z1r (.int .i64 W1[x]) 0 (Z0.int .i64 (askF nd.t.kind c (j : Int) : Nat)).cells) = (W1.set x (askF nd.t.kind c (j : Int) : Nat)).map (.int .i64) := by rw [Nat.zero_add, Int.toNat_natCast, List.map_set]; rfl
          have s2 : ∀ y : Bool, (B1.map Z0.bool).set (0 + (x : Int).toNat) (Z1r (.bool B1[x]) 0 (Z0.bool y).cells) = (B1.set x y).map .bool := fun y => by rw [Nat.zero_add, Int.toNat_natCast, List.map_set]; rfl
          have rest : ∀ y : Bool, y = (decide (nd.t.kind = 11) && decide (j = 0)) → ∀ Q : Z87, AWp Try.prog Z1wv.n (.region Z1wh [1, 2, 3, 10, 11, 12, 13, 76, 77, 110, 111, 112]) (Za9 (fun m F σ' => ∃ (j : Nat) (W : List Int) (B : List Bool), F = fset 1 (some (.slc 5 (cols.map encC) g)) (fset 2 (some (.int .i64 (n : Int))) (fset 3 (some (.slc 1 (keep.map .bool) f)) (fset 10 (some (.slc 8 (l.map encN) true)) (fset 11 (some (.arr 1 b11 0 l.length)) (fset 12 (some (.arr 1 b12 0 l.length)) (fset 13 (some (.int .i64 (i : Nat))) (fset 76 (some (.int .i64 (l.length : Nat))) (fset 77 (some (.int .i64 (i : Nat))) (fset 110 (some (.slc 1 (ints nd.kids) true)) (fset 111 (some (.int .i64 (nd.kids.length : Nat))) (fset 112 (some (.int .i64 (j : Nat))) Z27))))))))))) ∧
                (b12, Zb.cells 1 (B.map .bool)) :: (b11, Zb.cells 1 (W.map (.int .i64))) :: σ = σ' ∧ j ≤ nd.kids.length ∧ AskI l keep want key i j W B ∧ m = nd.kids.length - j) (nd.kids.length - j) Q)
              (fset 1 (some (.slc 5 (cols.map encC) g)) (fset 2 (some (.int .i64 (n : Int))) (fset 3 (some (.slc 1 (keep.map .bool) f)) (fset 10 (some (.slc 8 (l.map encN) true)) (fset 11 (some (.arr 1 b11 0 l.length)) (fset 12 (some (.arr 1 b12 0 l.length)) (fset 13 (some (.int .i64 (i : Nat))) (fset 76 (some (.int .i64 (l.length : Nat))) (fset 77 (some (.int .i64 (i : Nat))) (fset 110 (some (.slc 1 (ints nd.kids) true)) (fset 111 (some (.int .i64 (nd.kids.length : Nat))) (fset 112 (some (.int .i64 (j : Nat))) Z27))))))))))))
              ((b12, Zb.cells 1 ((B1.set x y).map .bool)) :: (b11, Zb.cells 1 ((W1.set x (askF nd.t.kind c (j : Int) : Nat)).map (.int .i64))) :: σ) := by
            intro y hy Q
            subst hy
            refine Zbp ?_
            (repeat (refine st_q rfl rfl rfl ?_))
            rw [Kwr j (by omega)]
            (refine Z8y ?_; (repeat (first | refine Z9v rfl ?_ | refine Z9w ?_)); refine Z9u ?_)
            exact ⟨_, nd.kids.length - (j + 1), HSub.refl _, ⟨j + 1, _, _, rfl, rfl, by omega, hup, rfl⟩, by omega⟩
          (repeat (first | refine st_q rfl rfl rfl ?_ | refine awp_seq ?_ | refine Zbm (fun _ _ => rfl) ?_ | refine Z8h ?_ | refine Zbn (fun _ _ => rfl) ?_))
          refine Z93 rfl (by omega) hx ?_
          (repeat (first | refine st_q rfl rfl rfl ?_ | (refine Z8y ?_; (repeat (first | refine Z9v rfl ?_ | refine Z9w ?_)); refine Z9u ?_) | refine awp_seq ?_ | refine Zbm (fun _ _ => rfl) ?_))
          refine Z93 rfl (by omega) hgN ?_
          (repeat (refine st_q rfl rfl rfl ?_))
          refine Z93 rfl (by omega) hgC ?_
          (repeat (refine st_q rfl rfl rfl ?_))
          refine Z9t rfl (hAs _ _) ?_
          refine Z94 rfl ⟨by omega, by omega⟩ ?_
          refine Z9a rfl (Z90 hne Z8z) hwx (by decide) (Kfi rfl) (fun _ => ⟨rfl, rfl⟩) (Z9c hne Z9b) ?_
          rw [s1]
          (refine Z8y ?_; (repeat (first | refine Z9v rfl ?_ | refine Z9w ?_)); refine Z9u ?_)
          refine Zbm (fun _ _ => rfl) ?_
          (repeat (refine st_q rfl rfl rfl ?_))
          refine Z93 rfl (by omega) hgN ?_
          (repeat (refine st_q rfl rfl rfl ?_))
          by_cases k11 : nd.t.kind = 11
          · (rw [decide_eq_true (p := nd.t.kind = 11) (by omega)])
            by_cases j0 : j = 0
            · (repeat (first | refine st_q rfl rfl rfl ?_ | refine Z8v rfl (st_q rfl rfl rfl ?_)))
              (rw [decide_eq_true (p := (j : Int) = 0) (by omega)])
              skip
              refine Z94 rfl ⟨by omega, by omega⟩ ?_
              refine Z9a (v := .bool true) rfl Z8z hbx (by decide) (Kfi rfl) (fun _ => ⟨rfl, rfl⟩) Z9b ?_
              rw [s2]
              (refine Z8y ?_; (repeat (first | refine Z9v rfl ?_ | refine Z9w ?_)); refine Z9u ?_)
              exact rest true (by simp [k11, j0]) _
            · (repeat (first | refine st_q rfl rfl rfl ?_ | refine Z8v rfl (st_q rfl rfl rfl ?_)))
              (rw [decide_eq_false (p := (j : Int) = 0) (by omega)])
              skip
              refine Z94 rfl ⟨by omega, by omega⟩ ?_
              refine Z9a (v := .bool false) rfl Z8z hbx (by decide) (Kfi rfl) (fun _ => ⟨rfl, rfl⟩) Z9b ?_
              rw [s2]
              (refine Z8y ?_; (repeat (first | refine Z9v rfl ?_ | refine Z9w ?_)); refine Z9u ?_)
              exact rest false (by simp [j0]) _
          · (rw [decide_eq_false (p := nd.t.kind = 11) (by omega)])
            (repeat (first | refine st_q rfl rfl rfl ?_ | refine Z8w rfl ?_))
            refine Z94 rfl ⟨by omega, by omega⟩ ?_
            refine Z9a (v := .bool false) rfl Z8z hbx (by decide) (Kfi rfl) (fun _ => ⟨rfl, rfl⟩) Z9b ?_
            rw [s2]
            (refine Z8y ?_; (repeat (first | refine Z9v rfl ?_ | refine Z9w ?_)); refine Z9u ?_)
            exact rest false (by simp [k11]) _
        · refine Zbo (fun _ _ => rfl) ?_
          (refine Z9y (keep := [1, 2, 3, 10, 11, 12, 76, 77]) ?_; ((repeat (first | refine Z9v rfl ?_ | refine Z9w ?_)); refine Z9u ?_))
          exact round W1 B1 (hnext j W1 B1 hAJ (by omega)) _
    refine Zbo (fun _ _ => rfl) ?_
    (refine Z9y (keep := [1, 2, 3, 10]) ?_; ((repeat (first | refine Z9v rfl ?_ | refine Z9w ?_)); refine Z9u ?_))
    refine Z8a (FSub.refl _) (HSub.of_sublist ((List.sublist_cons_self _ _).trans (List.sublist_cons_self _ _))) ?_
    have hrA : ∀ m : Nat, List.replicate ((m : Nat) : Int).toNat (Z0.int .i64 0) = ints (List.replicate m 0) := fun m => by rw [Int.toNat_natCast, ints, List.map_replicate]; rfl
    refine Z9z ?_
    (repeat (refine st_q rfl rfl rfl ?_))
    rw [hll]
    refine Z9l rfl (Kfi rfl) (by omega) (by omega) (by omega) (by omega) fun ba hba => ?_
    (repeat (refine st_q rfl rfl rfl ?_))
    rw [hll]
    refine Z9l rfl (Kfi rfl) (by omega) (by omega) (by omega) (by omega) fun bh hbh => ?_
    have hab : ba ≠ bh := fun e => hbh (by rw [← e]; simp [Zh])
    rw [hrA, Int.toNat_natCast]
    (repeat (refine st_q rfl rfl rfl ?_))
    refine Z9j rfl (Kfi rfl) fun bs hbs => ?_
    (repeat (refine st_q rfl rfl rfl ?_))
    (refine Z8y ?_; (repeat (first | refine Z9v rfl ?_ | refine Z9w ?_)); refine Z9u ?_)
    refine Zb3 (d := 17) (cs := Z1vu l cols keep g f ba bh) rfl ?_
    (refine Z9y (keep := [2, 3, 10, 17]) ?_; ((repeat (first | refine Z9v rfl ?_ | refine Z9w ?_)); refine Z9u ?_))
    (repeat (first | refine st_q rfl rfl rfl ?_ | refine awp_seq ?_ | refine Zbm (fun _ _ => rfl) ?_))
    refine Z9t rfl (Z1vk l hK keep hkl hW true f _) ?_
    (repeat (first | refine st_q rfl rfl rfl ?_ | (refine Z8y ?_; (repeat (first | refine Z9v rfl ?_ | refine Z9w ?_)); refine Z9u ?_) | refine awp_seq ?_ | refine Zbm (fun _ _ => rfl) ?_ | refine Zbn (fun _ _ => rfl) ?_ | refine Kc2 rfl ?_))
    refine Z9l rfl (Kfi rfl) (by omega) (by omega) (by omega) (by omega) fun bo hbo => ?_
    have hoa : bo ≠ ba := fun e => hbo (by rw [e]; simp [Zh])
    have hoh : bo ≠ bh := fun e => hbo (by rw [e]; simp [Zh])
    (repeat (first | refine st_q rfl rfl rfl ?_ | (refine Z8y ?_; (repeat (first | refine Z9v rfl ?_ | refine Z9w ?_)); refine Z9u ?_) | refine awp_seq ?_ | refine Zbm (fun _ _ => rfl) ?_ | refine Z8h ?_))
    refine Zaa (fun m F σ' => ∃ (i : Nat) (s : Tk) (us : List Vl) (bo : Nat), F = fset 17 (some (.iptr (Z1vu l cols keep g f ba bh))) (fset 18 (some (.arr 5 bo 0 (Zm5 us).length)) (fset 162 (some (.int .i64 (n : Int))) (fset 163 (some (.int .i64 (i : Nat))) Z27))) ∧
      (bo, Zb.cells 5 (Zm5 us)) :: (bh, Zb.cells 1 (ints s.he)) :: (ba, Zb.cells 1 (ints s.at_)) :: σ = σ' ∧ bo ≠ ba ∧ bo ≠ bh ∧ s.sz l.length ∧ i ≤ n ∧ us.length = i ∧ (∃ ws, takeR cols keep t (n - i) s = some (ws, sE) ∧ us ++ ws = VS) ∧ m = n - i) (n := n)
      ⟨0, ⟨List.replicate l.length 0, List.replicate l.length 0⟩, [], bo, rfl, rfl, hoa, hoh, ⟨List.length_replicate, List.length_replicate⟩, by omega, rfl, ⟨VS, hR, rfl⟩, by omega⟩ ?_
    rintro m0 F σ' ⟨i, s, us, bo', rfl, rfl, hoa', hoh', hsz, hi, hul, ⟨ws, hw, hVS⟩, rfl⟩
    (repeat (first | refine st_q rfl rfl rfl ?_ | (refine Z8y ?_; (repeat (first | refine Z9v rfl ?_ | refine Z9w ?_)); refine Z9u ?_) | refine awp_seq ?_ | refine Zbm (fun _ _ => rfl) ?_))
    refine Za3 (p := (i : Int) < (n : Int)) rfl (fun h3 => ?_) (fun h3 => ?_)
    · have hin : i < n := by omega
      rw [show n - i = (n - (i + 1)) + 1 by omega, takeR] at hw
      split at hw
      · cases hw
      rename_i v s1 ht1
      split at hw
      · cases hw
      rename_i vs s2 hw2
      simp only [Option.some.injEq, Prod.mk.injEq] at hw
      obtain ⟨rfl, rfl⟩ := hw
      have hs1 := Z1qa cols keep l.length _ _ _ _ _ ht1 hsz
      have hcall := Z1vv hT hK hC hkl hW g f ba bh hab t 0 n0 hn0 hn0t hk0 s s1 v hsz ht1 ((bo', Zb.cells 5 (Zm5 us)) :: (bh, Zb.cells 1 (ints s.he)) :: (ba, Zb.cells 1 (ints s.at_)) :: σ)
        (Z90 hoa' (Z90 (fun e => hab e.symm) Z8z)) (Z90 hoh' Z8z)
      have hHS : HS ((bo', Zb.cells 5 (Zm5 us)) :: (bh, Zb.cells 1 (ints s.he)) :: (ba, Zb.cells 1 (ints s.at_)) :: σ) ba bh s1 = (bo', Zb.cells 5 (Zm5 us)) :: (bh, Zb.cells 1 (ints s1.he)) :: (ba, Zb.cells 1 (ints s1.at_)) :: σ := by
        rw [Z1vp hoa' hoh']
        unfold HS
        rw [Z9c (fun e => hab e.symm) Z9b, Z9b]
      rw [hHS, Zm7] at hcall
      have heA : Zm5 us ++ [Z0.agg (Zm6 v)] = Zm5 (us ++ [v]) := by rw [Zm8, Zm8, List.map_append, ← Zm7]; rfl
      refine Zbn (fun _ _ => rfl) ?_
      refine awp_seq ?_
      refine Z8h ?_
      refine Zbm (fun _ _ => rfl) ?_
      (repeat (refine st_q rfl rfl rfl ?_))
      refine Z9t rfl hcall ?_
      (repeat (refine st_q rfl rfl rfl ?_))
      refine Zbs (β := [(bo', Zb.cells 5 (Zm5 us))]) (xs := Zm5 us) (ys := [.agg (Zm6 v)]) Zbr.mk rfl rfl (by rw [Zm9, List.length_singleton]; omega) fun b' hb' => ?_
      have hb1 : b' ≠ ba := fun e => hb' (by rw [e]; simp [Zh])
      have hb2 : b' ≠ bh := fun e => hb' (by rw [e]; simp [Zh])
      rw [heA]
      (repeat (refine st_q rfl rfl rfl ?_))
      (refine Z8y ?_; (repeat (first | refine Z9v rfl ?_ | refine Z9w ?_)); refine Z9u ?_)
      refine Zbp ?_
      (repeat (refine st_q rfl rfl rfl ?_))
      rw [Kwr i (by omega)]
      (refine Z8y ?_; (repeat (first | refine Z9v rfl ?_ | refine Z9w ?_)); refine Z9u ?_)
      exact ⟨_, n - (i + 1), HSub.refl _, ⟨i + 1, s1, us ++ [v], b', rfl, rfl, hb1, hb2, hs1, by omega, by rw [List.length_append, List.length_singleton, hul], ⟨vs, hw2, by rw [List.append_assoc]; exact hVS⟩, rfl⟩, by omega⟩
    · rw [show n - i = 0 by omega, takeR] at hw
      simp only [Option.some.injEq, Prod.mk.injEq] at hw
      obtain ⟨rfl, rfl⟩ := hw
      rw [List.append_nil] at hVS
      subst hVS
      (repeat (first | refine st_q rfl rfl rfl ?_ | (refine Z8y ?_; (repeat (first | refine Z9v rfl ?_ | refine Z9w ?_)); refine Z9u ?_) | refine awp_seq ?_ | refine Zbm (fun _ _ => rfl) ?_ | refine Zbo (fun _ _ => rfl) ?_))
      refine Zb1 (d := 8) (xs := Zm5 us) rfl ?_
      refine Z8d ?_
      exact ares rfl (HSub.of_sublist ((List.sublist_cons_self _ _).trans (List.sublist_cons_self _ _))) ⟨rfl, rfl⟩
  rcases hkb with ⟨rfl, hkr⟩ | ⟨hkr, hne⟩
  · rw [show decide ((0 : Int) < (([] : List Bool).length : Nat)) = false from rfl]
    (repeat (first | refine st_q rfl rfl rfl ?_ | refine Z8v rfl (st_q rfl rfl rfl ?_) | refine Z8w rfl ?_ | refine Z8x rfl ?_))
    (refine Z8y ?_; (repeat (first | refine Z9v rfl ?_ | refine Z9w ?_)); refine Z9u ?_)
    refine Kc2 rfl ?_
    refine Za4 ?_
    (repeat (first | refine st_q rfl rfl rfl ?_ | (refine Z8y ?_; (repeat (first | refine Z9v rfl ?_ | refine Z9w ?_)); refine Z9u ?_) | refine awp_seq ?_ | refine Zbm (fun _ _ => rfl) ?_ | refine Kc1 rfl ?_))
    rw [hll]
    refine Z9t rfl (Z1vj l.length (by omega) (by omega) true _) ?_
    (repeat (refine st_q rfl rfl rfl ?_))
    (refine Z8y ?_; (repeat (first | refine Z9v rfl ?_ | refine Z9w ?_)); refine Z9u ?_)
    have := main false
    rw [hkr, List.map_replicate] at this
    exact this
  · subst hkr
    have hk1 : 0 < keep.length := by omega
    have hg0 : (keep.map Z0.bool)[(0 : Int).toNat]? = some (.bool true) := by
      have h := List.getElem?_eq_getElem hk1
      rw [List.getD_eq_getElem?_getD, h, Option.getD_some] at hk0
      show (keep.map Z0.bool)[0]? = _
      rw [List.getElem?_map, h, hk0]; rfl
    (rw [decide_eq_true (p := (0 : Int) < (keep.length : Nat)) (by omega)])
    (repeat refine Z8v rfl (st_q rfl rfl rfl ?_))
    rw [hbl, hll]
    (rw [decide_eq_false (p := (keep.length : Int) ≠ (l.length : Int)) (by omega)])
    (repeat refine Z8v rfl (st_q rfl rfl rfl ?_))
    refine Z8v rfl (Z93 rfl (by omega) hg0 ?_)
    (repeat (first | refine st_q rfl rfl rfl ?_ | refine Z8v rfl (st_q rfl rfl rfl ?_)))
    (refine Z8y ?_; (repeat (first | refine Z9v rfl ?_ | refine Z9w ?_)); refine Z9u ?_)
    refine Kc2 rfl ?_
    refine Za4 ?_
    refine awp_seq ?_
    refine awp_seq ?_
    refine Zbm (fun _ _ => rfl) ?_
    (repeat (refine st_q rfl rfl rfl ?_))
    rw [hbl]
    (rw [decide_eq_false (p := (keep.length : Int) = 0) (by omega)])
    (refine Z8y ?_; (repeat (first | refine Z9v rfl ?_ | refine Z9w ?_)); refine Z9u ?_)
    refine Kc2 rfl ?_
    refine Zbn (fun _ _ => rfl) ?_
    (refine Z9y (keep := [1, 2, 3, 10]) ?_; ((repeat (first | refine Z9v rfl ?_ | refine Z9w ?_)); refine Z9u ?_))
    exact main f
end Go.Abs

