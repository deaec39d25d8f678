/- Part T of a proof: merged by program. -/
import Derived.Test.YtgmefkhincnajaaPkQ
import Derived.Test.YtgmefkhincnajaaProg
import Derived.KernelRfl
namespace Go.Abs
open Go
def Z1vw : List Z2a := [
  ⟨some 4,(.box 6),[.t 0],none⟩,⟨some 8,.mov,[.c (.slc 0 [] true)],none⟩,⟨some 9,.mov,[.c (.int .i64 0)],none⟩]
def Z1vx : List Z2a := [
  ⟨some 19,(.load true 6),[.t 4],none⟩,⟨some 20,(.call Zcs),[.t 19],none⟩,⟨some 10,.mov,[.t 20],none⟩]
def Z1vy : List Z2a := [
  ⟨some 21,.mov,[.t 10],none⟩,⟨some 22,.lens,[.t 21],none⟩,⟨some 23,(.bin .eql),[.t 22,.c (.int .i64 0)],none⟩,⟨some 24,.mov,[.t 23],none⟩,⟨some 25,.mov,[.t 2],some (24,false)⟩,⟨some 26,(.bin .lss),[.t 25,.c (.int .i64 0)],some (24,false)⟩,⟨some 27,.pick,[.t 24,.c (.bool true),.t 26],none⟩,⟨some 28,.mov,[.t 27],none⟩,⟨some 29,.mov,[.t 2],some (28,false)⟩,⟨some 30,(.bin .gtr),[.t 29,.c (.int .i64 4096)],some (28,false)⟩,⟨some 31,.pick,[.t 28,.c (.bool true),.t 30],none⟩,⟨some 32,.mov,[.t 31],none⟩,⟨some 33,.mov,[.t 1],some (32,false)⟩,⟨some 34,.lens,[.t 33],some (32,false)⟩,⟨some 35,.mov,[.t 10],some (32,false)⟩,⟨some 36,.lens,[.t 35],some (32,false)⟩,⟨some 37,(.bin .neq),[.t 34,.t 36],some (32,false)⟩,⟨some 38,.pick,[.t 32,.c (.bool true),.t 37],none⟩,⟨some 39,.mov,[.t 38],none⟩,⟨some 40,.mov,[.t 3],some (39,false)⟩,⟨some 41,.lens,[.t 40],some (39,false)⟩,⟨some 42,(.bin .gtr),[.t 41,.c (.int .i64 0)],some (39,false)⟩,⟨some 43,.mov,[.t 42],some (39,false)⟩,⟨some 44,.mov,[.t 3],some (43,true)⟩,⟨some 45,.lens,[.t 44],some (43,true)⟩,⟨some 46,.mov,[.t 10],some (43,true)⟩,⟨some 47,.lens,[.t 46],some (43,true)⟩,⟨some 48,(.bin .neq),[.t 45,.t 47],some (43,true)⟩,⟨some 49,.mov,[.t 48],some (43,true)⟩,⟨some 50,.mov,[.t 3],some (49,false)⟩,⟨some 51,(.iad 1),[.t 50,.c (.int .i64 0)],some (49,false)⟩,⟨some 52,(.load false 1),[.t 51],some (49,false)⟩,⟨some 53,.unot,[.t 52],some (49,false)⟩,⟨some 54,.pick,[.t 49,.c (.bool true),.t 53],some (43,true)⟩,⟨some 55,.pick,[.t 43,.t 54,.c (.bool false)],some (39,false)⟩,⟨some 56,.pick,[.t 39,.c (.bool true),.t 55],none⟩]
def Z1vz : List Z2a := [
  ⟨some 8,.mov,[.c (.slc 0 [] true)],none⟩,⟨some 9,.mov,[.c (.int .i64 1)],none⟩]
def Z1w0 : List Z2a := [
  ⟨some 57,.mov,[.t 3],none⟩,⟨some 58,.lens,[.t 57],none⟩,⟨some 59,(.bin .eql),[.t 58,.c (.int .i64 0)],none⟩]
def Z1w1 : List Z2a := [
  ⟨some 60,(.bsl 1),[.c (.bool true)],none⟩,⟨some 61,.mov,[.t 10],none⟩,⟨some 62,.lens,[.t 61],none⟩,⟨some 63,(.call Zez),[.t 60,.t 62],none⟩,⟨some 3,.mov,[.t 63],none⟩]
def Z1w2 : List Z2a := [
  ⟨some 64,.mov,[.t 10],none⟩,⟨some 65,.lens,[.t 64],none⟩,⟨some 66,(.mks 1 8 (.int .i64 0)),[.t 65,.t 65],none⟩,⟨some 11,.mov,[.t 66],none⟩]
def Z1w3 : List Z2a := [
  ⟨some 67,.mov,[.t 10],none⟩,⟨some 68,.lens,[.t 67],none⟩,⟨some 69,(.mks 1 1 (.bool false)),[.t 68,.t 68],none⟩,⟨some 12,.mov,[.t 69],none⟩]
def Z1w4 : List Z2a := [
  ⟨some 70,.mov,[.t 11],none⟩,⟨some 71,.mov,[.t 12],none⟩,⟨some 72,.mov,[.t 2],none⟩,⟨some 73,(.iad 1),[.t 70,.c (.int .i64 0)],none⟩,⟨none,(.store 1),[.t 73,.t 72],none⟩,⟨some 74,(.iad 1),[.t 71,.c (.int .i64 0)],none⟩,⟨none,(.store 1),[.t 74,.c (.bool true)],none⟩]
def Z1w5 : List Z2a := [
  ⟨some 75,.mov,[.t 10],none⟩,⟨some 76,.lens,[.t 75],none⟩,⟨some 77,.mov,[.c (.int .i64 0)],none⟩]
def Z1w6 : List Z2a := [
  ⟨some 78,(.bin .lss),[.t 77,.t 76],none⟩]
def Z1w7 : List Z2a := [
  ⟨some 79,.mov,[.t 77],none⟩,⟨some 13,.mov,[.t 79],none⟩]
def Z1w8 : List Z2a := [
  ⟨some 80,.mov,[.t 3],none⟩,⟨some 81,.mov,[.t 13],none⟩,⟨some 82,(.iad 1),[.t 80,.t 81],none⟩,⟨some 83,(.load false 1),[.t 82],none⟩,⟨some 84,.unot,[.t 83],none⟩]
def Z1w9 : List Z2a := [
  ⟨some 85,.mov,[.t 10],none⟩,⟨some 86,.mov,[.t 13],none⟩,⟨some 87,(.iad 8),[.t 85,.t 86],none⟩,⟨some 88,(.load true 8),[.t 87],none⟩,⟨some 89,.mov,[.t 1],none⟩,⟨some 90,.mov,[.t 13],none⟩,⟨some 91,(.iad 5),[.t 89,.t 90],none⟩,⟨some 92,(.load true 5),[.t 91],none⟩,⟨some 93,.mov,[.t 11],none⟩,⟨some 94,.mov,[.t 13],none⟩,⟨some 95,(.iad 1),[.t 93,.t 94],none⟩,⟨some 96,(.load false 1),[.t 95],none⟩,⟨some 97,.mov,[.t 12],none⟩,⟨some 98,.mov,[.t 13],none⟩,⟨some 99,(.iad 1),[.t 97,.t 98],none⟩,⟨some 100,(.load false 1),[.t 99],none⟩,⟨some 101,.unot,[.t 100],none⟩,⟨some 102,(.call Zf0),[.t 88,.t 92,.t 96,.t 101],none⟩,⟨some 14,.mov,[.t 102],none⟩]
def Z1wa : List Z2a := [
  ⟨some 103,.mov,[.t 14],none⟩,⟨some 104,(.bin .neq),[.t 103,.c (.int .i64 0)],none⟩]
def Z1wb : List Z2a := [
  ⟨some 105,.mov,[.t 14],none⟩,⟨some 8,.mov,[.c (.slc 0 [] true)],none⟩,⟨some 9,.mov,[.t 105],none⟩]
def Z1wc : List Z2a := [
  ⟨some 106,.mov,[.t 10],none⟩,⟨some 107,.mov,[.t 13],none⟩,⟨some 108,(.iad 8),[.t 106,.t 107],none⟩,⟨some 109,(.fad 1),[.t 108],none⟩,⟨some 110,(.load false 1),[.t 109],none⟩,⟨some 111,.lens,[.t 110],none⟩,⟨some 112,.mov,[.c (.int .i64 0)],none⟩]
def Z1wd : List Z2a := [
  ⟨some 113,(.bin .lss),[.t 112,.t 111],none⟩]
def Z1we : List Z2a := [
  ⟨some 114,.mov,[.t 112],none⟩,⟨some 115,(.iad 1),[.t 110,.t 112],none⟩,⟨some 116,(.load false 1),[.t 115],none⟩,⟨some 15,.mov,[.t 114],none⟩,⟨some 16,.mov,[.t 116],none⟩]
def Z1wf : List Z2a := [
  ⟨some 117,.mov,[.t 11],none⟩,⟨some 118,.mov,[.t 16],none⟩,⟨some 119,.mov,[.t 10],none⟩,⟨some 120,.mov,[.t 13],none⟩,⟨some 121,(.iad 8),[.t 119,.t 120],none⟩,⟨some 122,(.load true 8),[.t 121],none⟩,⟨some 123,.mov,[.t 1],none⟩,⟨some 124,.mov,[.t 13],none⟩,⟨some 125,(.iad 5),[.t 123,.t 124],none⟩,⟨some 126,(.load true 5),[.t 125],none⟩,⟨some 127,.mov,[.t 15],none⟩,⟨some 128,(.call Zex),[.t 122,.t 126,.t 127],none⟩,⟨some 129,(.iad 1),[.t 117,.t 118],none⟩,⟨none,(.store 1),[.t 129,.t 128],none⟩]
def Z1wg : List Z2a := [
  ⟨some 130,.mov,[.t 12],none⟩,⟨some 131,.mov,[.t 16],none⟩,⟨some 132,.mov,[.t 10],none⟩,⟨some 133,.mov,[.t 13],none⟩,⟨some 134,(.iad 8),[.t 132,.t 133],none⟩,⟨some 135,(.fad 0),[.t 134],none⟩,⟨some 136,(.load false 1),[.t 135],none⟩,⟨some 137,(.bin .eql),[.t 136,.c (.int .i64 11)],none⟩,⟨some 138,.mov,[.t 137],none⟩,⟨some 139,.mov,[.t 15],some (138,true)⟩,⟨some 140,(.bin .eql),[.t 139,.c (.int .i64 0)],some (138,true)⟩,⟨some 141,.pick,[.t 138,.t 140,.c (.bool false)],none⟩,⟨some 142,(.iad 1),[.t 130,.t 131],none⟩,⟨none,(.store 1),[.t 142,.t 141],none⟩]
def Z1wh : List Z2a := [
  ⟨some 143,(.bin .add),[.t 112,.c (.int .i64 1)],none⟩,⟨some 112,.mov,[.t 143],none⟩]
def Z1wi : Z2b := (.seq (.region Z1wd [1,2,3,10,11,12,13,76,77,110,111,112,113]) (.seq (.cond (.t 113) .skip (.exit 2)) (.seq (.block 3 (.seq (.region Z1we [1,2,3,10,11,12,13,15,16,76,77,110,111,112]) (.seq (.region Z1wf [1,2,3,10,11,12,13,15,16,76,77,110,111,112]) (.region Z1wg [1,2,3,10,11,12,13,76,77,110,111,112])))) (.region Z1wh [1,2,3,10,11,12,13,76,77,110,111,112]))))
def Z1wj : List Z2a := [
  ⟨some 144,(.bin .add),[.t 77,.c (.int .i64 1)],none⟩,⟨some 77,.mov,[.t 144],none⟩]
def Z1wk : Z2b := (.seq (.region Z1w6 [1,2,3,10,11,12,76,77,78]) (.seq (.cond (.t 78) .skip (.exit 0)) (.seq (.block 1 (.seq (.region Z1w7 [1,2,3,10,11,12,13,76,77]) (.seq (.seq (.region Z1w8 [1,2,3,10,11,12,13,76,77,84]) (.cond (.t 84) (.exit 1) .skip)) (.seq (.seq (.region Z1w9 [1,2,3,10,11,12,13,14,76,77]) (.seq (.region Z1wa [1,2,3,10,11,12,13,14,76,77,104]) (.cond (.t 104) (.seq (.region Z1wb [8,9]) .ret) .skip))) (.seq (.region Z1wc [1,2,3,10,11,12,13,76,77,110,111,112]) (.block 2 (.loop Z1wi))))))) (.region Z1wj [1,2,3,10,11,12,76,77]))))
def Z1wl : List Z2a := [
  ⟨some 145,.mov,[.t 10],none⟩,⟨some 146,.mov,[.t 1],none⟩,⟨some 147,.mov,[.t 3],none⟩,⟨some 148,.mov,[.t 10],none⟩,⟨some 149,.lens,[.t 148],none⟩,⟨some 150,(.mks 1 8 (.int .i64 0)),[.t 149,.t 149],none⟩,⟨some 151,.mov,[.t 10],none⟩,⟨some 152,.lens,[.t 151],none⟩,⟨some 153,(.mks 1 8 (.int .i64 0)),[.t 152,.t 152],none⟩,⟨some 154,(.bld [(.slc 0 [] true),(.slc 0 [] true),(.slc 0 [] true),(.slc 0 [] true),(.slc 0 [] true)] [(0,1),(1,1),(2,1),(3,1),(4,1)]),[.t 145,.t 146,.t 147,.t 150,.t 153],none⟩,⟨some 155,(.box 5),[.t 154],none⟩,⟨some 17,.mov,[.t 155],none⟩]
def Z1wm : List Z2a := [
  ⟨some 156,.mov,[.t 10],none⟩,⟨some 157,.mov,[.t 3],none⟩,⟨some 158,(.call Zf1),[.t 156,.t 157],none⟩,⟨some 159,.unot,[.t 158],none⟩]
def Z1wn : List Z2a := [
  ⟨some 8,.mov,[.c (.slc 0 [] true)],none⟩,⟨some 9,.mov,[.c (.int .i64 1)],none⟩]
def Z1wo : List Z2a := [
  ⟨some 160,.mov,[.t 2],none⟩,⟨some 161,(.mks 5 72 (.agg [(.bool false),(.int .i64 0),(.int .i64 0),(.slc 0 [] true),(.slc 0 [] true)])),[.c (.int .i64 0),.t 160],none⟩,⟨some 18,.mov,[.t 161],none⟩]
def Z1wp : List Z2a := [
  ⟨some 162,.mov,[.t 2],none⟩,⟨some 163,.mov,[.c (.int .i64 0)],none⟩]
def Z1wq : List Z2a := [
  ⟨some 164,(.bin .lss),[.t 163,.t 162],none⟩]
def Z1wr : List Z2a := [
  ⟨some 165,.mov,[.t 18],none⟩,⟨some 166,.mov,[.t 17],none⟩,⟨some 167,(.call Zf2),[.t 166,.c (.int .i64 0)],none⟩,⟨some 168,(.bsl 5),[.t 167],none⟩,⟨some 169,(.app 5 72),[.t 165,.t 168],none⟩,⟨some 18,.mov,[.t 169],none⟩]
def Z1ws : List Z2a := [
  ⟨some 170,(.bin .add),[.t 163,.c (.int .i64 1)],none⟩,⟨some 163,.mov,[.t 170],none⟩]
def Z1wt : Z2b := (.seq (.region Z1wq [17,18,162,163,164]) (.seq (.cond (.t 164) .skip (.exit 4)) (.seq (.block 5 (.region Z1wr [17,18,162,163])) (.region Z1ws [17,18,162,163]))))
def Z1wu : List Z2a := [
  ⟨some 171,.mov,[.t 18],none⟩,⟨some 8,.mov,[.t 171],none⟩,⟨some 9,.mov,[.c (.int .i64 0)],none⟩]
def Z1wv : Z2y := ⟨172,(.seq (.region Z1vw [1,2,3,4]) (.seq (.region Z1vx [1,2,3,10]) (.seq (.seq (.region Z1vy [1,2,3,10,56]) (.cond (.t 56) (.seq (.region Z1vz [8,9]) .ret) .skip)) (.seq (.seq (.region Z1w0 [1,2,3,10,59]) (.cond (.t 59) (.region Z1w1 [1,2,3,10]) .skip)) (.seq (.region Z1w2 [1,2,3,10,11]) (.seq (.region Z1w3 [1,2,3,10,11,12]) (.seq (.region Z1w4 [1,2,3,10,11,12]) (.seq (.seq (.region Z1w5 [1,2,3,10,11,12,76,77]) (.block 0 (.loop Z1wk))) (.seq (.region Z1wl [2,3,10,17]) (.seq (.seq (.region Z1wm [2,17,159]) (.cond (.t 159) (.seq (.region Z1wn [8,9]) .ret) .skip)) (.seq (.region Z1wo [2,17,18]) (.seq (.seq (.region Z1wp [17,18,162,163]) (.block 4 (.loop Z1wt))) (.seq (.region Z1wu [8,9]) .ret))))))))))))),[.t 8,.t 9]⟩
def Z22g : List Z2a := [
  ⟨some 4,.mov,[.c (.slc 0 [] true)],none⟩,⟨some 5,.mov,[.c (.int .i64 0)],none⟩]
def Z22h : List Z2a := [
  ⟨some 10,.mov,[.t 0],none⟩,⟨some 11,.lens,[.t 10],none⟩,⟨some 12,(.mks 1 1 (.bool false)),[.t 11,.t 11],none⟩,⟨some 6,.mov,[.t 12],none⟩]
def Z22i : List Z2a := [
  ⟨some 7,.mov,[.c (.int .i64 0)],none⟩]
def Z22j : List Z2a := [
  ⟨some 13,.mov,[.t 7],none⟩,⟨some 14,.mov,[.t 1],none⟩,⟨some 15,.lens,[.t 14],none⟩,⟨some 16,(.bin .lss),[.t 13,.t 15],none⟩]
def Z22k : List Z2a := [
  ⟨some 19,.mov,[.t 1],none⟩,⟨some 20,.mov,[.t 7],none⟩,⟨some 21,(.iad 1),[.t 19,.t 20],none⟩,⟨some 22,(.load false 1),[.t 21],none⟩,⟨some 23,(.bin .lss),[.t 22,.c (.int .i64 0)],none⟩,⟨some 24,.mov,[.t 23],none⟩,⟨some 25,.mov,[.t 1],some (24,false)⟩,⟨some 26,.mov,[.t 7],some (24,false)⟩,⟨some 27,(.iad 1),[.t 25,.t 26],some (24,false)⟩,⟨some 28,(.load false 1),[.t 27],some (24,false)⟩,⟨some 29,.mov,[.t 0],some (24,false)⟩,⟨some 30,.lens,[.t 29],some (24,false)⟩,⟨some 31,(.bin .geq),[.t 28,.t 30],some (24,false)⟩,⟨some 32,.pick,[.t 24,.c (.bool true),.t 31],none⟩]
def Z22l : List Z2a := [
  ⟨some 4,.mov,[.c (.slc 0 [] true)],none⟩,⟨some 5,.mov,[.c (.int .i64 1)],none⟩]
def Z22m : List Z2a := [
  ⟨some 17,.mov,[.t 7],none⟩,⟨some 18,(.bin .add),[.t 17,.c (.int .i64 1)],none⟩,⟨some 7,.mov,[.t 18],none⟩]
def Z22n : Z2b := (.seq (.seq (.region Z22j [0,1,6,7,16,25,26,27,28,29,30,31]) (.cond (.t 16) .skip (.exit 0))) (.seq (.block 1 (.seq (.region Z22k [0,1,6,7,25,26,27,28,29,30,31,32]) (.cond (.t 32) (.seq (.region Z22l [4,5]) .ret) .skip))) (.region Z22m [0,1,6,7,25,26,27,28,29,30,31])))
def Z22o : List Z2a := [
  ⟨some 8,.mov,[.c (.int .i64 0)],none⟩]
def Z22p : List Z2a := [
  ⟨some 33,.mov,[.t 8],none⟩,⟨some 34,.mov,[.t 1],none⟩,⟨some 35,.lens,[.t 34],none⟩,⟨some 36,(.bin .lss),[.t 33,.t 35],none⟩]
def Z22q : List Z2a := [
  ⟨some 39,.mov,[.t 0],none⟩,⟨some 40,.mov,[.t 6],none⟩,⟨some 41,.mov,[.t 1],none⟩,⟨some 42,.mov,[.t 8],none⟩,⟨some 43,(.iad 1),[.t 41,.t 42],none⟩,⟨some 44,(.load false 1),[.t 43],none⟩,⟨some 45,(.call Zf4),[.t 39,.t 40,.t 44],none⟩]
def Z22r : List Z2a := [
  ⟨some 46,.mov,[.t 1],none⟩,⟨some 47,.mov,[.t 8],none⟩,⟨some 48,(.iad 1),[.t 46,.t 47],none⟩,⟨some 49,(.load false 1),[.t 48],none⟩,⟨some 9,.mov,[.t 49],none⟩]
def Z22s : List Z2a := [
  ⟨some 50,.mov,[.t 9],none⟩,⟨some 51,(.bin .geq),[.t 50,.c (.int .i64 0)],none⟩]
def Z22t : List Z2a := [
  ⟨some 57,.mov,[.t 0],none⟩,⟨some 58,.mov,[.t 9],none⟩,⟨some 59,(.iad 9),[.t 57,.t 58],none⟩,⟨some 60,(.fad 0),[.t 59],none⟩,⟨some 61,(.fad 0),[.t 60],none⟩,⟨some 62,(.load false 1),[.t 61],none⟩,⟨some 63,(.bin .neq),[.t 62,.c (.int .i64 12)],none⟩]
def Z22u : List Z2a := [
  ⟨some 64,.mov,[.t 0],none⟩,⟨some 65,.mov,[.t 6],none⟩,⟨some 66,.mov,[.t 9],none⟩,⟨some 67,(.call Zf4),[.t 64,.t 65,.t 66],none⟩]
def Z22v : List Z2a := [
  ⟨some 68,.mov,[.t 6],none⟩,⟨some 69,.mov,[.t 9],none⟩,⟨some 70,(.iad 1),[.t 68,.t 69],none⟩,⟨none,(.store 1),[.t 70,.c (.bool true)],none⟩]
def Z22w : List Z2a := [
  ⟨some 52,.mov,[.t 0],none⟩,⟨some 53,.mov,[.t 9],none⟩,⟨some 54,(.iad 9),[.t 52,.t 53],none⟩,⟨some 55,(.fad 7),[.t 54],none⟩,⟨some 56,(.load false 1),[.t 55],none⟩,⟨some 9,.mov,[.t 56],none⟩]
def Z22x : Z2b := (.seq (.seq (.region Z22s [0,1,6,8,9,51]) (.cond (.t 51) .skip (.exit 4))) (.seq (.block 5 (.seq (.seq (.region Z22t [0,1,6,8,9,63]) (.cond (.t 63) (.region Z22u [0,1,6,8,9]) .skip)) (.region Z22v [0,1,6,8,9]))) (.region Z22w [0,1,6,8,9])))
def Z22y : List Z2a := [
  ⟨some 37,.mov,[.t 8],none⟩,⟨some 38,(.bin .add),[.t 37,.c (.int .i64 1)],none⟩,⟨some 8,.mov,[.t 38],none⟩]
def Z22z : Z2b := (.seq (.seq (.region Z22p [0,1,6,8,36]) (.cond (.t 36) .skip (.exit 2))) (.seq (.block 3 (.seq (.region Z22q [0,1,6,8]) (.seq (.region Z22r [0,1,6,8,9]) (.block 4 (.loop Z22x))))) (.region Z22y [0,1,6,8])))
def Z230 : List Z2a := [
  ⟨some 71,.mov,[.t 6],none⟩,⟨some 4,.mov,[.t 71],none⟩,⟨some 5,.mov,[.c (.int .i64 0)],none⟩]
def Z231 : Z2y := ⟨72,(.seq (.region Z22g [0,1,25,26,27,28,29,30,31]) (.seq (.region Z22h [0,1,6,25,26,27,28,29,30,31]) (.seq (.seq (.region Z22i [0,1,6,7,25,26,27,28,29,30,31]) (.block 0 (.loop Z22n))) (.seq (.seq (.region Z22o [0,1,6,8]) (.block 2 (.loop Z22z))) (.seq (.region Z230 [4,5]) .ret))))),[.t 4,.t 5]⟩
def Z232 : List Z2a := [
  ⟨some 7,.mov,[.t 1],none⟩,⟨some 8,.mov,[.t 2],none⟩,⟨some 9,(.iad 1),[.t 7,.t 8],none⟩,⟨none,(.store 1),[.t 9,.c (.bool true)],none⟩]
def Z233 : List Z2a := [
  ⟨some 6,.mov,[.c (.int .i64 0)],none⟩]
def Z234 : List Z2a := [
  ⟨some 10,.mov,[.t 6],none⟩,⟨some 11,.mov,[.t 0],none⟩,⟨some 12,.mov,[.t 2],none⟩,⟨some 13,(.iad 9),[.t 11,.t 12],none⟩,⟨some 14,(.fad 6),[.t 13],none⟩,⟨some 15,(.load false 1),[.t 14],none⟩,⟨some 16,.lens,[.t 15],none⟩,⟨some 17,(.bin .lss),[.t 10,.t 16],none⟩]
def Z235 : List Z2a := [
  ⟨some 20,.mov,[.t 0],none⟩,⟨some 21,.mov,[.t 1],none⟩,⟨some 22,.mov,[.t 0],none⟩,⟨some 23,.mov,[.t 2],none⟩,⟨some 24,(.iad 9),[.t 22,.t 23],none⟩,⟨some 25,(.fad 6),[.t 24],none⟩,⟨some 26,(.load false 1),[.t 25],none⟩,⟨some 27,.mov,[.t 6],none⟩,⟨some 28,(.iad 1),[.t 26,.t 27],none⟩,⟨some 29,(.load false 1),[.t 28],none⟩,⟨some 30,(.call Zf4),[.t 20,.t 21,.t 29],none⟩]
def Z236 : List Z2a := [
  ⟨some 18,.mov,[.t 6],none⟩,⟨some 19,(.bin .add),[.t 18,.c (.int .i64 1)],none⟩,⟨some 6,.mov,[.t 19],none⟩]
def Z237 : Z2b := (.seq (.seq (.region Z234 [0,1,2,6,17]) (.cond (.t 17) .skip (.exit 0))) (.seq (.block 1 (.region Z235 [0,1,2,6])) (.region Z236 [0,1,2,6])))
def Z238 : Z2y := ⟨31,(.seq (.region Z232 [0,1,2]) (.seq (.region Z233 [0,1,2,6]) (.block 0 (.loop Z237)))),[]⟩
def Z239 : List Z2a := [
  ⟨some 7,(.box 5),[.t 3],none⟩,⟨some 8,(.alloc (.agg [(.bool false),(.int .i64 0),(.int .i64 0),(.slc 0 [] true),(.slc 0 [] true)])),[],none⟩]
def Z23a : List Z2a := [
  ⟨some 12,(.fad 0),[.t 7],none⟩,⟨some 13,(.load false 1),[.t 12],none⟩,⟨some 14,.mov,[.t 13],none⟩,⟨some 15,.mov,[.t 0],some (14,false)⟩,⟨some 16,.mov,[.t 2],some (14,false)⟩,⟨some 17,(.iad 9),[.t 15,.t 16],some (14,false)⟩,⟨some 18,(.fad 0),[.t 17],some (14,false)⟩,⟨some 19,(.fad 0),[.t 18],some (14,false)⟩,⟨some 20,(.load false 1),[.t 19],some (14,false)⟩,⟨some 21,(.bin .neq),[.t 20,.c (.int .i64 12)],some (14,false)⟩,⟨some 22,.pick,[.t 14,.c (.bool true),.t 21],none⟩]
def Z23b : List Z2a := [
  ⟨some 23,(.load true 5),[.t 7],none⟩,⟨none,(.store 5),[.t 8,.t 23],none⟩]
def Z23c : List Z2a := [
  ⟨some 24,(.bld [(.bool false),(.int .i64 0),(.int .i64 0),(.slc 0 [] true),(.slc 0 [] true)] []),[],none⟩,⟨some 9,(.alloc (.agg [(.bool false),(.int .i64 0),(.int .i64 0),(.slc 0 [] true),(.slc 0 [] true)])),[],none⟩,⟨none,(.store 5),[.t 9,.t 24],none⟩]
def Z23d : List Z2a := [
  ⟨some 10,.mov,[.c (.int .i64 0)],none⟩]
def Z23e : List Z2a := [
  ⟨some 25,.mov,[.t 10],none⟩,⟨some 26,.mov,[.t 0],none⟩,⟨some 27,.mov,[.t 2],none⟩,⟨some 28,(.iad 9),[.t 26,.t 27],none⟩,⟨some 29,(.fad 6),[.t 28],none⟩,⟨some 30,(.load false 1),[.t 29],none⟩,⟨some 31,.lens,[.t 30],none⟩,⟨some 32,(.bin .lss),[.t 25,.t 31],none⟩,⟨some 33,.mov,[.t 32],none⟩,⟨some 34,.mov,[.t 10],some (33,true)⟩,⟨some 35,(.fad 4),[.t 7],some (33,true)⟩,⟨some 36,(.load false 1),[.t 35],some (33,true)⟩,⟨some 37,.lens,[.t 36],some (33,true)⟩,⟨some 38,(.bin .lss),[.t 34,.t 37],some (33,true)⟩,⟨some 39,.pick,[.t 33,.t 38,.c (.bool false)],none⟩]
def Z23f : List Z2a := [
  ⟨some 42,.mov,[.t 0],none⟩,⟨some 43,.mov,[.t 2],none⟩,⟨some 44,(.iad 9),[.t 42,.t 43],none⟩,⟨some 45,(.fad 6),[.t 44],none⟩,⟨some 46,(.load false 1),[.t 45],none⟩,⟨some 47,.mov,[.t 10],none⟩,⟨some 48,(.iad 1),[.t 46,.t 47],none⟩,⟨some 49,(.load false 1),[.t 48],none⟩,⟨some 11,.mov,[.t 49],none⟩]
def Z23g : List Z2a := [
  ⟨some 50,.mov,[.t 11],none⟩,⟨some 51,.mov,[.t 1],none⟩,⟨some 52,.lens,[.t 51],none⟩,⟨some 53,(.bin .lss),[.t 50,.t 52],none⟩,⟨some 54,.mov,[.t 53],none⟩,⟨some 55,.mov,[.t 1],some (54,true)⟩,⟨some 56,.mov,[.t 11],some (54,true)⟩,⟨some 57,(.iad 1),[.t 55,.t 56],some (54,true)⟩,⟨some 58,(.load false 1),[.t 57],some (54,true)⟩,⟨some 59,.pick,[.t 54,.t 58,.c (.bool false)],none⟩]
def Z23h : List Z2a := [
  ⟨some 60,(.fad 4),[.t 9],none⟩,⟨some 61,(.load false 1),[.t 60],none⟩,⟨some 62,.mov,[.t 0],none⟩,⟨some 63,.mov,[.t 1],none⟩,⟨some 64,.mov,[.t 11],none⟩,⟨some 65,(.fad 4),[.t 7],none⟩,⟨some 66,(.load false 1),[.t 65],none⟩,⟨some 67,.mov,[.t 10],none⟩,⟨some 68,(.iad 5),[.t 66,.t 67],none⟩,⟨some 69,(.load true 5),[.t 68],none⟩,⟨some 70,(.callp Zdw),[.t 62,.t 63,.t 64,.t 69],none⟩,⟨some 71,(.bsl 5),[.t 70],none⟩,⟨some 72,(.app 5 72),[.t 61,.t 71],none⟩,⟨some 73,(.fad 4),[.t 9],none⟩,⟨none,(.store 1),[.t 73,.t 72],none⟩]
def Z23i : List Z2a := [
  ⟨some 40,.mov,[.t 10],none⟩,⟨some 41,(.bin .add),[.t 40,.c (.int .i64 1)],none⟩,⟨some 10,.mov,[.t 41],none⟩]
def Z23j : Z2b := (.seq (.seq (.region Z23e [0,1,2,7,8,9,10,39]) (.cond (.t 39) .skip (.exit 0))) (.seq (.block 1 (.seq (.region Z23f [0,1,2,7,8,9,10,11]) (.seq (.region Z23g [0,1,2,7,8,9,10,11,59]) (.cond (.t 59) (.region Z23h [0,1,2,7,8,9,10]) .skip)))) (.region Z23i [0,1,2,7,8,9,10])))
def Z23k : List Z2a := [
  ⟨some 74,(.load true 5),[.t 9],none⟩,⟨none,(.store 5),[.t 8,.t 74],none⟩]
def Z23l : Z2y := ⟨75,(.seq (.region Z239 [0,1,2,7,8]) (.seq (.seq (.region Z23a [0,1,2,7,8,22]) (.cond (.t 22) (.seq (.region Z23b [8]) .ret) .skip)) (.seq (.region Z23c [0,1,2,7,8,9]) (.seq (.seq (.region Z23d [0,1,2,7,8,9,10]) (.block 0 (.loop Z23j))) (.seq (.region Z23k [8]) .ret))))),[.cell 8 true 5]⟩
end Go.Abs
namespace Go.Abs
open Go Go.Proofs
theorem Z1y9 : Z2z Try.prog [] Zdp = some Z1wv.erase := by kernel_rfl
theorem Z23m : Z2z Try.prog [] Zdu = some Z231.erase := by kernel_rfl
theorem Z23n : Z2z Try.prog [] Zf4 = some Z238.erase := by kernel_rfl
theorem Z23o : Z2z Try.prog [(9, 10)] Zdw = some Z23l.erase := by kernel_rfl
end Go.Abs
namespace Go.Abs
open Go Go.Proofs
set_option linter.unusedVariables false
set_option linter.unusedSimpArgs false
set_option maxHeartbeats 4000000
attribute [local irreducible] AWp aops KP
def takeR (cols : List Col) (keep : List Bool) (t : Ty) : Nat → Tk → Option (List Vl × Tk)
  | 0, s => some ([], s)
  | n + 1, s => match takeT cols keep t 0 s with
    | none => none
    | some (v, s1) => match takeR cols keep t n s1 with
      | none => none
      | some (vs, s2) => some (v :: vs, s2)
theorem Z1yn (t : Ty) : Z1vc (Zm4 t) := by
  have hT := Z1m1 t
  refine ⟨Nat.le_trans (Z1li t) (by decide), fun n hn => ?_, fun n hn x hx => ?_⟩
  · obtain ⟨i, hi⟩ := List.getElem?_of_mem hn
    have hN := hT.nok i n hi
    have h100 := Z1li t
    rcases Nat.lt_or_ge n.kids.length 1001 with h | h
    · omega
    · obtain ⟨u, m, e1, e2, e3, _⟩ := hN.kids 1000 _ (List.getElem?_eq_getElem (by omega))
      have hlt := (List.getElem?_eq_some_iff.1 e3).1
      have hc : ∀ (ks : List Ty), ks.length ≤ cntL ks := by
        intro ks
        induction ks with
        | nil => simp [cntL]
        | cons a b ih => have := Z1ly a; rw [cntL, List.length_cons]; omega
      have h1 := hc (n.t.kids.take 1000)
      rw [List.length_take, ← hN.len] at h1
      omega
  · obtain ⟨i, hi⟩ := List.getElem?_of_mem hn
    obtain ⟨j, hj⟩ := List.getElem?_of_mem hx
    obtain ⟨u, m, e1, e2, e3, _⟩ := (hT.nok i n hi).kids j x hj
    exact (List.getElem?_eq_some_iff.1 e3).1
structure Asks (l : List Nd) (cols : List Col) (keep : List Bool) (n : Nat) (want : Nat → Nat) (key : Nat → Bool) : Prop where
  w0 : want 0 = n
  k0 : key 0 = true
  kid : ∀ i nd, l[i]? = some nd → keep.getD i false = true → ∀ (j x : Nat), nd.kids[j]? = some x → want x = askF nd.t.kind (cols.getD i col0) j ∧ key x = (decide (nd.t.kind = 11) && decide (j = 0))
  right : ∀ i nd, l[i]? = some nd → keep.getD i false = true → Right nd (cols.getD i col0) (want i) (!key i)
def DoneK (l : List Nd) (i j x : Nat) : Prop := x = 0 ∨ ∃ p q m, l[p]? = some q ∧ q.kids[m]? = some x ∧ (p < i ∨ p = i ∧ m < j)
structure AskI (l : List Nd) (keep : List Bool) (want : Nat → Nat) (key : Nat → Bool) (i j : Nat) (W : List Int) (B : List Bool) : Prop where
  lw : W.length = l.length
  lb : B.length = l.length
  eq : ∀ x, x < l.length → keep.getD x false = true → DoneK l i j x → W[x]? = some ((want x : Nat) : Int) ∧ B[x]? = some (key x)
theorem AskI.up {l : List Nd} (hT : TreeN l) {cols : List Col} {keep : List Bool} {n : Nat} {want : Nat → Nat} {key : Nat → Bool} (hA : Asks l cols keep n want key) {i j : Nat} {W : List Int} {B : List Bool} (h : AskI l keep want key i j W B)
    {nd : Nd} (hnd : l[i]? = some nd) (hk : keep.getD i false = true) {x : Nat} (hx : nd.kids[j]? = some x) :
    AskI l keep want key i (j + 1) (W.set x (askF nd.t.kind (cols.getD i col0) j : Nat)) (B.set x (decide (nd.t.kind = 11) && decide (j = 0))) := by
  obtain ⟨u, m, e1, e2, e3, e4, e5, _⟩ := (hT.nok i nd hnd).kids j x hx
  have hxl := (List.getElem?_eq_some_iff.1 e3).1
  refine ⟨by rw [List.length_set]; exact h.lw, by rw [List.length_set]; exact h.lb, fun y hy hky hd => ?_⟩
  obtain ⟨k1, k2⟩ := hA.kid i nd hnd hk j x hx
  by_cases e : y = x
  · subst e
    rw [List.getElem?_set_self (by rw [h.lw]; exact hy), List.getElem?_set_self (by rw [h.lb]; exact hy), k1, k2]
    exact ⟨rfl, rfl⟩
  · rw [List.getElem?_set_ne (fun e' => e e'.symm), List.getElem?_set_ne (fun e' => e e'.symm)]
    refine h.eq y hy hky ?_
    rcases hd with rfl | ⟨p, q, m', h1, h2, h3⟩
    · exact .inl rfl
    · refine .inr ⟨p, q, m', h1, h2, ?_⟩
      rcases h3 with h3 | ⟨rfl, h3⟩
      · exact .inl h3
      · refine .inr ⟨rfl, ?_⟩
        rw [hnd] at h1
        cases h1
        rcases Nat.lt_or_eq_of_le (Nat.le_of_lt_succ h3) with h4 | h4
        · exact h4
        · subst h4
          rw [hx] at h2
          cases h2
          exact absurd rfl e
theorem AskI.next {l : List Nd} (hT : TreeN l) {keep : List Bool} {want : Nat → Nat} {key : Nat → Bool} {i j : Nat} {W : List Int} {B : List Bool} (h : AskI l keep want key i j W B) {nd : Nd} (hnd : l[i]? = some nd) (hj : nd.kids.length ≤ j) : AskI l keep want key (i + 1) 0 W B := by
  refine ⟨h.lw, h.lb, fun y hy hky hd => h.eq y hy hky ?_⟩
  rcases hd with rfl | ⟨p, q, m', h1, h2, h3⟩
  · exact .inl rfl
  · refine .inr ⟨p, q, m', h1, h2, ?_⟩
    rcases h3 with h3 | ⟨_, h3⟩
    · rcases Nat.lt_or_eq_of_le (Nat.le_of_lt_succ h3) with h4 | h4
      · exact .inl h4
      · subst h4
        rw [hnd] at h1
        cases h1
        have := (List.getElem?_eq_some_iff.1 h2).1
        exact .inr ⟨rfl, by omega⟩
    · omega
theorem AskI.skip {l : List Nd} (hT : TreeN l) {keep : List Bool} (hW : Whole l keep) {want : Nat → Nat} {key : Nat → Bool} {i j : Nat} {W : List Int} {B : List Bool} (h : AskI l keep want key i j W B) {nd : Nd} (hnd : l[i]? = some nd) (hk : keep.getD i false = false) : AskI l keep want key (i + 1) 0 W B := by
  refine ⟨h.lw, h.lb, fun y hy hky hd => h.eq y hy hky ?_⟩
  rcases hd with rfl | ⟨p, q, m', h1, h2, h3⟩
  · exact .inl rfl
  · refine .inr ⟨p, q, m', h1, h2, ?_⟩
    rcases h3 with h3 | ⟨_, h3⟩
    · rcases Nat.lt_or_eq_of_le (Nat.le_of_lt_succ h3) with h4 | h4
      · exact .inl h4
      · subst h4
        have := (hW p q h1 y (List.mem_of_getElem? h2)).1 hky
        rw [hk] at this
        cases this
    · omega
theorem AskI.at {l : List Nd} (hT : TreeN l) {keep : List Bool} {want : Nat → Nat} {key : Nat → Bool} {i : Nat} {W : List Int} {B : List Bool} (h : AskI l keep want key i 0 W B) {nd : Nd} (hnd : l[i]? = some nd) (hk : keep.getD i false = true) : W[i]? = some ((want i : Nat) : Int) ∧ B[i]? = some (key i) := by
  refine h.eq i (List.getElem?_eq_some_iff.1 hnd).1 hk ?_
  by_cases e : i = 0
  · exact .inl e
  · obtain ⟨⟨p, q, m, e1, e2, e3, e4, _⟩⟩ := hT.par i nd hnd (by omega)
    exact .inr ⟨p, q, m, e3, e4, .inl e2⟩
theorem Z1yo (t : Ty) (ht : t.Fit) (h0 : Zlx t = 0) (cols : List Col) (n : Nat) (hn : n ≤ 4096) (kb keep : List Bool) (hkb : (kb = [] ∧ keep = List.replicate (Zm4 t).length true) ∨ (keep = kb ∧ kb ≠ []))
    (hkl : keep.length = (Zm4 t).length) (hk0 : keep.getD 0 false = true) (hC : ColsT (Zm4 t) cols keep) (hW : Whole (Zm4 t) keep) (want : Nat → Nat) (key : Nat → Bool) (hA : Asks (Zm4 t) cols keep n want key) (VS : List Vl) (sE : Tk)
    (hR : takeR cols keep t n ⟨List.replicate (Zm4 t).length 0, List.replicate (Zm4 t).length 0⟩ = some (VS, sE)) (g f : Bool) (σ : Zc) :
    Z1q Try.prog Zdp [encT t, .slc 5 (cols.map encC) g, .int .i64 (n : Int), .slc 1 (kb.map .bool) f] σ fun r σ' => r = .tup [.slc 5 (Zm5 VS) false, .int .i64 0] ∧ σ' = σ := by
  have hfl := Znk t ht
  have hT := Z1m1 t
  have hK := Z1yn t
  have hpos : 0 < (Zm4 t).length := by
    obtain ⟨n0, e, _⟩ := Z1pf h0
    exact (List.getElem?_eq_some_iff.1 e).1
  obtain ⟨n0, hn0, hn0t⟩ := Z1pf h0
  have hL100 := Z1li t
  rw [Zlp] at hfl ⊢
  generalize Zm4 t = l at *
  have hll : (l.map encN).length = l.length := List.length_map ..
  have hcl : (cols.map encC).length = cols.length := List.length_map ..
  have hbl : (kb.map Z0.bool).length = kb.length := List.length_map ..
  have hclen := hC.len
  refine Z8t rfl Z1y9 (Nat.le_of_ble_eq_true rfl) ?_
  refine Z9z ?_
  refine Z9j rfl (Kfi rfl) fun b4 hb4 => ?_
  (repeat (refine st_q rfl rfl rfl ?_))
  (refine Z8y ?_; (repeat (first | refine Z9v rfl ?_ | refine Z9w ?_)); refine Z9u ?_)
  refine Zb3 (d := 4) (cs := Zlo t) rfl ?_
  (repeat (first | refine st_q rfl rfl rfl ?_ | refine awp_seq ?_ | refine Zbm (fun _ _ => rfl) ?_))
  refine Z9t rfl (hfl _) ?_
  (repeat (first | refine st_q rfl rfl rfl ?_ | (refine Z8y ?_; (repeat (first | refine Z9v rfl ?_ | refine Z9w ?_)); refine Z9u ?_) | refine awp_seq ?_ | refine Zbm (fun _ _ => rfl) ?_))
  rw [hll]
  (rw [decide_eq_false (p := (l.length : Int) = 0) (by omega)])
  (repeat (first | refine st_q rfl rfl rfl ?_ | refine Z8v rfl (st_q rfl rfl rfl ?_)))
  (rw [decide_eq_false (p := (n : Int) < 0) (by omega)])
  skip
  (rw [decide_eq_false (p := (4096 : Int) < (n : Int)) (by omega)])
  (repeat (first | refine st_q rfl rfl rfl ?_ | refine Z8v rfl (st_q rfl rfl rfl ?_)))
  rw [hcl, hll]
  (rw [decide_eq_false (p := (cols.length : Int) ≠ (l.length : Int)) (by omega)])
  (repeat refine Z8v rfl (st_q rfl rfl rfl ?_))
  rw [hbl]
  -- behind the first look
  have main : ∀ (f : Bool), AWp Try.prog Z1wv.n (Z1wv.code.snd 4) (ARet Z1wv.res fun r σ' => r = .tup [.slc 5 (Zm5 VS) false, .int .i64 0] ∧ σ' = σ)
      (fset 1 (some (.slc 5 (cols.map encC) g)) (fset 2 (some (.int .i64 (n : Int))) (fset 3 (some (.slc 1 (keep.map .bool) f)) (fset 10 (some (.slc 8 (l.map encN) true)) Z27)))) σ := by
    intro f
    clear hkb
    have hkm : (keep.map Z0.bool).length = keep.length := List.length_map ..
    have hz1 : List.replicate ((l.length : Nat) : Int).toNat (Z0.int .i64 0) = (List.replicate l.length (0 : Int)).map (.int .i64) := by rw [List.map_replicate, Int.toNat_natCast]
    have hz2 : List.replicate ((l.length : Nat) : Int).toNat (Z0.bool false) = (List.replicate l.length false).map .bool := by rw [List.map_replicate, Int.toNat_natCast]
    refine Z9z ?_
    (repeat (refine st_q rfl rfl rfl ?_))
    rw [hll]
    refine Z9l rfl (Kfi rfl) (by omega) (by omega) (by omega) (by omega) fun b11 hb11 => ?_
    (repeat (refine st_q rfl rfl rfl ?_))
    (refine Z8y ?_; (repeat (first | refine Z9v rfl ?_ | refine Z9w ?_)); refine Z9u ?_)
    refine Z9z ?_
    (repeat (refine st_q rfl rfl rfl ?_))
    rw [hll]
    refine Z9l rfl (Kfi rfl) (by omega) (by omega) (by omega) (by omega) fun b12 hb12 => ?_
    have hne : b12 ≠ b11 := fun e => hb12 (by rw [e]; simp [Zh])
    (repeat (refine st_q rfl rfl rfl ?_))
    (refine Z8y ?_; (repeat (first | refine Z9v rfl ?_ | refine Z9w ?_)); refine Z9u ?_)
    rw [hz1, hz2, Int.toNat_natCast]
    refine Z9z ?_
    (repeat (refine st_q rfl rfl rfl ?_))
    refine Z94 rfl ⟨by omega, by omega⟩ ?_
    have hx1 : ((List.replicate l.length (0 : Int)).map (Z0.int .i64))[0 + (0 : Int).toNat]? = some (.int .i64 0) := by
      rw [List.getElem?_map, List.getElem?_replicate, if_pos (by simpa using hpos)]; rfl
    have hx2 : ((List.replicate l.length false).map Z0.bool)[0 + (0 : Int).toNat]? = some (.bool false) := by
      rw [List.getElem?_map, List.getElem?_replicate, if_pos (by simpa using hpos)]; rfl
    refine Z9a rfl (Z90 hne Z8z) hx1 (by decide) (Kfi rfl) (fun _ => ⟨rfl, rfl⟩) (Z9c hne Z9b) ?_
    (repeat (refine st_q rfl rfl rfl ?_))
    refine Z94 rfl ⟨by omega, by omega⟩ ?_
    refine Z9a rfl Z8z hx2 (by decide) (Kfi rfl) (fun _ => ⟨rfl, rfl⟩) Z9b ?_
    (refine Z8y ?_; (repeat (first | refine Z9v rfl ?_ | refine Z9w ?_)); refine Z9u ?_)
    have e1 : ((List.replicate l.length (0 : Int)).map (Z0.int .i64)).set (0 + (0 : Int).toNat) (Z1r (.int .i64 0) 0 (Z0.int .i64 (n : Int)).cells) = ((List.replicate l.length (0 : Int)).set 0 (n : Int)).map (.int .i64) := by rw [List.map_set]; rfl
    have e2 : ((List.replicate l.length false).map Z0.bool).set (0 + (0 : Int).toNat) (Z1r (.bool false) 0 (Z0.bool true).cells) = ((List.replicate l.length false).set 0 true).map .bool := by rw [List.map_set]; rfl
    rw [e1, e2]
    have hI0 : AskI l keep want key 0 0 ((List.replicate l.length (0 : Int)).set 0 (n : Int)) ((List.replicate l.length false).set 0 true) := by
      refine ⟨by simp, by simp, fun x hx hkx hd => ?_⟩
      rcases hd with rfl | ⟨p, q, m, _, _, h3⟩
      · rw [List.getElem?_set_self (by rw [List.length_replicate]; exact hx), List.getElem?_set_self (by rw [List.length_replicate]; exact hx), hA.w0, hA.k0]
        exact ⟨rfl, rfl⟩
      · omega
    generalize (List.replicate l.length (0 : Int)).set 0 (n : Int) = W0 at hI0 ⊢
    generalize (List.replicate l.length false).set 0 true = B0 at hI0 ⊢
    (repeat (first | refine st_q rfl rfl rfl ?_ | (refine Z8y ?_; (repeat (first | refine Z9v rfl ?_ | refine Z9w ?_)); refine Z9u ?_) | refine awp_seq ?_ | refine Zbm (fun _ _ => rfl) ?_ | refine Z8h ?_))
    rw [hll]
    obtain ⟨I, hI⟩ : ∃ I : Nat → Z26 → Zc → Prop, I = fun m F σ' => ∃ (i : Nat) (W : List Int) (B : List Bool), F = fset 1 (some (.slc 5 (cols.map encC) g)) (fset 2 (some (.int .i64 (n : Int))) (fset 3 (some (.slc 1 (keep.map .bool) f)) (fset 10 (some (.slc 8 (l.map encN) true)) (fset 11 (some (.arr 1 b11 0 l.length)) (fset 12 (some (.arr 1 b12 0 l.length)) (fset 76 (some (.int .i64 (l.length : Nat))) (fset 77 (some (.int .i64 (i : Nat))) Z27))))))) ∧
      (b12, Zb.cells 1 (B.map .bool)) :: (b11, Zb.cells 1 (W.map (.int .i64))) :: σ = σ' ∧ i ≤ l.length ∧ AskI l keep want key i 0 W B ∧ m = l.length - i := ⟨_, rfl⟩
    refine Zaa I (n := l.length) (by rw [hI]; exact ⟨0, W0, B0, rfl, rfl, by omega, hI0, by omega⟩) ?_
    intro m0 F σ' hIm
    rw [hI] at hIm
    obtain ⟨i, W, B, rfl, rfl, hi, hAI, rfl⟩ := hIm
    (repeat (first | refine st_q rfl rfl rfl ?_ | (refine Z8y ?_; (repeat (first | refine Z9v rfl ?_ | refine Z9w ?_)); refine Z9u ?_) | refine awp_seq ?_ | refine Zbm (fun _ _ => rfl) ?_))
    refine Za3 (p := (i : Int) < (l.length : Nat)) rfl (fun h3 => ?_) (fun h3 => ?_)
    · have hil : i < l.length := by omega
      have hic : i < cols.length := by omega
      have hgN := Zxw (f := encN) hil
      have hgC := Zxw (f := encC) hic
      have hgK := Zxw (f := Z0.bool) (show i < keep.length by omega)
      have hlI := List.getElem?_eq_getElem hil
      have hcD : cols.getD i col0 = cols[i] := by rw [List.getD_eq_getElem?_getD, List.getElem?_eq_getElem hic]; rfl
      have hdK : keep.getD i false = keep[i] := by rw [List.getD_eq_getElem?_getD, List.getElem?_eq_getElem (by omega)]; rfl
      have hnx : i + 1 ≤ l.length := hil
      have round : ∀ (W' : List Int) (B' : List Bool), AskI l keep want key (i + 1) 0 W' B' → ∀ Q : Z87, AWp Try.prog Z1wv.n (.region Z1wj [1, 2, 3, 10, 11, 12, 76, 77]) (Za9 I (l.length - i) Q)
          (fset 1 (some (.slc 5 (cols.map encC) g)) (fset 2 (some (.int .i64 (n : Int))) (fset 3 (some (.slc 1 (keep.map .bool) f)) (fset 10 (some (.slc 8 (l.map encN) true)) (fset 11 (some (.arr 1 b11 0 l.length)) (fset 12 (some (.arr 1 b12 0 l.length)) (fset 76 (some (.int .i64 (l.length : Nat))) (fset 77 (some (.int .i64 (i : Nat))) Z27))))))))
          ((b12, Zb.cells 1 (B'.map .bool)) :: (b11, Zb.cells 1 (W'.map (.int .i64))) :: σ) := by
        intro W' B' hA' Q
        refine Zbp ?_
        (repeat (refine st_q rfl rfl rfl ?_))
        rw [Kwr i (by omega)]
        (refine Z8y ?_; (repeat (first | refine Z9v rfl ?_ | refine Z9w ?_)); refine Z9u ?_)
        refine ⟨_, l.length - (i + 1), HSub.refl _, ?_, by omega⟩
        rw [hI]
        exact ⟨i + 1, W', B', rfl, rfl, hnx, hA', rfl⟩
      have hRt := hA.right i l[i] hlI
      have hkid := fun (hk : keep.getD i false = true) (j : Nat) (W : List Int) (B : List Bool) (h : AskI l keep want key i j W B) (x : Nat) => AskI.up hT hA h hlI hk (x := x)
      have hnext := fun (j : Nat) (W : List Int) (B : List Bool) (h : AskI l keep want key i j W B) => AskI.next hT h hlI (j := j)
      have hskip := fun (h : keep.getD i false = false) => AskI.skip hT hW hAI hlI h
      have hat := fun (h : keep.getD i false = true) => AskI.at hT hAI hlI h
      have hkx := hK.lt _ (List.getElem_mem hil)
      have hkn1 := hK.num _ (List.getElem_mem hil)
      rw [hcD] at hRt
      rw [hcD] at hkid
      rw [hdK] at hRt hkid hskip hat
      generalize l[i] = nd at hgN hRt hkid hnext hkx hkn1
      generalize cols[i] = c at hgC hRt hkid
      generalize keep[i] = ki at hgK hRt hkid hskip hat
      have hkn : (ints nd.kids).length = nd.kids.length := List.length_map ..
      (repeat (first | refine st_q rfl rfl rfl ?_ | (refine Z8y ?_; (repeat (first | refine Z9v rfl ?_ | refine Z9w ?_)); refine Z9u ?_) | refine awp_seq ?_ | refine Zbm (fun _ _ => rfl) ?_ | refine Z8h ?_ | refine Zbn (fun _ _ => rfl) ?_))
      refine Z93 rfl (by omega) hgK ?_
      (repeat (refine st_q rfl rfl rfl ?_))
      (refine Z8y ?_; (repeat (first | refine Z9v rfl ?_ | refine Z9w ?_)); refine Z9u ?_)
      cases ki with
      | false =>
        refine Kc1 rfl ?_
        refine Zbo (fun _ _ => rfl) ?_
        (refine Z9y (keep := [1, 2, 3, 10, 11, 12, 76, 77]) ?_; ((repeat (first | refine Z9v rfl ?_ | refine Z9w ?_)); refine Z9u ?_))
        exact round W B (hskip rfl) _
      | true =>
        obtain ⟨hw1, hw2⟩ := hat rfl
        have hRt := hRt rfl
        have hwr := Z1ym nd c (want i) (!key i) hRt
        have hsm := hRt.sm
        have hAs := fun j σ => Z1s2 nd.t.kind j (Zm2 nd) rfl rfl (Z1rx nd) c hsm σ
        have hwl : i < W.length := by rw [hAI.lw]; exact hil
        have hbl2 : i < B.length := by rw [hAI.lb]; exact hil
        have hgW : (W.map (Z0.int .i64))[0 + ((i : Nat) : Int).toNat]? = some (.int .i64 ((want i : Nat) : Int)) := by rw [Nat.zero_add, Int.toNat_natCast, List.getElem?_map, hw1]; rfl
        have hgB : (B.map Z0.bool)[0 + ((i : Nat) : Int).toNat]? = some (.bool (key i)) := by rw [Nat.zero_add, Int.toNat_natCast, List.getElem?_map, hw2]; rfl
        refine Kc2 rfl ?_
        refine Zbn (fun _ _ => rfl) ?_
        (refine Z9y (keep := [1, 2, 3, 10, 11, 12, 13, 76, 77]) ?_; ((repeat (first | refine Z9v rfl ?_ | refine Z9w ?_)); refine Z9u ?_))
        rw [encN] at hgN hwr
        refine awp_seq ?_
        refine awp_seq ?_
        refine Zbm (fun _ _ => rfl) ?_
        (repeat (refine st_q rfl rfl rfl ?_))
        refine Z93 rfl (by omega) hgN ?_
        (repeat (refine st_q rfl rfl rfl ?_))
        refine Z93 rfl (by omega) hgC ?_
        (repeat (refine st_q rfl rfl rfl ?_))
        refine Z94 rfl ⟨by omega, by omega⟩ ?_
        refine Z92 rfl (Z90 hne Z8z) hgW rfl ?_
        (repeat (refine st_q rfl rfl rfl ?_))
        refine Z94 rfl ⟨by omega, by omega⟩ ?_
        refine Z92 rfl Z8z hgB rfl ?_
        (repeat (refine st_q rfl rfl rfl ?_))
        refine Z9t rfl (hwr _) ?_
        (repeat (refine st_q rfl rfl rfl ?_))
        (refine Z8y ?_; (repeat (first | refine Z9v rfl ?_ | refine Z9w ?_)); refine Z9u ?_)
        (repeat (first | refine st_q rfl rfl rfl ?_ | (refine Z8y ?_; (repeat (first | refine Z9v rfl ?_ | refine Z9w ?_)); refine Z9u ?_) | refine awp_seq ?_ | refine Zbm (fun _ _ => rfl) ?_ | refine Zbn (fun _ _ => rfl) ?_ | refine Kc2 rfl ?_))
        refine Z93 rfl (by omega) hgN ?_
        rw [Zm2] at hgN
        (repeat (first | refine st_q rfl rfl rfl ?_ | (refine Z8y ?_; (repeat (first | refine Z9v rfl ?_ | refine Z9w ?_)); refine Z9u ?_) | refine Z8h ?_))
        rw [hkn]
        refine Zaa (fun m F σ' => ∃ (j : Nat) (W : List Int) (B : List Bool), F = fset 1 (some (.slc 5 (cols.map encC) g)) (fset 2 (some (.int .i64 (n : Int))) (fset 3 (some (.slc 1 (keep.map .bool) f)) (fset 10 (some (.slc 8 (l.map encN) true)) (fset 11 (some (.arr 1 b11 0 l.length)) (fset 12 (some (.arr 1 b12 0 l.length)) (fset 13 (some (.int .i64 (i : Nat))) (fset 76 (some (.int .i64 (l.length : Nat))) (fset 77 (some (.int .i64 (i : Nat))) (fset 110 (some (.slc 1 (ints nd.kids) true)) (fset 111 (some (.int .i64 (nd.kids.length : Nat))) (fset 112 (some (.int .i64 (j : Nat))) Z27))))))))))) ∧
          (b12, Zb.cells 1 (B.map .bool)) :: (b11, Zb.cells 1 (W.map (.int .i64))) :: σ = σ' ∧ j ≤ nd.kids.length ∧ AskI l keep want key i j W B ∧ m = nd.kids.length - j) (n := nd.kids.length)
          ⟨0, W, B, rfl, rfl, by omega, hAI, by omega⟩ ?_
        rintro m1 F σ' ⟨j, W1, B1, rfl, rfl, hj, hAJ, rfl⟩
        (repeat (first | refine st_q rfl rfl rfl ?_ | (refine Z8y ?_; (repeat (first | refine Z9v rfl ?_ | refine Z9w ?_)); refine Z9u ?_) | refine awp_seq ?_ | refine Zbm (fun _ _ => rfl) ?_))
        refine Za3 (p := (j : Int) < (nd.kids.length : Nat)) rfl (fun h4 => ?_) (fun h4 => ?_)
        · have hjl : j < nd.kids.length := by omega
          have hx : (ints nd.kids)[((j : Nat) : Int).toNat]? = some (.int .i64 ((nd.kids[j] : Nat) : Int)) := by rw [Int.toNat_natCast, ints, List.getElem?_map, List.getElem?_eq_getElem hjl]; rfl
          have hxlt := hkx _ (List.getElem_mem hjl)
          have hup := hkid rfl j W1 B1 hAJ nd.kids[j] (List.getElem?_eq_getElem hjl)
          generalize nd.kids[j] = x at hx hxlt hup
          have hWl := hAJ.lw
          have hBl := hAJ.lb
          have hwx : (W1.map (Z0.int .i64))[0 + (x : Int).toNat]? = some (.int .i64 W1[x]) := by
            rw [Nat.zero_add, Int.toNat_natCast, List.getElem?_map, List.getElem?_eq_getElem (by omega)]; rfl
          have hbx : (B1.map Z0.bool)[0 + (x : Int).toNat]? = some (.bool B1[x]) := by
            rw [Nat.zero_add, Int.toNat_natCast, List.getElem?_map, List.getElem?_eq_getElem (by omega)]; rfl
          have s1 : (W1.map (Z0.int .i64)).set (0 + (x : Int).toNat) (Z1r (.int .i64 W1[x]) 0 (Z0.int .i64 (askF nd.t.kind c (j : Int) : Nat)).cells) = (W1.set x (askF nd.t.kind c (j : Int) : Nat)).map (.int .i64) := by rw [Nat.zero_add, Int.toNat_natCast, List.map_set]; rfl
          have s2 : ∀ y : Bool, (B1.map Z0.bool).set (0 + (x : Int).toNat) (Z1r (.bool B1[x]) 0 (Z0.bool y).cells) = (B1.set x y).map .bool := fun y => by rw [Nat.zero_add, Int.toNat_natCast, List.map_set]; rfl
          have rest : ∀ y : Bool, y = (decide (nd.t.kind = 11) && decide (j = 0)) → ∀ Q : Z87, AWp Try.prog Z1wv.n (.region Z1wh [1, 2, 3, 10, 11, 12, 13, 76, 77, 110, 111, 112]) (Za9 (fun m F σ' => ∃ (j : Nat) (W : List Int) (B : List Bool), F = fset 1 (some (.slc 5 (cols.map encC) g)) (fset 2 (some (.int .i64 (n : Int))) (fset 3 (some (.slc 1 (keep.map .bool) f)) (fset 10 (some (.slc 8 (l.map encN) true)) (fset 11 (some (.arr 1 b11 0 l.length)) (fset 12 (some (.arr 1 b12 0 l.length)) (fset 13 (some (.int .i64 (i : Nat))) (fset 76 (some (.int .i64 (l.length : Nat))) (fset 77 (some (.int .i64 (i : Nat))) (fset 110 (some (.slc 1 (ints nd.kids) true)) (fset 111 (some (.int .i64 (nd.kids.length : Nat))) (fset 112 (some (.int .i64 (j : Nat))) Z27))))))))))) ∧
                (b12, Zb.cells 1 (B.map .bool)) :: (b11, Zb.cells 1 (W.map (.int .i64))) :: σ = σ' ∧ j ≤ nd.kids.length ∧ AskI l keep want key i j W B ∧ m = nd.kids.length - j) (nd.kids.length - j) Q)
              (fset 1 (some (.slc 5 (cols.map encC) g)) (fset 2 (some (.int .i64 (n : Int))) (fset 3 (some (.slc 1 (keep.map .bool) f)) (fset 10 (some (.slc 8 (l.map encN) true)) (fset 11 (some (.arr 1 b11 0 l.length)) (fset 12 (some (.arr 1 b12 0 l.length)) (fset 13 (some (.int .i64 (i : Nat))) (fset 76 (some (.int .i64 (l.length : Nat))) (fset 77 (some (.int .i64 (i : Nat))) (fset 110 (some (.slc 1 (ints nd.kids) true)) (fset 111 (some (.int .i64 (nd.kids.length : Nat))) (fset 112 (some (.int .i64 (j : Nat))) Z27))))))))))))
              ((b12, Zb.cells 1 ((B1.set x y).map .bool)) :: (b11, Zb.cells 1 ((W1.set x (askF nd.t.kind c (j : Int) : Nat)).map (.int .i64))) :: σ) := by
            intro y hy Q
            subst hy
            refine Zbp ?_
            (repeat (refine st_q rfl rfl rfl ?_))
            rw [Kwr j (by omega)]
            (refine Z8y ?_; (repeat (first | refine Z9v rfl ?_ | refine Z9w ?_)); refine Z9u ?_)
            exact ⟨_, nd.kids.length - (j + 1), HSub.refl _, ⟨j + 1, _, _, rfl, rfl, by omega, hup, rfl⟩, by omega⟩
          (repeat (first | refine st_q rfl rfl rfl ?_ | refine awp_seq ?_ | refine Zbm (fun _ _ => rfl) ?_ | refine Z8h ?_ | refine Zbn (fun _ _ => rfl) ?_))
          refine Z93 rfl (by omega) hx ?_
          (repeat (first | refine st_q rfl rfl rfl ?_ | (refine Z8y ?_; (repeat (first | refine Z9v rfl ?_ | refine Z9w ?_)); refine Z9u ?_) | refine awp_seq ?_ | refine Zbm (fun _ _ => rfl) ?_))
          refine Z93 rfl (by omega) hgN ?_
          (repeat (refine st_q rfl rfl rfl ?_))
          refine Z93 rfl (by omega) hgC ?_
          (repeat (refine st_q rfl rfl rfl ?_))
          refine Z9t rfl (hAs _ _) ?_
          refine Z94 rfl ⟨by omega, by omega⟩ ?_
          refine Z9a rfl (Z90 hne Z8z) hwx (by decide) (Kfi rfl) (fun _ => ⟨rfl, rfl⟩) (Z9c hne Z9b) ?_
          rw [s1]
          (refine Z8y ?_; (repeat (first | refine Z9v rfl ?_ | refine Z9w ?_)); refine Z9u ?_)
          refine Zbm (fun _ _ => rfl) ?_
          (repeat (refine st_q rfl rfl rfl ?_))
          refine Z93 rfl (by omega) hgN ?_
          (repeat (refine st_q rfl rfl rfl ?_))
          by_cases k11 : nd.t.kind = 11
          · (rw [decide_eq_true (p := nd.t.kind = 11) (by omega)])
            by_cases j0 : j = 0
            · (repeat (first | refine st_q rfl rfl rfl ?_ | refine Z8v rfl (st_q rfl rfl rfl ?_)))
              (rw [decide_eq_true (p := (j : Int) = 0) (by omega)])
              skip
              refine Z94 rfl ⟨by omega, by omega⟩ ?_
              refine Z9a (v := .bool true) rfl Z8z hbx (by decide) (Kfi rfl) (fun _ => ⟨rfl, rfl⟩) Z9b ?_
              rw [s2]
              (refine Z8y ?_; (repeat (first | refine Z9v rfl ?_ | refine Z9w ?_)); refine Z9u ?_)
              exact rest true (by simp [k11, j0]) _
            · (repeat (first | refine st_q rfl rfl rfl ?_ | refine Z8v rfl (st_q rfl rfl rfl ?_)))
              (rw [decide_eq_false (p := (j : Int) = 0) (by omega)])
              skip
              refine Z94 rfl ⟨by omega, by omega⟩ ?_
              refine Z9a (v := .bool false) rfl Z8z hbx (by decide) (Kfi rfl) (fun _ => ⟨rfl, rfl⟩) Z9b ?_
              rw [s2]
              (refine Z8y ?_; (repeat (first | refine Z9v rfl ?_ | refine Z9w ?_)); refine Z9u ?_)
              exact rest false (by simp [j0]) _
          · (rw [decide_eq_false (p := nd.t.kind = 11) (by omega)])
            (repeat (first | refine st_q rfl rfl rfl ?_ | refine Z8w rfl ?_))
            refine Z94 rfl ⟨by omega, by omega⟩ ?_
            refine Z9a (v := .bool false) rfl Z8z hbx (by decide) (Kfi rfl) (fun _ => ⟨rfl, rfl⟩) Z9b ?_
            rw [s2]
            (refine Z8y ?_; (repeat (first | refine Z9v rfl ?_ | refine Z9w ?_)); refine Z9u ?_)
            exact rest false (by simp [k11]) _
        · refine Zbo (fun _ _ => rfl) ?_
          (refine Z9y (keep := [1, 2, 3, 10, 11, 12, 76, 77]) ?_; ((repeat (first | refine Z9v rfl ?_ | refine Z9w ?_)); refine Z9u ?_))
          exact round W1 B1 (hnext j W1 B1 hAJ (by omega)) _
    refine Zbo (fun _ _ => rfl) ?_
    (refine Z9y (keep := [1, 2, 3, 10]) ?_; ((repeat (first | refine Z9v rfl ?_ | refine Z9w ?_)); refine Z9u ?_))
    refine Z8a (FSub.refl _) (HSub.of_sublist ((List.sublist_cons_self _ _).trans (List.sublist_cons_self _ _))) ?_
    have hrA : ∀ m : Nat, List.replicate ((m : Nat) : Int).toNat (Z0.int .i64 0) = ints (List.replicate m 0) := fun m => by rw [Int.toNat_natCast, ints, List.map_replicate]; rfl
    refine Z9z ?_
    (repeat (refine st_q rfl rfl rfl ?_))
    rw [hll]
    refine Z9l rfl (Kfi rfl) (by omega) (by omega) (by omega) (by omega) fun ba hba => ?_
    (repeat (refine st_q rfl rfl rfl ?_))
    rw [hll]
    refine Z9l rfl (Kfi rfl) (by omega) (by omega) (by omega) (by omega) fun bh hbh => ?_
    have hab : ba ≠ bh := fun e => hbh (by rw [← e]; simp [Zh])
    rw [hrA, Int.toNat_natCast]
    (repeat (refine st_q rfl rfl rfl ?_))
    refine Z9j rfl (Kfi rfl) fun bs hbs => ?_
    (repeat (refine st_q rfl rfl rfl ?_))
    (refine Z8y ?_; (repeat (first | refine Z9v rfl ?_ | refine Z9w ?_)); refine Z9u ?_)
    refine Zb3 (d := 17) (cs := Z1vu l cols keep g f ba bh) rfl ?_
    (refine Z9y (keep := [2, 3, 10, 17]) ?_; ((repeat (first | refine Z9v rfl ?_ | refine Z9w ?_)); refine Z9u ?_))
    (repeat (first | refine st_q rfl rfl rfl ?_ | refine awp_seq ?_ | refine Zbm (fun _ _ => rfl) ?_))
    refine Z9t rfl (Z1vk l hK keep hkl hW true f _) ?_
    (repeat (first | refine st_q rfl rfl rfl ?_ | (refine Z8y ?_; (repeat (first | refine Z9v rfl ?_ | refine Z9w ?_)); refine Z9u ?_) | refine awp_seq ?_ | refine Zbm (fun _ _ => rfl) ?_ | refine Zbn (fun _ _ => rfl) ?_ | refine Kc2 rfl ?_))
    refine Z9l rfl (Kfi rfl) (by omega) (by omega) (by omega) (by omega) fun bo hbo => ?_
    have hoa : bo ≠ ba := fun e => hbo (by rw [e]; simp [Zh])
    have hoh : bo ≠ bh := fun e => hbo (by rw [e]; simp [Zh])
    (repeat (first | refine st_q rfl rfl rfl ?_ | (refine Z8y ?_; (repeat (first | refine Z9v rfl ?_ | refine Z9w ?_)); refine Z9u ?_) | refine awp_seq ?_ | refine Zbm (fun _ _ => rfl) ?_ | refine Z8h ?_))
    refine Zaa (fun m F σ' => ∃ (i : Nat) (s : Tk) (us : List Vl) (bo : Nat), F = fset 17 (some (.iptr (Z1vu l cols keep g f ba bh))) (fset 18 (some (.arr 5 bo 0 (Zm5 us).length)) (fset 162 (some (.int .i64 (n : Int))) (fset 163 (some (.int .i64 (i : Nat))) Z27))) ∧
      (bo, Zb.cells 5 (Zm5 us)) :: (bh, Zb.cells 1 (ints s.he)) :: (ba, Zb.cells 1 (ints s.at_)) :: σ = σ' ∧ bo ≠ ba ∧ bo ≠ bh ∧ s.sz l.length ∧ i ≤ n ∧ us.length = i ∧ (∃ ws, takeR cols keep t (n - i) s = some (ws, sE) ∧ us ++ ws = VS) ∧ m = n - i) (n := n)
      ⟨0, ⟨List.replicate l.length 0, List.replicate l.length 0⟩, [], bo, rfl, rfl, hoa, hoh, ⟨List.length_replicate, List.length_replicate⟩, by omega, rfl, ⟨VS, hR, rfl⟩, by omega⟩ ?_
    rintro m0 F σ' ⟨i, s, us, bo', rfl, rfl, hoa', hoh', hsz, hi, hul, ⟨ws, hw, hVS⟩, rfl⟩
    (repeat (first | refine st_q rfl rfl rfl ?_ | (refine Z8y ?_; (repeat (first | refine Z9v rfl ?_ | refine Z9w ?_)); refine Z9u ?_) | refine awp_seq ?_ | refine Zbm (fun _ _ => rfl) ?_))
    refine Za3 (p := (i : Int) < (n : Int)) rfl (fun h3 => ?_) (fun h3 => ?_)
    · have hin : i < n := by omega
      rw [show n - i = (n - (i + 1)) + 1 by omega, takeR] at hw
      split at hw
      · cases hw
      rename_i v s1 ht1
      split at hw
      · cases hw
      rename_i vs s2 hw2
      simp only [Option.some.injEq, Prod.mk.injEq] at hw
      obtain ⟨rfl, rfl⟩ := hw
      have hs1 := Z1qa cols keep l.length _ _ _ _ _ ht1 hsz
      have hcall := Z1vv hT hK hC hkl hW g f ba bh hab t 0 n0 hn0 hn0t hk0 s s1 v hsz ht1 ((bo', Zb.cells 5 (Zm5 us)) :: (bh, Zb.cells 1 (ints s.he)) :: (ba, Zb.cells 1 (ints s.at_)) :: σ)
        (Z90 hoa' (Z90 (fun e => hab e.symm) Z8z)) (Z90 hoh' Z8z)
      have hHS : HS ((bo', Zb.cells 5 (Zm5 us)) :: (bh, Zb.cells 1 (ints s.he)) :: (ba, Zb.cells 1 (ints s.at_)) :: σ) ba bh s1 = (bo', Zb.cells 5 (Zm5 us)) :: (bh, Zb.cells 1 (ints s1.he)) :: (ba, Zb.cells 1 (ints s1.at_)) :: σ := by
        rw [Z1vp hoa' hoh']
        unfold HS
        rw [Z9c (fun e => hab e.symm) Z9b, Z9b]
      rw [hHS, Zm7] at hcall
      have heA : Zm5 us ++ [Z0.agg (Zm6 v)] = Zm5 (us ++ [v]) := by rw [Zm8, Zm8, List.map_append, ← Zm7]; rfl
      refine Zbn (fun _ _ => rfl) ?_
      refine awp_seq ?_
      refine Z8h ?_
      refine Zbm (fun _ _ => rfl) ?_
      (repeat (refine st_q rfl rfl rfl ?_))
      refine Z9t rfl hcall ?_
      (repeat (refine st_q rfl rfl rfl ?_))
      refine Zbs (β := [(bo', Zb.cells 5 (Zm5 us))]) (xs := Zm5 us) (ys := [.agg (Zm6 v)]) Zbr.mk rfl rfl (by rw [Zm9, List.length_singleton]; omega) fun b' hb' => ?_
      have hb1 : b' ≠ ba := fun e => hb' (by rw [e]; simp [Zh])
      have hb2 : b' ≠ bh := fun e => hb' (by rw [e]; simp [Zh])
      rw [heA]
      (repeat (refine st_q rfl rfl rfl ?_))
      (refine Z8y ?_; (repeat (first | refine Z9v rfl ?_ | refine Z9w ?_)); refine Z9u ?_)
      refine Zbp ?_
      (repeat (refine st_q rfl rfl rfl ?_))
      rw [Kwr i (by omega)]
      (refine Z8y ?_; (repeat (first | refine Z9v rfl ?_ | refine Z9w ?_)); refine Z9u ?_)
      exact ⟨_, n - (i + 1), HSub.refl _, ⟨i + 1, s1, us ++ [v], b', rfl, rfl, hb1, hb2, hs1, by omega, by rw [List.length_append, List.length_singleton, hul], ⟨vs, hw2, by rw [List.append_assoc]; exact hVS⟩, rfl⟩, by omega⟩
    · rw [show n - i = 0 by omega, takeR] at hw
      simp only [Option.some.injEq, Prod.mk.injEq] at hw
      obtain ⟨rfl, rfl⟩ := hw
      rw [List.append_nil] at hVS
      subst hVS
      (repeat (first | refine st_q rfl rfl rfl ?_ | (refine Z8y ?_; (repeat (first | refine Z9v rfl ?_ | refine Z9w ?_)); refine Z9u ?_) | refine awp_seq ?_ | refine Zbm (fun _ _ => rfl) ?_ | refine Zbo (fun _ _ => rfl) ?_))
      refine Zb1 (d := 8) (xs := Zm5 us) rfl ?_
      refine Z8d ?_
      exact ares rfl (HSub.of_sublist ((List.sublist_cons_self _ _).trans (List.sublist_cons_self _ _))) ⟨rfl, rfl⟩
  rcases hkb with ⟨rfl, hkr⟩ | ⟨hkr, hne⟩
  · rw [show decide ((0 : Int) < (([] : List Bool).length : Nat)) = false from rfl]
    (repeat (first | refine st_q rfl rfl rfl ?_ | refine Z8v rfl (st_q rfl rfl rfl ?_) | refine Z8w rfl ?_ | refine Z8x rfl ?_))
    (refine Z8y ?_; (repeat (first | refine Z9v rfl ?_ | refine Z9w ?_)); refine Z9u ?_)
    refine Kc2 rfl ?_
    refine Za4 ?_
    (repeat (first | refine st_q rfl rfl rfl ?_ | (refine Z8y ?_; (repeat (first | refine Z9v rfl ?_ | refine Z9w ?_)); refine Z9u ?_) | refine awp_seq ?_ | refine Zbm (fun _ _ => rfl) ?_ | refine Kc1 rfl ?_))
    rw [hll]
    refine Z9t rfl (Z1vj l.length (by omega) (by omega) true _) ?_
    (repeat (refine st_q rfl rfl rfl ?_))
    (refine Z8y ?_; (repeat (first | refine Z9v rfl ?_ | refine Z9w ?_)); refine Z9u ?_)
    have := main false
    rw [hkr, List.map_replicate] at this
    exact this
  · subst hkr
    have hk1 : 0 < keep.length := by omega
    have hg0 : (keep.map Z0.bool)[(0 : Int).toNat]? = some (.bool true) := by
      have h := List.getElem?_eq_getElem hk1
      rw [List.getD_eq_getElem?_getD, h, Option.getD_some] at hk0
      show (keep.map Z0.bool)[0]? = _
      rw [List.getElem?_map, h, hk0]; rfl
    (rw [decide_eq_true (p := (0 : Int) < (keep.length : Nat)) (by omega)])
    (repeat refine Z8v rfl (st_q rfl rfl rfl ?_))
    rw [hbl, hll]
    (rw [decide_eq_false (p := (keep.length : Int) ≠ (l.length : Int)) (by omega)])
    (repeat refine Z8v rfl (st_q rfl rfl rfl ?_))
    refine Z8v rfl (Z93 rfl (by omega) hg0 ?_)
    (repeat (first | refine st_q rfl rfl rfl ?_ | refine Z8v rfl (st_q rfl rfl rfl ?_)))
    (refine Z8y ?_; (repeat (first | refine Z9v rfl ?_ | refine Z9w ?_)); refine Z9u ?_)
    refine Kc2 rfl ?_
    refine Za4 ?_
    refine awp_seq ?_
    refine awp_seq ?_
    refine Zbm (fun _ _ => rfl) ?_
    (repeat (refine st_q rfl rfl rfl ?_))
    rw [hbl]
    (rw [decide_eq_false (p := (keep.length : Int) = 0) (by omega)])
    (refine Z8y ?_; (repeat (first | refine Z9v rfl ?_ | refine Z9w ?_)); refine Z9u ?_)
    refine Kc2 rfl ?_
    refine Zbn (fun _ _ => rfl) ?_
    (refine Z9y (keep := [1, 2, 3, 10]) ?_; ((repeat (first | refine Z9v rfl ?_ | refine Z9w ?_)); refine Z9u ?_))
    exact main f
end Go.Abs
namespace Go.Abs
open Go Go.Proofs
set_option linter.unusedVariables false
set_option linter.unusedSimpArgs false
set_option maxHeartbeats 4000000
theorem Z23p {cols : List Col} {keep : List Bool} : ∀ {ks : List Ty} {i a : Nat} {s : Tk} {u : Ty}, ks[i]? = some u → takeN cols keep ks i a s = takeT cols keep u (a + cntL (ks.take i)) s
  | [], i, a, s, u, h => by simp at h
  | t :: ts, 0, a, s, u, h => by
    simp only [List.getElem?_cons_zero, Option.some.injEq] at h
    subst h
    rw [takeN, List.take_zero, cntL, Nat.add_zero]
  | t :: ts, i + 1, a, s, u, h => by
    rw [takeN, Z23p (by simpa using h), List.take_succ_cons, cntL, Nat.add_assoc]
theorem Z23q {l : List Nd} (hT : TreeN l) {keep : List Bool} (hW : Whole l keep) {cols : List Col} {a : Nat} {n : Nd} (hn : l[a]? = some n) (hok : n.t.Ok) {i m : Int} {b : List UInt8} {ks : List Vl} (hv : vchk n.t (.mk false i m b ks) = 0) (hka : keep.getD a false = true)
    (ih : ∀ v ∈ ks, Z22c l keep cols v) {j : Nat} {v : Vl} (hj : ks[j]? = some v) : KidI l keep cols a n i j v := by
  obtain ⟨x, q, h1, h2, h3, h4, h5, h6, h7⟩ := Z1m4 hT hn hok hv hj
  obtain ⟨u, q', e1, e2, e3, e4, _⟩ := (hT.nok a n hn).kids _ _ h1
  rw [h3] at e3
  cases e3
  refine ⟨ih v (List.mem_of_getElem? hj), q, by rw [← e2]; exact h3, by rw [e1, e4], h6, h7, by rw [h2, e2], fun hk => ?_⟩
  rw [← e2]
  rcases (hW a n hn x (List.mem_of_getElem? h1)).2 hka with e | e
  · exact e
  · exact absurd e hk
theorem Z23r {l : List Nd} (hT : TreeN l) {keep : List Bool} (hW : Whole l keep) {x c : Nat} (h : Anc l x c) : keep.getD c false = true → keep.getD x false = true := by
  induction h with
  | refl => exact id
  | @step c p n hc hp _ ih =>
    intro hk
    refine ih ?_
    by_cases h0 : c = 0
    · subst h0
      have := (hT.root n hc).1
      omega
    · obtain ⟨⟨p', q, j, e1, e2, e3, e4, _⟩⟩ := hT.par c n hc (by omega)
      have : p' = p := by omega
      subst this
      exact (hW p' q e3 c (List.mem_of_getElem? e4)).1 hk
theorem Z23s {l : List Nd} (hT : TreeN l) {keep : List Bool} (hW : Whole l keep) (cols : List Col) : ∀ v : Vl, Z22c l keep cols v := by
  refine Vl.ind fun nu i m b ks ih a n hn hok hv hka s P hs hH => ?_
  have hal := (List.getElem?_eq_some_iff.1 hn).1
  obtain ⟨Q, hQ⟩ := hH a hal hka
  have hkind : Zyh l a = n.t.kind := by rw [Zyh, hn]
  have hat := hs.at_ a hal hka
  have hhe := hs.he a hal hka
  have hgd := hs.good a hal hka
  rw [hkind] at hgd
  have hkinds := hok.kinds
  have hKI := fun (hv : vchk n.t (.mk false i m b ks) = 0) (j : Nat) (w : Vl) (hj : ks[j]? = some w) => Z23q hT hW (cols := cols) hn hok hv hka ih hj
  have hnk := fun x q (h : l[x]? = some q) => hT.nok x q h
  simp only at hQ
  cases nu with
  | true =>
    rw [vchk, if_pos rfl] at hv
    split at hv
    · cases hv
    rename_i h0
    simp only [not_or, Decidable.not_not] at h0
    obtain ⟨rfl, rfl, rfl, hks⟩ := h0
    obtain rfl : ks = [] := List.length_eq_zero_iff.1 hks
    have hp : ∀ c, pcon l a c (.mk true 0 0 [] []) = if c = a then Zyg false col0 else col0 := fun c => by rw [pcon, if_pos rfl]
    refine ⟨_, ?_, (hs.null hal hka).congr fun c => by rw [hp]⟩
    have hh : (cols.getD a col0).here[s.at_.getD a 0]? = some false := by
      rw [hQ, hp, if_pos rfl, hat]
      show (((P a).here ++ [false]) ++ Q.here)[(P a).here.length]? = _
      rw [List.append_assoc]
      exact Z22a _ _ _
    obtain ⟨⟨k, ns, tk, le, pr, sc⟩, kids, par, deep⟩ := n
    rw [takeT, hh, prV, prL]
    rfl
  | false =>
    obtain ⟨ho, hvL⟩ := Z1m3 hv
    have hKJ := hKI hv
    clear hKI
    have hp : ∀ c, pcon l a c (.mk false i m b ks) = appC (if c = a then addC (Zyh l a) (.mk false i m b ks) col0 else col0) (pconL l a c i 0 ks) := fun c => by rw [pcon, if_neg (by simp)]
    have hs1 := hs.own hal hka (.mk false i m b ks)
    have hH1 : Holds l keep cols (fun c => appC (P c) (if c = a then addC (Zyh l a) (.mk false i m b ks) col0 else col0)) (fun c => pconL l a c i 0 ks) := by
      refine Holds.rest fun c hc hk => ?_
      have := hH c hc hk
      simp only at this ⊢
      rw [hp] at this
      exact this
    rw [hp, if_pos rfl, hkind] at hQ
    have hh : (cols.getD a col0).here[s.at_.getD a 0]? = some true := by
      rw [hQ, hat]
      have e : (addC n.t.kind (.mk false i m b ks) col0).here = [true] := by
        unfold addC Zyf Zye Zyg col0
        (repeat' split) <;> rfl
      show (((P a).here ++ ((addC n.t.kind (.mk false i m b ks) col0).here ++ _)) ++ Q.here)[(P a).here.length]? = _
      rw [e, List.append_assoc]
      exact Z22a _ _ _
    have hle : ¬ s.at_.getD a 0 < s.he.getD a 0 := by
      have := List.count_le_length (a := true) (l := (P a).here)
      omega
    have fields : ∀ {α : Type} (f : Col → List α) (hf : ∀ x y : Col, f (appC x y) = f x ++ f y) (y : α), f (addC n.t.kind (.mk false i m b ks) col0) = [y] → (f (P a)).length = (P a).here.count true → (f (cols.getD a col0))[s.he.getD a 0]? = some y := by
      intro α f hf y h1 h2
      rw [hQ, hf, hf, hf, h1, hhe, ← h2, List.append_assoc]
      exact Z22a _ _ _
    have fin : ∀ s' r, takeT cols keep n.t a s = some (r, s') → r = .mk false i m b (prL l keep a i 0 ks) → Stand l keep s' (fun c => appC (appC (P c) (if c = a then addC (Zyh l a) (.mk false i m b ks) col0 else col0)) (pconL l a c i 0 ks)) → ∃ s', takeT cols keep n.t a s = some (prV l keep a (.mk false i m b ks), s') ∧ Stand l keep s' (fun c => appC (P c) (pcon l a c (.mk false i m b ks))) := by
      intro s' r h1 h2 h3
      exact ⟨s', by rw [h1, h2, prV], h3.congr fun c => by rw [hp, Z1lp]⟩
    clear hH hQ
    generalize hs2 : (⟨s.at_.set a (s.at_.getD a 0 + 1), s.he.set a (s.he.getD a 0 + 1)⟩ : Tk) = s2 at hs1
    obtain ⟨g1, g2, g3, g4⟩ := hgd
    -- what the type says
    have hnum : Zme n.t.kind n.t.kids.length n.t.prec i m = true ∧ (b ≠ [] → Zmb n.t.kind = true) ∧ (ks.length ≠ 0 → Zlt n.t.kind = false) := by
      unfold ownV at ho
      split at ho
      · cases ho
      · rename_i h1
        simp only [not_or, not_and, Bool.not_eq_false, Bool.not_eq_true] at h1
        exact ⟨h1.1, h1.2.1, h1.2.2⟩
    obtain ⟨u1, u2, u3⟩ := hnum
    have hb0 : Zmb n.t.kind = false → b = [] := fun h => by
      by_cases e : b = []
      · exact e
      · have := u2 e; rw [h] at this; cases this
    have hm0 : n.t.kind ≠ 9 → m = 0 := fun h => by
      rw [Zme] at u1
      split at u1
      · cases u1
      · rename_i h2; simp only [not_and, Decidable.not_not] at h2
        by_cases e : m = 0
        · exact e
        · exact absurd (h2 e) h
    have hTt : ∀ (r : Vl × Tk), (match (cols.getD a col0).here[s.at_.getD a 0]? with | none => none | some false => some (nullV, (⟨s.at_.set a (s.at_.getD a 0 + 1), s.he⟩ : Tk)) | some true => some r) = some r := fun r => by rw [hh]
    have hunf : takeT cols keep n.t a s =
      (if n.t.kind = 10 ∨ n.t.kind = 11 then
        match (cols.getD a col0).lens[s.he.getD a 0]? with
        | none => none
        | some x => match iterO (takeL cols keep n.t.kids (a + 1)) x.toNat s2 with
          | none => none
          | some (vs, s) => some (.mk false 0 0 [] vs, s)
      else if n.t.kind = 12 then
        match takeS cols keep n.t.kids (a + 1) s2 with
        | none => none
        | some (vs, s) => some (.mk false 0 0 [] vs, s)
      else if n.t.kind = 13 then
        match (cols.getD a col0).ints[s.he.getD a 0]? with
        | none => none
        | some x => if x < 0 then none else match takeN cols keep n.t.kids x.toNat (a + 1) s2 with
          | none => none
          | some (v, s) => some (.mk false x 0 [] [v], s)
      else if Zmb n.t.kind = true then
        match (cols.getD a col0).texts[s.he.getD a 0]? with
        | none => none
        | some b => some (.mk false 0 0 b [], s2)
      else if n.t.kind = 9 then
        match (cols.getD a col0).ns[s.he.getD a 0]?, (cols.getD a col0).ints[s.he.getD a 0]? with
        | some m, some n => some (.mk false n m [] [], s2)
        | _, _ => none
      else
        match (cols.getD a col0).ints[s.he.getD a 0]? with
        | none => none
        | some n => some (.mk false n 0 [] [], s2)) := by
      rw [← hs2]
      clear hTt fields fin hKJ u1 u2 u3 hb0 hm0 g1 g2 g3 g4 ho hvL hp hs1 hH1 hhe hat hkinds
      obtain ⟨⟨k, ns, tk, le, pr, sc⟩, kids, par, deep⟩ := n
      rw [takeT, hh]
      simp only [if_neg hle]
      rfl
    by_cases k10 : n.t.kind = 10
    · have hz : i = 0 := by
        rw [Zme] at u1
        rw [k10] at u1
        split at u1
        · cases u1
        · simpa using u1
      have hm := hm0 (by omega)
      have hbb := hb0 (by rw [k10]; rfl)
      subst hz hm hbb
      have hl1 : n.t.kids.length = 1 := by
        have := hkinds.1
        rw [Zlv, if_pos k10] at this
        simpa using this
      obtain ⟨u, hu⟩ := List.length_eq_one_iff.1 hl1
      obtain ⟨s', t1, t2⟩ := Z22d k10 hu ks 0 (fun m v hm => by rw [Nat.zero_add]; exact hKJ m v hm) s2 _ hs1 hH1
      have hln := fields Col.lens (fun _ _ => rfl) (ks.length : Int) (by simp [addC, Zyf, Zye, Zyg, col0, k10, Zmb, Vl.kids]) (by rw [g4, if_pos (.inl k10)])
      refine fin s' _ ?_ rfl t2
      rw [hunf, if_pos (.inl k10), hln]
      simp only [Int.toNat_natCast]
      rw [t1]
    by_cases k11 : n.t.kind = 11
    · have hz : i = 0 := by
        rw [Zme] at u1
        rw [k11] at u1
        split at u1
        · cases u1
        · simpa using u1
      have hm := hm0 (by omega)
      have hbb := hb0 (by rw [k11]; rfl)
      subst hz hm hbb
      have hev : ks.length = 2 * (ks.length / 2) := by
        unfold ownV at ho
        (repeat' split at ho) <;> first | omega | (exfalso; omega)
      have hl1 : n.t.kids.length = 2 := by
        have := hkinds.1
        rw [Zlv, if_neg (by omega), if_pos k11] at this
        simpa using this
      obtain ⟨u, w, hu⟩ : ∃ u w, n.t.kids = [u, w] := by
        match h : n.t.kids, hl1 with
        | [u, w], _ => exact ⟨u, w, rfl⟩
      obtain ⟨s', t1, t2⟩ := Z22e k11 hu (ks.length / 2) ks 0 hev (by omega) (fun m v hm => by rw [Nat.zero_add]; exact hKJ m v hm) s2 _ hs1 hH1
      have hln := fields Col.lens (fun _ _ => rfl) ((ks.length / 2 : Nat) : Int) (by simp [addC, Zyf, Zye, Zyg, col0, k11, Zmb, Vl.kids]) (by rw [g4, if_pos (.inr k11)])
      refine fin s' _ ?_ rfl t2
      rw [hunf, if_pos (.inr k11), hln]
      simp only [Int.toNat_natCast]
      rw [t1]
    rw [if_neg (by omega)] at hunf
    by_cases k12 : n.t.kind = 12
    · have hz : i = 0 := by
        rw [Zme] at u1
        rw [k12] at u1
        split at u1
        · cases u1
        · simpa using u1
      have hm := hm0 (by omega)
      have hbb := hb0 (by rw [k12]; rfl)
      subst hz hm hbb
      have hkl : n.t.kids.length = ks.length := by
        unfold ownV at ho
        (repeat' split at ho) <;> first | omega | (exfalso; omega)
      obtain ⟨s', t1, t2⟩ := Z22f k12 n.t.kids ks 0 rfl hkl (fun m v hm => by rw [Nat.zero_add]; exact hKJ m v hm) s2 _ hs1 hH1 (fun x hx m v hm e c hc hk => by
        obtain ⟨_, q, q1, q2, q3, q4, q5, _⟩ := hKJ m v hm
        have hka' : Zmf n.t.kind 0 m = m := by simp [Zmf, k12]
        rw [hka'] at q1
        rw [Nat.zero_add] at e
        rw [e] at q1
        refine Z1m7 hT v x q q1 q3 q4 fun hh => ?_
        have := Z23r hT hW hh hk
        rw [hx] at this
        cases this)
      rw [List.take_zero, cntL, Nat.add_zero] at t1
      refine fin s' _ ?_ rfl t2
      rw [hunf, if_pos k12, t1]
    rw [if_neg k12] at hunf
    by_cases k13 : n.t.kind = 13
    · have hm := hm0 (by omega)
      have hbb := hb0 (by rw [k13]; rfl)
      subst hm hbb
      have hi0 : 0 ≤ i ∧ i < n.t.kids.length := by
        rw [Zme] at u1
        rw [k13] at u1
        split at u1
        · cases u1
        · simpa using u1
      have hl1 : ks.length = 1 := by
        unfold ownV at ho
        (repeat' split at ho) <;> first | omega | (exfalso; omega)
      obtain ⟨w, rfl⟩ := List.length_eq_one_iff.1 hl1
      obtain ⟨hok', q, q1, q2, q3, q4, q5, q6⟩ := hKJ 0 w rfl
      have hka' : Zmf n.t.kind i 0 = i.toNat := by simp [Zmf, k13]
      rw [hka'] at q1 q2 q5 q6
      have hkp := q6 (by omega)
      have hH2 := hH1
      simp only [pconL, q5, Z1ln] at hH2
      obtain ⟨s', t1, t2⟩ := hok' _ q q1 q3 q4 hkp s2 _ hs1 hH2
      have hin := fields Col.ints (fun _ _ => rfl) i (by simp [addC, Zyf, Zye, Zyg, col0, k13, Zmb, Vl.i]) (by rw [g2, if_neg (by rw [k13]; decide)])
      refine fin s' (.mk false i 0 [] [prV l keep (a + 1 + cntL (n.t.kids.take i.toNat)) w]) ?_ ?_ (t2.congr fun c => by rw [pconL, pconL, Z1ln, q5])
      · rw [hunf, if_pos k13, hin]
        simp only
        rw [if_neg (by omega), Z23p q2, t1]
      · rw [prL, q5, if_pos hkp, prL]
    rw [if_neg k13] at hunf
    have hleaf : Zlt n.t.kind = true := by simp [Zlt, k10, k11, k12, k13]
    have hks0 : ks = [] := by
      by_cases e : ks.length = 0
      · exact List.length_eq_zero_iff.1 e
      · have := u3 e; rw [hleaf] at this; cases this
    subst hks0
    have hs3 : Stand l keep s2 (fun c => appC (appC (P c) (if c = a then addC (Zyh l a) (.mk false i m b []) col0 else col0)) (pconL l a c i 0 [])) := hs1.congr fun c => by rw [pconL, Z1ln]
    by_cases hT7 : Zmb n.t.kind = true
    · have hk := Z1jz hT7
      have hm := hm0 (by omega)
      have hz : i = 0 := by
        rw [Zme] at u1
        rw [if_neg (by omega), if_neg (by omega), if_neg (by omega), if_neg (by omega), if_neg (by omega), if_neg (by omega), if_neg (by omega), if_neg (by omega), if_neg (by omega)] at u1
        exact of_decide_eq_true u1
      subst hm hz
      have hin := fields Col.texts (fun _ _ => rfl) b (by rw [addC, Zyf, if_neg (by omega), Zye, if_pos hT7]; rfl) (by rw [g1, if_pos hT7])
      refine fin s2 _ ?_ rfl hs3
      rw [hunf, if_pos hT7, hin]
      rfl
    rw [if_neg hT7] at hunf
    have hbb := hb0 (by simpa using hT7)
    subst hbb
    by_cases k9 : n.t.kind = 9
    · have hin := fields Col.ints (fun _ _ => rfl) i (by simp [addC, Zyf, Zye, Zyg, col0, k9, Zmb, Vl.i]) (by rw [g2, if_neg (by rw [k9]; decide)])
      have hns := fields Col.ns (fun _ _ => rfl) m (by simp [addC, Zyf, Zye, Zyg, col0, k9, Zmb, Vl.n]) (by rw [g3, if_pos k9])
      refine fin s2 _ ?_ rfl hs3
      rw [hunf, if_pos k9, hin, hns]
      rfl
    · have hm := hm0 k9
      subst hm
      rw [if_neg k9] at hunf
      have hin := fields Col.ints (fun _ _ => rfl) i (by rw [addC, Zyf, if_neg k9, Zye, if_neg hT7, if_neg k10, if_neg k11, if_pos k12]; rfl) (by rw [g2, if_neg (by simp [hT7, k10, k11, k12])])
      refine fin s2 _ ?_ rfl hs3
      rw [hunf, hin]
      rfl
theorem Z23t {l : List Nd} (hT : TreeN l) {keep : List Bool} (hW : Whole l keep) {cols : List Col} {n0 : Nd} (hn0 : l[0]? = some n0) (hok : n0.t.Ok) (hk0 : keep.getD 0 false = true) : ∀ (rows : List Vl), (∀ v ∈ rows, vchk n0.t v = 0) → ∀ (s : Tk) (P : Nat → Col), Stand l keep s P → Holds l keep cols P (fun c => Z1lm l c rows) →
    ∃ s', takeR cols keep n0.t rows.length s = some (rows.map (prV l keep 0), s')
  | [], _, s, P, _, _ => ⟨s, rfl⟩
  | v :: vs, h, s, P, hs, hH => by
    simp only [Z1lm] at hH
    obtain ⟨s1, t1, t2⟩ := Z23s hT hW cols v 0 n0 hn0 hok (h v (by simp)) hk0 s P hs hH.first
    obtain ⟨s2, t3⟩ := Z23t hT hW hn0 hok hk0 vs (fun w hw => h w (List.mem_cons_of_mem _ hw)) s1 _ t2 hH.rest
    exact ⟨s2, by rw [List.length_cons, takeR, t1]; simp only; rw [t3]; rfl⟩
end Go.Abs
namespace Go.Abs
open Go Go.Proofs
set_option linter.unusedVariables false
set_option linter.unusedSimpArgs false
theorem Z1pr (a b : Col) : (appC a b).here.length = a.here.length + b.here.length := by simp [appC]
def tB5 : Ty := .mk 0 [] [] 0 0 0
def tS5 : Ty := .mk 12 [[97]] [tB5] 0 0 0
def tN5 : Ty := .mk 12 [[115]] [tS5] 0 0 0
def Z1pz : List Nd := [⟨tN5, [1], -1, 1⟩, ⟨tS5, [2], 0, 2⟩, ⟨tB5, [], 1, 3⟩]
def inN5 (nu i : Bool) : Vl := if nu = true then .mk true 0 0 [] [] else .mk false 0 0 [] [.mk i 0 0 [] []]
def rowN5 (nu i : Bool) : Vl := .mk false 0 0 [] [inN5 nu i]
end Go.Abs
namespace Go.Abs
open Go Go.Proofs
set_option linter.unusedVariables false
set_option linter.unusedSimpArgs false
set_option maxHeartbeats 4000000
def keyF (l : List Nd) (x : Nat) : Bool :=
  match l[x]? with
  | none => false
  | some nd => if nd.parent < 0 then true else
    match l[nd.parent.toNat]? with
    | none => false
    | some q => decide (q.t.kind = 11) && decide (q.kids[0]? = some x)
theorem Z23u {l : List Nd} (hT : TreeN l) {i : Nat} {n : Nd} (hn : l[i]? = some n) {j x : Nat} (hx : n.kids[j]? = some x) : keyF l x = (decide (n.t.kind = 11) && decide (j = 0)) := by
  have hN := hT.nok i n hn
  obtain ⟨u, m, e1, e2, e3, e4, e5, _⟩ := hN.kids j x hx
  have hinj : n.kids[0]? = some x ↔ j = 0 := by
    constructor
    · intro h
      obtain ⟨u', m', f1, f2, f3, _⟩ := hN.kids 0 x h
      rw [List.take_zero, cntL] at f2
      by_cases e : j = 0
      · exact e
      · have h0 : 0 < n.t.kids.length := (List.getElem?_eq_some_iff.1 f1).1
        have hjl := (List.getElem?_eq_some_iff.1 e1).1
        have key : ∀ (ks : List Ty) (j : Nat), 0 < j → 0 < ks.length → 0 < cntL (ks.take j) := by
          intro ks j hj hk
          match ks, j, hk with
          | t :: ts, j + 1, _ =>
            have := Z1ly t
            rw [List.take_succ_cons, cntL]; omega
        have := key n.t.kids j (by omega) h0
        omega
    · intro e; rw [← e]; exact hx
  rw [keyF, e3]
  simp only
  rw [e5, if_neg (by omega), Int.toNat_natCast, hn]
  simp only
  congr 1
  exact decide_eq_decide.2 hinj
def ownC (k : Int) (v : Vl) : Col := if v.null = true then Zyg false col0 else addC k v col0
theorem Z23v {l : List Nd} (hT : TreeN l) (Pr : Nat → Col → Prop) (h0 : ∀ c, Pr c col0) (happ : ∀ c A B, Pr c A → Pr c B → Pr c (appC A B))
    (hown : ∀ (a : Nat) (n : Nd) (v : Vl), l[a]? = some n → n.t.Ok → vchk n.t v = 0 → (keyF l a = true → v.null = false) → Pr a (ownC n.t.kind v)) :
    ∀ (v : Vl) (a : Nat) (n : Nd), l[a]? = some n → n.t.Ok → vchk n.t v = 0 → (keyF l a = true → v.null = false) → ∀ c, Pr c (pcon l a c v) := by
  refine Vl.ind fun nu i m b ks ih a n hn hok hv hkey c => ?_
  have hO := hown a n _ hn hok hv hkey
  have hkind : Zyh l a = n.t.kind := by rw [Zyh, hn]
  cases nu with
  | true =>
    rw [pcon, if_pos rfl]
    split
    · rename_i e; subst e; exact hO
    · exact h0 c
  | false =>
    rw [pcon, if_neg (by simp)]
    refine happ _ _ _ ?_ ?_
    · split
      · rename_i e; subst e; rw [hkind]; exact hO
      · exact h0 c
    · have hL : ∀ (vs : List Vl) (j : Nat), (∀ m w, vs[m]? = some w → ks[j + m]? = some w) → Pr c (pconL l a c i j vs) := by
        intro vs
        induction vs with
        | nil => intro j _; rw [pconL]; exact h0 c
        | cons w vs ih2 =>
          intro j hj
          rw [pconL]
          refine happ _ _ _ ?_ (ih2 (j + 1) fun m w' hw => by have := hj (m + 1) w' (by simpa using hw); rw [show j + 1 + m = j + (m + 1) by omega]; exact this)
          have hw0 := hj 0 w rfl
          rw [Nat.add_zero] at hw0
          obtain ⟨x, q, x1, x2, x3, x4, x5, x6, x7⟩ := Z1m4 hT hn hok hv hw0
          rw [x2]
          refine ih w (List.mem_of_getElem? hw0) x q x3 x6 x7 (fun hkx => ?_) c
          rw [Z23u hT hn x1] at hkx
          simp only [Bool.and_eq_true, decide_eq_true_eq] at hkx
          obtain ⟨k11, kj⟩ := hkx
          have hj2 : j % 2 = 0 := by
            rw [Zmf, if_neg (by omega), if_pos k11] at kj
            exact kj
          have hvL := (Z1m3 hv).2
          have key : ∀ (ks : List Vl) (p : Nat), Zmg n.t i p ks = 0 → ∀ (m : Nat) (w : Vl), ks[m]? = some w → (p + m) % 2 = 0 → w.null = false := by
            intro ks
            induction ks with
            | nil => intro p _ m w h; simp at h
            | cons y ys ih3 =>
              intro p h m w hw hp
              rw [Zmg] at h
              split at h
              · cases h
              · rename_i hne
                split at h
                · rename_i h1; exact absurd h h1
                · cases m with
                  | zero =>
                    simp only [List.getElem?_cons_zero, Option.some.injEq] at hw
                    subst hw
                    cases e : y.null with
                    | false => rfl
                    | true => exact absurd ⟨k11, by simpa using hp, e⟩ hne
                  | succ m => exact ih3 (p + 1) h m w (by simpa using hw) (by rw [show p + 1 + m = p + (m + 1) by omega]; exact hp)
          exact key ks 0 hvL j w hw0 (by rw [Nat.zero_add]; exact hj2)
      exact hL ks 0 fun m w hw => by rw [Nat.zero_add]; exact hw
def cntK (k : Int) (c : Col) (j : Nat) : Nat := if k = 10 ∨ k = 11 then (c.lens.map Int.toNat).sum else if k = 13 then c.ints.count (j : Int) else c.here.count true
theorem Z23w (k : Int) (a b : Col) (j : Nat) : cntK k (appC a b) j = cntK k a j + cntK k b j := by
  unfold cntK appC
  split
  · simp
  · split
    · simp
    · simp
theorem Z23x (k : Int) (j : Nat) : cntK k col0 j = 0 := by
  unfold cntK col0
  (repeat' split) <;> simp
theorem Z23y (k : Int) (j : Nat) : cntK k (Zyg false col0) j = 0 := by
  unfold cntK Zyg col0
  (repeat' split) <;> simp
theorem Z23z : ∀ (l : List Int) (out : Nat), (∀ v ∈ l, 0 ≤ v) → out + (l.map Int.toNat).sum ≤ 16384 → sumL l out = out + (l.map Int.toNat).sum
  | [], out, _, _ => by simp [sumL]
  | v :: vs, out, h, hs => by
    have hv := h v (by simp)
    simp only [List.map_cons, List.sum_cons] at hs ⊢
    rw [sumL, if_neg (by omega), Z23z vs _ (fun w hw => h w (List.mem_cons_of_mem _ hw)) (by omega)]
    omega
theorem Z240 {k : Int} {c : Col} {j : Nat} (h1 : ∀ v ∈ c.lens, 0 ≤ v) (h2 : cntK k c j ≤ 16384) : askF k c (j : Int) = cntK k c j := by
  unfold askF
  unfold cntK at h2 ⊢
  split
  · rename_i h; rw [if_pos h] at h2
    rw [Z23z _ _ h1 (by omega)]; omega
  · rename_i h
    rw [if_neg h] at h2
    split
    · rfl
    · rfl
theorem Z241 {l : List Nd} (hT : TreeN l) {x : Nat} {q : Nd} (hq : l[x]? = some q) (hok : q.t.Ok) {w : Vl} (hv : vchk q.t w = 0) : pcon l x x w = ownC q.t.kind w := by
  obtain ⟨nu, i, m, b, ks⟩ := w
  have hkind : Zyh l x = q.t.kind := by rw [Zyh, hq]
  cases nu with
  | true => rw [pcon, if_pos rfl, if_pos rfl]; rfl
  | false =>
    have hz : pconL l x x i 0 ks = col0 := Z1m5 ks 0 fun j w hj => by
      rw [Nat.zero_add]
      obtain ⟨y, p, e1, e2, e3, e4, e5, e6, e7⟩ := Z1m4 hT hq hok hv hj
      rw [e2]
      refine Z1m7 hT w y p e3 e6 e7 fun hh => ?_
      have a1 := hh.le hT
      have a2 := hT.up e3 e4
      omega
    rw [pcon, if_neg (by simp), if_pos rfl, hz, Z1ln, hkind, ownC, if_neg (by simp [Vl.null])]
def Z242 (k i : Int) (j : Nat) : Nat → Nat → Nat
  | _, 0 => 0
  | p, n + 1 => (if Zmf k i p = j then 1 else 0) + Z242 k i j (p + 1) n
theorem Z243 {k i : Int} (hk : k = 10) : ∀ (n p : Nat), Z242 k i 0 p n = n
  | 0, p => rfl
  | n + 1, p => by rw [Z242, Z243 hk n, if_pos (by simp [Zmf, hk])]; omega
theorem Z244 {k i : Int} (hk : k = 11) {j : Nat} (hj : j < 2) : ∀ (n p : Nat), p % 2 = 0 → Z242 k i j p (2 * n) = n
  | 0, p, _ => rfl
  | n + 1, p, hp => by
    have h1 : Zmf k i p = 0 := by simp [Zmf, hk]; exact hp
    have h2 : Zmf k i (p + 1) = 1 := by simp [Zmf, hk]; omega
    rw [show 2 * (n + 1) = 2 * n + 1 + 1 by omega, Z242, Z242, Z244 hk hj n (p + 1 + 1) (by omega), h1, h2]
    by_cases e : j = 0
    · subst e; simp; omega
    · have : j = 1 := by omega
      subst this; simp; omega
theorem Z245 {k i : Int} (hk : k = 12) {j : Nat} : ∀ (n p : Nat), Z242 k i j p n = if p ≤ j ∧ j < p + n then 1 else 0
  | 0, p => by rw [Z242, if_neg (by omega)]
  | n + 1, p => by
    have h1 : Zmf k i p = p := by simp [Zmf, hk]
    rw [Z242, Z245 hk n (p + 1), h1]
    by_cases e : p = j
    · rw [if_pos e, if_neg (by omega), if_pos (by omega)]
    · rw [if_neg e]
      by_cases e2 : p + 1 ≤ j ∧ j < p + 1 + n
      · rw [if_pos e2, if_pos (by omega)]
      · rw [if_neg e2, if_neg (by omega)]
theorem Z246 {l : List Nd} (hT : TreeN l) {i : Nat} {nd : Nd} (hnd : l[i]? = some nd) {j x : Nat} (hx : nd.kids[j]? = some x) : ∀ (v : Vl) (a : Nat) (n : Nd), l[a]? = some n → n.t.Ok → vchk n.t v = 0 → a ≠ x → (pcon l a x v).here.length = cntK nd.t.kind (pcon l a i v) j := by
  obtain ⟨u, q, q1, q2, q3, q4, q5, _⟩ := (hT.nok i nd hnd).kids j x hx
  have hxi := hT.up q3 q5
  have hinj := fun (m : Nat) (h : nd.kids[m]? = some x) => (show m = j from by
    obtain ⟨_, _, _, f2, _⟩ := (hT.nok i nd hnd).kids m x h
    have l1 := (List.getElem?_eq_some_iff.1 h).1
    have l2 := (List.getElem?_eq_some_iff.1 hx).1
    have hlen := (hT.nok i nd hnd).len
    have lt : ∀ (ks : List Ty) (j m : Nat), j < m → m ≤ ks.length → cntL (ks.take j) < cntL (ks.take m) := by
      intro ks
      induction ks with
      | nil => intro j m h1 h2; simp at h2; omega
      | cons t ts ih =>
        intro j m h1 h2
        have := Z1ly t
        match j, m, h1 with
        | 0, m + 1, _ => rw [List.take_succ_cons, cntL, List.take_zero, cntL]; omega
        | j + 1, m + 1, h1 =>
          have := ih j m (by omega) (by simpa using h2)
          rw [List.take_succ_cons, cntL, List.take_succ_cons, cntL]; omega
    rcases Nat.lt_trichotomy m j with e | e | e
    · have := lt nd.t.kids m j e (by omega); omega
    · exact e
    · have := lt nd.t.kids j m e (by omega); omega)
  refine Vl.ind fun nu i' m b ks ih a n hn hok hv hax => ?_
  have hxa : x ≠ a := fun e => hax e.symm
  have hkind : Zyh l a = n.t.kind := by rw [Zyh, hn]
  cases nu with
  | true =>
    rw [pcon, if_pos rfl, if_neg hxa, pcon, if_pos rfl]
    split
    · rw [Z23y]; rfl
    · rw [Z23x]; rfl
  | false =>
    obtain ⟨ho, hvL⟩ := Z1m3 hv
    rw [pcon, if_neg (by simp), if_neg hxa, Z1lo, pcon, if_neg (by simp), Z23w]
    by_cases hai : i = a
    · subst hai
      rw [hnd] at hn
      cases hn
      have hz : pconL l i i i' 0 ks = col0 := Z1m5 ks 0 fun j w hj => by
        rw [Nat.zero_add]
        obtain ⟨y, p, e1, e2, e3, e4, e5, e6, e7⟩ := Z1m4 hT hnd hok hv hj
        rw [e2]
        refine Z1m7 hT w y p e3 e6 e7 fun hh => ?_
        have a1 := hh.le hT
        have a2 := hT.up e3 e4
        omega
      rw [hz, Z23x, Nat.add_zero, if_pos rfl, hkind]
      have hL : ∀ (vs : List Vl) (p : Nat), (∀ m w, vs[m]? = some w → ks[p + m]? = some w) → (pconL l i x i' p vs).here.length = Z242 nd.t.kind i' j p vs.length := by
        intro vs
        induction vs with
        | nil => intro p _; rfl
        | cons w vs ih2 =>
          intro p hp
          have hw0 := hp 0 w rfl
          rw [Nat.add_zero] at hw0
          obtain ⟨y, r, y1, y2, y3, y4, y5, y6, y7⟩ := Z1m4 hT hnd hok hv hw0
          rw [pconL, Z1pr, ih2 (p + 1) (fun m w' hw => by have := hp (m + 1) w' (by simpa using hw); rw [show p + 1 + m = p + (m + 1) by omega]; exact this), List.length_cons, Z242, y2]
          congr 1
          by_cases e : Zmf nd.t.kind i' p = j
          · rw [if_pos e]
            rw [e, hx] at y1
            cases y1
            rw [Z241 hT y3 y6 y7, ownC]
            split
            · rfl
            · unfold addC Zyf Zye Zyg col0
              (repeat' split) <;> rfl
          · rw [if_neg e]
            have hyx : y ≠ x := fun e2 => e (hinj _ (by rw [← e2]; exact y1))
            have : pcon l y x w = col0 := Z1m7 hT w y r y3 y6 y7 fun hh => hyx (hh.sib hT y3 y4 q3 q5 .refl)
            rw [this]; rfl
      rw [hL ks 0 fun m w hw => by rw [Nat.zero_add]; exact hw]
      have hkl := (hT.nok i nd hnd).len
      have hjl := (List.getElem?_eq_some_iff.1 hx).1
      have hkinds := hok.kinds.1
      unfold cntK
      by_cases k10 : nd.t.kind = 10
      · rw [Zlv, if_pos k10] at hkinds
        have hj0 : j = 0 := by simp at hkinds; omega
        subst hj0
        rw [if_pos (.inl k10), Z243 k10]
        simp [addC, Zyf, Zye, Zyg, col0, k10, Zmb, Vl.kids]
      by_cases k11 : nd.t.kind = 11
      · rw [Zlv, if_neg k10, if_pos k11] at hkinds
        have hj2 : j < 2 := by simp at hkinds; omega
        have hev : ks.length = 2 * (ks.length / 2) := by
          unfold ownV at ho
          (repeat' split at ho) <;> first | omega | (exfalso; omega)
        rw [if_pos (.inr k11)]
        have := Z244 (i := i') k11 hj2 (ks.length / 2) 0 (by omega)
        rw [← hev] at this
        rw [this]
        simp [addC, Zyf, Zye, Zyg, col0, k11, Zmb, Vl.kids]
        omega
      rw [if_neg (by omega)]
      by_cases k13 : nd.t.kind = 13
      · rw [if_pos k13]
        have hl1 : ks.length = 1 := by
          unfold ownV at ho
          (repeat' split at ho) <;> first | omega | (exfalso; omega)
        have hi0 : 0 ≤ i' := by
          unfold ownV at ho
          split at ho
          · cases ho
          · rename_i h1
            simp only [not_or, not_and, Bool.not_eq_false, Bool.not_eq_true] at h1
            have u1 := h1.1
            rw [Zme] at u1
            rw [k13] at u1
            split at u1
            · cases u1
            · simp at u1; omega
        have e : (addC nd.t.kind (.mk false i' m b ks) col0).ints = [i'] := by simp [addC, Zyf, Zye, Zyg, col0, k13, Zmb, Vl.i]
        have e2 : Zmf nd.t.kind i' 0 = i'.toNat := by simp [Zmf, k13]
        rw [e, hl1, Z242, Z242, e2]
        simp only [List.count_cons, List.count_nil, beq_iff_eq, Nat.add_zero, Nat.zero_add]
        by_cases e3 : i'.toNat = j
        · rw [if_pos e3, if_pos (by omega)]
        · rw [if_neg e3, if_neg (by omega)]
      rw [if_neg k13, Z1p9]
      by_cases k12 : nd.t.kind = 12
      · have hks : ks.length = nd.t.kids.length := by
          unfold ownV at ho
          (repeat' split at ho) <;> first | omega | (exfalso; omega)
        rw [Z245 k12, if_pos (by omega)]
      · rw [Zlv, if_neg k10, if_neg k11, if_neg k12, if_neg k13] at hkinds
        simp at hkinds
        rw [hkinds] at hkl
        simp at hkl
        rw [hkl] at hjl
        simp at hjl
    · rw [if_neg hai, Z23x, Nat.zero_add]
      have hL : ∀ (vs : List Vl) (p : Nat), (∀ m w, vs[m]? = some w → ks[p + m]? = some w) → (pconL l a x i' p vs).here.length = cntK nd.t.kind (pconL l a i i' p vs) j := by
        intro vs
        induction vs with
        | nil => intro p _; rw [pconL, pconL, Z23x]; rfl
        | cons w vs ih2 =>
          intro p hp
          have hw0 := hp 0 w rfl
          rw [Nat.add_zero] at hw0
          obtain ⟨y, r, y1, y2, y3, y4, y5, y6, y7⟩ := Z1m4 hT hn hok hv hw0
          rw [pconL, pconL, Z1pr, Z23w, ih2 (p + 1) (fun m w' hw => by have := hp (m + 1) w' (by simpa using hw); rw [show p + 1 + m = p + (m + 1) by omega]; exact this), y2]
          congr 1
          refine ih w (List.mem_of_getElem? hw0) y r y3 y6 y7 fun e => ?_
          subst e
          rw [q3] at y3
          cases y3
          rw [q5] at y4
          exact hai (Int.ofNat.inj y4)
      exact hL ks 0 fun m w hw => by rw [Nat.zero_add]; exact hw
end Go.Abs
namespace Go.Abs
open Go Go.Proofs
set_option linter.unusedVariables false
set_option linter.unusedSimpArgs false
set_option maxHeartbeats 4000000
theorem Z247 {l : List Nd} (hT : TreeN l) {n0 : Nd} (h0 : l[0]? = some n0) (hok : n0.t.Ok) : ∀ (i : Nat) (n : Nd), l[i]? = some n → n.t.Ok := by
  intro i
  induction i using Nat.strongRecOn with
  | _ i ih =>
    intro n hn
    by_cases e : i = 0
    · subst e; rw [h0] at hn; cases hn; exact hok
    · obtain ⟨⟨p, q, j, _, hlt, hq, hj, _⟩⟩ := hT.par i n hn (by omega)
      obtain ⟨u, m, e1, _, e3, e4, _⟩ := (hT.nok p q hq).kids j i hj
      rw [hn] at e3
      cases e3
      have := ih p hlt q hq
      cases this with
      | mk _ h => rw [e4]; exact h u (List.mem_of_getElem? e1)
structure PrC (l : List Nd) (c : Nat) (A : Col) : Prop where
  ns : Zyh l c = 9 → A.ns.length = A.ints.length
  ints : ∀ nd, l[c]? = some nd → ∀ (i : Nat) v, A.ints[i]? = some v → Z1yj (tyK nd) v (if nd.t.kind = 9 then A.ns.getD i 0 else 0) = true
  texts : ∀ nd, l[c]? = some nd → ∀ b ∈ A.texts, vchk (tyK nd) (.mk false 0 0 b []) = 0
  lens : ∀ v ∈ A.lens, 0 ≤ v ∧ v ≤ 16384
  key : keyF l c = true → A.here.count true = A.here.length
theorem PrC.z (l : List Nd) (c : Nat) : PrC l c col0 := by
  constructor <;> simp [col0]
theorem PrC.app {l : List Nd} {c : Nat} {A B : Col} (a : PrC l c A) (b : PrC l c B) : PrC l c (appC A B) := by
  obtain ⟨a1, a2, a3, a4, a5⟩ := a
  obtain ⟨b1, b2, b3, b4, b5⟩ := b
  refine ⟨fun h => ?_, fun nd hn i v hv => ?_, fun nd hn t ht => ?_, fun v hv => ?_, fun h => ?_⟩
  · simp only [appC, List.length_append]; rw [a1 h, b1 h]
  · simp only [appC] at hv ⊢
    have hk : Zyh l c = nd.t.kind := by rw [Zyh, hn]
    by_cases e : i < A.ints.length
    · rw [List.getElem?_append_left e] at hv
      have := a2 nd hn i v hv
      by_cases k9 : nd.t.kind = 9
      · rw [if_pos k9] at this ⊢
        have hl := a1 (by rw [hk]; exact k9)
        rw [List.getD_eq_getElem?_getD, List.getElem?_append_left (by omega), ← List.getD_eq_getElem?_getD]
        exact this
      · rw [if_neg k9] at this ⊢; exact this
    · rw [List.getElem?_append_right (by omega)] at hv
      have := b2 nd hn _ v hv
      by_cases k9 : nd.t.kind = 9
      · rw [if_pos k9] at this ⊢
        have hl := a1 (by rw [hk]; exact k9)
        rw [List.getD_eq_getElem?_getD, List.getElem?_append_right (by omega), ← List.getD_eq_getElem?_getD, hl]
        exact this
      · rw [if_neg k9] at this ⊢; exact this
  · simp only [appC] at ht
    rcases List.mem_append.1 ht with h | h
    · exact a3 nd hn t h
    · exact b3 nd hn t h
  · simp only [appC] at hv
    rcases List.mem_append.1 hv with h | h
    · exact a4 v h
    · exact b4 v h
  · simp only [appC, List.count_append, List.length_append]; rw [a5 h, b5 h]
theorem PrC.own {l : List Nd} (hT : TreeN l) {a : Nat} {n : Nd} {v : Vl} (hn : l[a]? = some n) (hok : n.t.Ok) (hv : vchk n.t v = 0) (hkey : keyF l a = true → v.null = false) : PrC l a (ownC n.t.kind v) := by
  obtain ⟨nu, i, m, b, ks⟩ := v
  cases nu with
  | true =>
    refine ⟨?_, ?_, ?_, ?_, fun h => by have := hkey h; cases this⟩ <;> simp [ownC, Vl.null, Zyg, col0]
  | false =>
    have hkl := (hT.nok a n hn).len
    obtain ⟨ho, _⟩ := Z1m3 hv
    have hO : ownC n.t.kind (.mk false i m b ks) = addC n.t.kind (.mk false i m b ks) col0 := rfl
    rw [hO]
    have hkinds := hok.kinds
    have hnum : Zme n.t.kind n.t.kids.length n.t.prec i m = true ∧ (b ≠ [] → Zmb n.t.kind = true) ∧ (ks.length ≠ 0 → Zlt n.t.kind = false) := by
      unfold ownV at ho
      split at ho
      · cases ho
      · rename_i h1
        simp only [not_or, not_and, Bool.not_eq_false, Bool.not_eq_true] at h1
        exact ⟨h1.1, h1.2.1, h1.2.2⟩
    obtain ⟨u1, u2, u3⟩ := hnum
    have hb0 : Zmb n.t.kind = false → b = [] := fun h => by
      by_cases e : b = []
      · exact e
      · have := u2 e; rw [h] at this; cases this
    have hm0 : n.t.kind ≠ 9 → m = 0 := fun h => by
      rw [Zme] at u1
      split at u1
      · cases u1
      · rename_i h2; simp only [not_and, Decidable.not_not] at h2
        by_cases e : m = 0
        · exact e
        · exact absurd (h2 e) h
    have hks0 : Zlt n.t.kind = true → ks = [] := fun h => by
      by_cases e : ks.length = 0
      · exact List.length_eq_zero_iff.1 e
      · have := u3 e; rw [h] at this; cases this
    have hh : (addC n.t.kind (.mk false i m b ks) col0).here = [true] := by
      unfold addC Zyf Zye Zyg col0
      (repeat' split) <;> rfl
    have hvK : Zlt n.t.kind = true → vchk (tyK n) (.mk false i m b []) = 0 := fun h => by
      have e := hks0 h
      subst e
      have e1 : ownV (tyK n) i m b ([] : List Vl).length = ownV n.t i m b ([] : List Vl).length := by
        unfold ownV
        have e2 : (tyK n).kids.length = n.t.kids.length := by rw [← hkl]; simp [tyK, Ty.kids]
        have e3 : (tyK n).kind = n.t.kind := rfl
        have e4 : (tyK n).prec = n.t.prec := rfl
        have e5 : (tyK n).len = n.t.len := rfl
        rw [e2, e3, e4, e5]
      rw [vchk, if_neg (by simp), if_neg (by rw [e1, ho]; simp)]
      rfl
    have hkind : Zyh l a = n.t.kind := by rw [Zyh, hn]
    by_cases k10 : n.t.kind = 10
    · have e : addC n.t.kind (.mk false i m b ks) col0 = ⟨[true], [], [], [], [(ks.length : Int)]⟩ := by simp [addC, Zyf, Zye, Zyg, col0, k10, Zmb, Vl.kids]
      rw [e]
      refine ⟨fun _ => rfl, by simp, by simp, ?_, fun _ => rfl⟩
      intro v hv
      rw [List.mem_singleton.1 hv]
      unfold ownV at ho
      (repeat' split at ho) <;> first | omega | (exfalso; omega)
    by_cases k11 : n.t.kind = 11
    · have e : addC n.t.kind (.mk false i m b ks) col0 = ⟨[true], [], [], [], [((ks.length : Int) / 2)]⟩ := by simp [addC, Zyf, Zye, Zyg, col0, k11, Zmb, Vl.kids]
      rw [e]
      refine ⟨fun _ => rfl, by simp, by simp, ?_, fun _ => rfl⟩
      intro v hv
      rw [List.mem_singleton.1 hv]
      unfold ownV at ho
      (repeat' split at ho) <;> first | omega | (exfalso; omega)
    by_cases k12 : n.t.kind = 12
    · have e : addC n.t.kind (.mk false i m b ks) col0 = ⟨[true], [], [], [], []⟩ := by simp [addC, Zyf, Zye, Zyg, col0, k12, Zmb]
      rw [e]
      exact ⟨fun _ => rfl, by simp, by simp, by simp, fun _ => rfl⟩
    by_cases k13 : n.t.kind = 13
    · have e : addC n.t.kind (.mk false i m b ks) col0 = ⟨[true], [i], [], [], []⟩ := by simp [addC, Zyf, Zye, Zyg, col0, k13, Zmb, Vl.i]
      rw [e]
      refine ⟨fun h => by rw [hkind] at h; omega, ?_, by simp, by simp, fun _ => rfl⟩
      intro nd hnd j v hv
      rw [hn] at hnd
      cases hnd
      match j, hv with
      | 0, hv =>
        simp only [List.getElem?_cons_zero, Option.some.injEq] at hv
        subst hv
        rw [Z1yj, if_pos (by show n.t.kind = 13; exact k13)]
        rw [Zme] at u1
        rw [k13] at u1
        split at u1
        · cases u1
        · have e2 : (tyK n).kids.length = n.t.kids.length := by rw [← hkl]; simp [tyK, Ty.kids]
          rw [e2]
          simpa using u1
      | j + 1, hv => simp at hv
    have hleaf : Zlt n.t.kind = true := by simp [Zlt, k10, k11, k12, k13]
    have hvK := hvK hleaf
    by_cases hT7 : Zmb n.t.kind = true
    · have hk := Z1jz hT7
      have hm := hm0 (by omega)
      have hz : i = 0 := by
        rw [Zme] at u1
        rw [if_neg (by omega), if_neg (by omega), if_neg (by omega), if_neg (by omega), if_neg (by omega), if_neg (by omega), if_neg (by omega), if_neg (by omega), if_neg (by omega)] at u1
        exact of_decide_eq_true u1
      subst hm hz
      have e : addC n.t.kind (.mk false 0 0 b ks) col0 = ⟨[true], [], [], [b], []⟩ := by rw [addC, Zyf, if_neg (by omega), Zye, if_pos hT7]; rfl
      rw [e]
      refine ⟨fun _ => rfl, by simp, ?_, by simp, fun _ => rfl⟩
      intro nd hnd t ht
      rw [hn] at hnd
      cases hnd
      rw [List.mem_singleton.1 ht]
      exact hvK
    have hbb := hb0 (by simpa using hT7)
    subst hbb
    by_cases k9 : n.t.kind = 9
    · have e : addC n.t.kind (.mk false i m [] ks) col0 = ⟨[true], [i], [m], [], []⟩ := by simp [addC, Zyf, Zye, Zyg, col0, k9, Zmb, Vl.i, Vl.n]
      rw [e]
      refine ⟨fun _ => rfl, ?_, by simp, by simp, fun _ => rfl⟩
      intro nd hnd j v hv
      rw [hn] at hnd
      cases hnd
      match j, hv with
      | 0, hv =>
        simp only [List.getElem?_cons_zero, Option.some.injEq] at hv
        subst hv
        rw [Z1yj, if_neg (by show ¬ n.t.kind = 13; exact k13), if_pos k9]
        exact decide_eq_true hvK
      | j + 1, hv => simp at hv
    · have hm := hm0 k9
      subst hm
      have e : addC n.t.kind (.mk false i 0 [] ks) col0 = ⟨[true], [i], [], [], []⟩ := by rw [addC, Zyf, if_neg k9, Zye, if_neg hT7, if_neg k10, if_neg k11, if_pos k12]; rfl
      rw [e]
      refine ⟨fun h => by rw [hkind] at h; omega, ?_, by simp, by simp, fun _ => rfl⟩
      intro nd hnd j v hv
      rw [hn] at hnd
      cases hnd
      match j, hv with
      | 0, hv =>
        simp only [List.getElem?_cons_zero, Option.some.injEq] at hv
        subst hv
        rw [Z1yj, if_neg (by show ¬ n.t.kind = 13; exact k13), if_neg k9]
        exact decide_eq_true hvK
      | j + 1, hv => simp at hv
theorem PrC.rows {l : List Nd} (hT : TreeN l) {n0 : Nd} (h0 : l[0]? = some n0) (hok : n0.t.Ok) : ∀ (rows : List Vl), (∀ v ∈ rows, vchk n0.t v = 0 ∧ v.null = false) → ∀ c, PrC l c (Z1lm l c rows)
  | [], _, c => PrC.z l c
  | v :: vs, h, c => by
    obtain ⟨h1, h2⟩ := h v (by simp)
    rw [Z1lm]
    refine PrC.app ?_ (PrC.rows hT h0 hok vs (fun w hw => h w (List.mem_cons_of_mem _ hw)) c)
    exact Z23v hT (PrC l) (PrC.z l) (fun c A B => PrC.app) (fun a n v hn hok hv hk => PrC.own hT hn hok hv hk) v 0 n0 h0 hok h1 (fun _ => h2) c
theorem Z248 {l : List Nd} (hT : TreeN l) {n0 : Nd} (h0 : l[0]? = some n0) (hok : n0.t.Ok) {i : Nat} {nd : Nd} (hnd : l[i]? = some nd) {j x : Nat} (hx : nd.kids[j]? = some x) : ∀ (rows : List Vl), (∀ v ∈ rows, vchk n0.t v = 0) → (Z1lm l x rows).here.length = cntK nd.t.kind (Z1lm l i rows) j
  | [], _ => by rw [Z1lm, Z1lm, Z23x]; rfl
  | v :: vs, h => by
    have hxi : i < x := by
      obtain ⟨u, q, q1, q2, _⟩ := (hT.nok i nd hnd).kids j x hx
      omega
    rw [Z1lm, Z1lm, Z1pr, Z23w, Z248 hT h0 hok hnd hx vs fun w hw => h w (List.mem_cons_of_mem _ hw), Z246 hT hnd hx v 0 n0 h0 hok (h v (by simp)) (by omega)]
theorem Z1pb {l : List Nd} (hT : TreeN l) {n0 : Nd} (h0 : l[0]? = some n0) (hok : n0.t.Ok) : ∀ (rows : List Vl), (∀ v ∈ rows, vchk n0.t v = 0) → (Z1lm l 0 rows).here.length = rows.length
  | [], _ => rfl
  | v :: vs, h => by
    have h1 : (ownC n0.t.kind v).here.length = 1 := by
      unfold ownC addC Zyf Zye Zyg col0
      (repeat' split) <;> rfl
    rw [Z1lm, Z1pr, Z1pb hT h0 hok vs fun w hw => h w (List.mem_cons_of_mem _ hw), Z241 hT h0 hok (h v (by simp)), h1, List.length_cons]
    omega
theorem Z249 {t : Ty} {rows : List Vl} (hf : ∀ v ∈ rows, v.Fit) (hS : (Z1i6 t rows).2 = 0) {cols : List Col} {keep : List Bool} (hlen : cols.length = (Zm4 t).length)
    (hc : ∀ c, c < (Zm4 t).length → keep.getD c false = true → cols.getD c col0 = Z1lm (Zm4 t) c rows) :
    Asks (Zm4 t) cols keep rows.length (fun x => (Z1lm (Zm4 t) x rows).here.length) (keyF (Zm4 t)) ∧ ColsT (Zm4 t) cols keep := by
  obtain ⟨hck, hE, _, _⟩ := Z1l1 hS
  have hrow := Z1i8 hE
  obtain ⟨n0, hn0, hn0t⟩ := Z1pf hck
  have hok0 : n0.t.Ok := by rw [hn0t]; exact Ztu _ _ _ hck
  rw [← hn0t] at hrow
  have hT := Z1m1 t
  obtain ⟨kd1, kd2, kd3⟩ := Z1yn t
  have hcol : ∀ c, c < (Zm4 t).length → ColOk (Zyh (Zm4 t) c) (Z1lm (Zm4 t) c rows) := fun c h => Z1l3 hf hS (Z1lv hS h)
  have hpr := PrC.rows hT hn0 hok0 rows hrow
  have hnodes := Z247 hT hn0 hok0
  have hcnt := fun {i : Nat} {nd : Nd} (hnd : (Zm4 t)[i]? = some nd) {j x : Nat} (hx : nd.kids[j]? = some x) => Z248 hT hn0 hok0 hnd hx rows fun v hv => (hrow v hv).1
  have hroot := Z1pb hT hn0 hok0 rows fun v hv => (hrow v hv).1
  generalize Zm4 t = l at *
  have hask : ∀ i nd, l[i]? = some nd → ∀ (j x : Nat), nd.kids[j]? = some x → (Z1lm l x rows).here.length = askF nd.t.kind (Z1lm l i rows) (j : Int) := fun i nd hnd j x hx => by
    have h1 := hcnt hnd hx
    obtain ⟨_, _, _, _, hxl, _⟩ := (hT.nok i nd hnd).kids j x hx
    have h2 := (hcol x (List.getElem?_eq_some_iff.1 hxl).1).sm.here
    rw [Z240 (fun v hv => ((hpr i).lens v hv).1) (by omega)]
    exact h1
  refine ⟨⟨hroot, ?_, fun i nd hnd hki j x hx => ?_, fun i nd hnd hki => ?_⟩, hlen, fun i c hi hki => ?_, fun i c hi hki => ?_, fun i c hi hki => ?_⟩
  · rw [keyF, hn0]
    simp only
    rw [if_pos (by rw [(hT.root n0 hn0).1]; decide)]
  · have hil := (List.getElem?_eq_some_iff.1 hnd).1
    rw [hc i hil hki]
    exact ⟨hask i nd hnd j x hx, Z23u hT hnd hx⟩
  · have hil := (List.getElem?_eq_some_iff.1 hnd).1
    rw [hc i hil hki]
    obtain ⟨g1, g2, g3⟩ := hcol i hil
    obtain ⟨p1, p2, p3, p4, p5⟩ := hpr i
    have hk : Zyh l i = nd.t.kind := by rw [Zyh, hnd]
    rw [hk] at g1
    have hkl := (hT.nok i nd hnd).len
    refine ⟨g3, g2, g1, rfl, ?_, hnodes i nd hnd, hkl, p2 nd hnd, p3 nd hnd, fun v hv => (p4 v hv).1, fun h => ?_, fun h => ?_⟩
    · exact kd2 nd (List.mem_of_getElem? hnd)
    · simp only [Bool.not_eq_false'] at h
      exact p5 h
    · have hkk := (hnodes i nd hnd).kinds.1
      have h0 : 0 < nd.kids.length := by
        simp only [lenF, Bool.or_eq_true, decide_eq_true_eq] at h
        rw [hkl]
        rcases h with h | h
        · rw [Zlv, if_pos h] at hkk; simp at hkk; omega
        · rw [Zlv, if_neg (by omega), if_pos h] at hkk; simp at hkk; omega
      have hx := List.getElem?_eq_getElem h0
      have := hask i nd hnd 0 _ hx
      obtain ⟨_, _, _, _, hxl, _⟩ := (hT.nok i nd hnd).kids 0 _ hx
      have h2 := (hcol _ (List.getElem?_eq_some_iff.1 hxl).1).sm.here
      have h3 : askF nd.t.kind (Z1lm l i rows) 0 = askF nd.t.kind (Z1lm l i rows) ((0 : Nat) : Int) := rfl
      rw [h3]
      omega
  all_goals
    have hil := (List.getElem?_eq_some_iff.1 hi).1
    have e : c = Z1lm l i rows := by
      rw [← hc i (by omega) hki, List.getD_eq_getElem?_getD, hi]; rfl
    subst e
  · exact (hcol i (by omega)).sm
  · exact (hcol i (by omega)).rng.text
  · exact fun v hv => ((hpr i).lens v hv).2
theorem Z24a {t : Ty} {rows : List Vl} (hS : (Z1i6 t rows).2 = 0) {cols : List Col} {keep : List Bool} (hW : Whole (Zm4 t) keep) (hk0 : keep.getD 0 false = true)
    (hc : ∀ c, c < (Zm4 t).length → keep.getD c false = true → cols.getD c col0 = Z1lm (Zm4 t) c rows) :
    ∃ s', takeR cols keep t rows.length ⟨List.replicate (Zm4 t).length 0, List.replicate (Zm4 t).length 0⟩ = some (rows.map (prV (Zm4 t) keep 0), s') := by
  obtain ⟨hck, hE, _, _⟩ := Z1l1 hS
  have hrow := Z1i8 hE
  obtain ⟨n0, hn0, hn0t⟩ := Z1pf hck
  have hok0 : n0.t.Ok := by rw [hn0t]; exact Ztu _ _ _ hck
  have hT := Z1m1 t
  have hz : ∀ (n c : Nat), (List.replicate n 0).getD c 0 = 0 := fun n c => by
    rw [List.getD_eq_getElem?_getD, List.getElem?_replicate]
    split <;> rfl
  obtain ⟨s', h⟩ := Z23t hT hW hn0 hok0 hk0 rows (fun v hv => by rw [hn0t]; exact (hrow v hv).1) ⟨List.replicate (Zm4 t).length 0, List.replicate (Zm4 t).length 0⟩ (fun _ => col0)
    ⟨⟨List.length_replicate, List.length_replicate⟩, fun c _ _ => hz _ c, fun c _ _ => hz _ c, fun c _ _ => Z1k2 _⟩ (cols := cols) (fun c h1 h2 => ⟨col0, by rw [hc c h1 h2, Z1lo, Z1ln]⟩)
  rw [hn0t] at h
  exact ⟨s', h⟩
end Go.Abs
namespace Go.Abs
open Go Go.Proofs
set_option linter.unusedVariables false
set_option linter.unusedSimpArgs false
set_option maxHeartbeats 4000000
attribute [local irreducible] AWp aops KP
def fillN : Nat → Nat → List Bool → List Bool
  | _, 0, k => k
  | a, n + 1, k => fillN (a + 1) n (k.set a true)
theorem Z24b : ∀ (n a : Nat) (k : List Bool), (fillN a n k).length = k.length
  | 0, _, _ => rfl
  | n + 1, a, k => by rw [fillN, Z24b n, List.length_set]
theorem Z24c : ∀ (m a n : Nat) (k : List Bool), fillN a (m + n) k = fillN (a + m) n (fillN a m k)
  | 0, a, n, k => by rw [Nat.zero_add, fillN, Nat.add_zero]
  | m + 1, a, n, k => by rw [show m + 1 + n = m + n + 1 by omega, fillN, Z24c m, fillN, show a + 1 + m = a + (m + 1) by omega]
theorem Z24d : ∀ (n a : Nat) (k : List Bool) (x : Nat), (fillN a n k).getD x false = true ↔ (a ≤ x ∧ x < a + n ∧ x < k.length) ∨ k.getD x false = true
  | 0, a, k, x => by
    rw [fillN]
    constructor
    · exact .inr
    · rintro (h | h)
      · omega
      · exact h
  | n + 1, a, k, x => by
    rw [fillN, Z24d n, List.length_set, List.getD_eq_getElem?_getD, List.getD_eq_getElem?_getD, List.getElem?_set]
    by_cases e : a = x
    · subst e
      rw [if_pos rfl]
      by_cases hl : a < k.length
      · rw [if_pos hl]
        simp
        omega
      · rw [if_neg hl, List.getElem?_eq_none (by omega)]
        simp
        omega
    · rw [if_neg e]
      constructor
      · rintro (h | h)
        · exact .inl (by omega)
        · exact .inr h
      · rintro (h | h)
        · exact .inl (by omega)
        · exact .inr h
theorem Z24e {l : List Bool} {i : Nat} (x : Z0) (hx : ∃ b, x = .bool b) : (l.map Z0.bool).set (0 + ((i : Nat) : Int).toNat) (Z1r x 0 (Z0.bool true).cells) = (l.set i true).map Z0.bool := by
  obtain ⟨b, rfl⟩ := hx
  rw [Nat.zero_add, Int.toNat_natCast, List.map_set]; rfl
theorem Z24f {l : List Nd} (hT : TreeN l) (hll : l.length ≤ 1000) : ∀ (t : Ty) (a : Nat) (n : Nd), l[a]? = some n → n.t = t → ∀ (H : Zc) (b : Nat) (k : List Bool), Zd H b = some (.cells 1 (k.map .bool)) → k.length = l.length → ∀ f,
    Z1q Try.prog Zf4 [.slc 9 (l.map encR) f, .arr 1 b 0 l.length, .int .i64 (a : Int)] H fun r H' => r = .tup [] ∧ H' = Ze H b (.cells 1 ((fillN a (cnt t) k).map .bool)) := by
  refine Ty.ind fun kd nms ks le pr sc ih a n hn hnt H b k hb hk f => ?_
  have hal := (List.getElem?_eq_some_iff.1 hn).1
  have hkl := (hT.nok a n hn).len
  have hnk : n.t.kids = ks := by rw [hnt]; rfl
  rw [hnk] at hkl
  have hks : ks.length ≤ 1000 := by
    have := (hT.nok a n hn).len
    by_cases e : ks.length = 0
    · omega
    · have hx := List.getElem?_eq_getElem (show ks.length - 1 < n.kids.length by omega)
      obtain ⟨u, m, e1, e2, e3, _⟩ := (hT.nok a n hn).kids _ _ hx
      have h3 := (List.getElem?_eq_some_iff.1 e3).1
      have key : ∀ (ks : List Ty), ks.length ≤ cntL ks := by
        intro ks
        induction ks with
        | nil => exact Nat.le_refl _
        | cons t ts ih => have := Z1ly t; rw [cntL, List.length_cons]; omega
      have := key (n.t.kids.take (ks.length - 1))
      rw [List.length_take, hnk] at this
      rw [hnk] at e2
      omega
  have hx0 : (l.map encR)[(a : Int).toNat]? = some (encR n) := by rw [Int.toNat_natCast, List.getElem?_map, hn]; rfl
  have hb0 : (k.map Z0.bool)[0 + ((a : Nat) : Int).toNat]? = some (.bool (k[a]'(by omega))) := by rw [Nat.zero_add, Int.toNat_natCast, List.getElem?_map, List.getElem?_eq_getElem (by omega)]; rfl
  have hil : (ints n.kids).length = n.kids.length := List.length_map ..
  refine Z8t rfl Z23n (Nat.le_of_ble_eq_true rfl) ?_
  refine Z9z ?_
  (repeat (refine st_q rfl rfl rfl ?_))
  refine Z94 rfl ⟨by omega, by omega⟩ ?_
  refine Z9a rfl hb hb0 (by decide) (Kfi rfl) (fun _ => ⟨rfl, rfl⟩) rfl ?_
  rw [Z24e _ ⟨_, rfl⟩]
  (refine Z8y ?_; (repeat (first | refine Z9v rfl ?_ | refine Z9w ?_)); refine Z9u ?_)
  (repeat (first | refine st_q rfl rfl rfl ?_ | (refine Z8y ?_; (repeat (first | refine Z9v rfl ?_ | refine Z9w ?_)); refine Z9u ?_) | refine awp_seq ?_ | refine Zbm (fun _ _ => rfl) ?_ | refine Z8h ?_))
  obtain ⟨I, hI⟩ : ∃ I : Nat → Z26 → Zc → Prop, I = fun m F σ' => ∃ j : Nat, F = fset 0 (some (.slc 9 (l.map encR) f)) (fset 1 (some (.arr 1 b 0 l.length)) (fset 2 (some (.int .i64 (a : Nat))) (fset 6 (some (.int .i64 (j : Nat))) Z27))) ∧ Ze H b (.cells 1 ((fillN (a + 1) (cntL (ks.take j)) (k.set a true)).map .bool)) = σ' ∧ j ≤ ks.length ∧ m = ks.length - j := ⟨_, rfl⟩
  refine Zaa I (n := ks.length) (by rw [hI]; exact ⟨0, rfl, rfl, by omega, by omega⟩) ?_
  intro m0 F σ' hIm
  rw [hI] at hIm
  obtain ⟨j, rfl, rfl, hj, rfl⟩ := hIm
  (repeat (first | refine st_q rfl rfl rfl ?_ | refine awp_seq ?_ | refine Zbm (fun _ _ => rfl) ?_))
  refine Z93 rfl (by omega) hx0 ?_
  (repeat (first | refine st_q rfl rfl rfl ?_ | (refine Z8y ?_; (repeat (first | refine Z9v rfl ?_ | refine Z9w ?_)); refine Z9u ?_)))
  rw [hil, hkl]
  refine Za3 (p := (j : Int) < (ks.length : Int)) rfl (fun h5 => ?_) (fun h5 => ?_)
  · have hjl : j < ks.length := by omega
    have hx := List.getElem?_eq_getElem (show j < n.kids.length by omega)
    obtain ⟨u, m, e1, e2, e3, e4, _⟩ := (hT.nok a n hn).kids _ _ hx
    rw [hnk] at e1 e2
    have hux : (ints n.kids)[(j : Int).toNat]? = some (.int .i64 ((n.kids[j] : Nat) : Int)) := by rw [Int.toNat_natCast, ints, List.getElem?_map, hx]; rfl
    generalize n.kids[j] = x at e2 e3 hux
    have hcs := Z1q8 ks j u e1
    have hc := ih u (List.mem_of_getElem? e1) x m e3 e4 (Ze H b (.cells 1 ((fillN (a + 1) (cntL (ks.take j)) (k.set a true)).map .bool))) b (fillN (a + 1) (cntL (ks.take j)) (k.set a true)) (Z5k hb) (by rw [Z24b, List.length_set, hk]) f
    rw [Zaj, e2, ← Z24c, ← hcs, ← e2] at hc
    (repeat (first | refine st_q rfl rfl rfl ?_ | refine awp_seq ?_ | refine Zbm (fun _ _ => rfl) ?_ | refine Z8h ?_ | refine Zbn (fun _ _ => rfl) ?_))
    refine Z93 rfl (by omega) hx0 ?_
    (repeat (refine st_q rfl rfl rfl ?_))
    refine Z93 rfl (by omega) hux ?_
    (repeat (refine st_q rfl rfl rfl ?_))
    refine Z9t rfl hc ?_
    (repeat (refine Z8y ?_; (repeat (first | refine Z9v rfl ?_ | refine Z9w ?_)); refine Z9u ?_))
    refine Zbp ?_
    (repeat (refine st_q rfl rfl rfl ?_))
    rw [Kwr j (by omega)]
    (refine Z8y ?_; (repeat (first | refine Z9v rfl ?_ | refine Z9w ?_)); refine Z9u ?_)
    refine ⟨_, ks.length - (j + 1), HSub.refl _, ?_, by omega⟩
    rw [hI]
    exact ⟨j + 1, rfl, rfl, by omega, rfl⟩
  · have e : ks.take j = ks := List.take_of_length_le (by omega)
    rw [e]
    refine Z8c ?_
    refine ⟨[], rfl, .tup [], _, Z8n.of_sub (HSub.refl _), rfl, ?_⟩
    rw [cnt, show 1 + cntL ks = cntL ks + 1 by omega, fillN]
end Go.Abs
namespace Go.Abs
open Go Go.Proofs
set_option linter.unusedVariables false
set_option linter.unusedSimpArgs false
set_option maxHeartbeats 4000000
attribute [local irreducible] AWp aops KP
def upwF (l : List Nd) : Nat → Int → List Bool → List Bool
  | 0, _, k => k
  | f + 1, p, k => if p < 0 then k else match l[p.toNat]? with
    | none => k
    | some nd => upwF l f nd.parent ((if nd.t.kind ≠ 12 then fillN p.toNat (cnt nd.t) k else k).set p.toNat true)
theorem Z24g (l : List Nd) : ∀ (f : Nat) (p : Int) (k : List Bool), (upwF l f p k).length = k.length
  | 0, _, _ => rfl
  | f + 1, p, k => by
    rw [upwF]
    split
    · rfl
    · split
      · rfl
      · rw [Z24g l f, List.length_set]
        split
        · rw [Z24b]
        · rfl
def sizeC (l : List Nd) (c : Nat) : Nat := match l[c]? with | some nd => cnt nd.t | none => 0
def Z24h (l : List Nd) : List Int → List Bool → List Bool
  | [], k => k
  | c :: cs, k => Z24h l cs (upwF l (c.toNat + 1) c (fillN c.toNat (sizeC l c.toNat) k))
def Z24i (l : List Nd) (cols : List Int) : Bool := cols.all fun c => decide (0 ≤ c ∧ c < l.length)
def Z24j (l : List Nd) (cols : List Int) : List Bool := Z24h l cols (List.replicate l.length false)
theorem Z24k {p : Int → Bool} {l : List Int} (h : ∀ i (hi : i < l.length), p l[i] = true) : l.all p = true := by
  rw [List.all_eq_true]
  intro x hx
  obtain ⟨i, hi, rfl⟩ := List.getElem_of_mem hx
  exact h i hi
theorem Z24l {l : List Nd} (hT : TreeN l) (hll : l.length ≤ 1000) (cols : List Int) (hcl : cols.length ≤ 1000000) (f g : Bool) (σ : Zc) :
    Z1q Try.prog Zdu [.slc 9 (l.map encR) f, .slc 1 (cols.map (.int .i64)) g] σ fun r σ' => r = .tup [.slc 1 ((if Z24i l cols = true then Z24j l cols else []).map .bool) false, .int .i64 (if Z24i l cols = true then 0 else 1)] ∧ σ' = σ := by
  have hml : (l.map encR).length = l.length := List.length_map ..
  have hmc : (cols.map (Z0.int .i64)).length = cols.length := List.length_map ..
  refine Z8t rfl Z23m (Nat.le_of_ble_eq_true rfl) ?_
  (repeat (first | refine st_q rfl rfl rfl ?_ | (refine Z8y ?_; (repeat (first | refine Z9v rfl ?_ | refine Z9w ?_)); refine Z9u ?_) | refine awp_seq ?_ | refine Zbm (fun _ _ => rfl) ?_))
  rw [hml]
  refine Z9l rfl (Kfi rfl) (by omega) (by omega) (by omega) (by omega) fun b hb => ?_
  rw [Int.toNat_natCast]
  (repeat (first | refine st_q rfl rfl rfl ?_ | (refine Z8y ?_; (repeat (first | refine Z9v rfl ?_ | refine Z9w ?_)); refine Z9u ?_) | refine awp_seq ?_ | refine Zbm (fun _ _ => rfl) ?_ | refine Z8h ?_))
  have hr0 : (List.replicate l.length (Z0.bool false)) = (List.replicate l.length false).map .bool := by rw [List.map_replicate]
  rw [hr0]
  refine Zaa (fun m F σ' => ∃ i : Nat, F = fset 0 (some (.slc 9 (l.map encR) f)) (fset 1 (some (.slc 1 (cols.map (.int .i64)) g)) (fset 6 (some (.arr 1 b 0 l.length)) (fset 7 (some (.int .i64 (i : Nat))) Z27))) ∧ (b, Zb.cells 1 ((List.replicate l.length false).map .bool)) :: σ = σ' ∧ i ≤ cols.length ∧ (∀ j (hj : j < cols.length), j < i → decide (0 ≤ cols[j] ∧ cols[j] < l.length) = true) ∧ m = cols.length - i) (n := cols.length)
    ⟨0, rfl, rfl, by omega, fun j hj h => by omega, by omega⟩ ?_
  rintro m F σ' ⟨i, rfl, rfl, hi, hok, rfl⟩
  (repeat (first | refine st_q rfl rfl rfl ?_ | (refine Z8y ?_; (repeat (first | refine Z9v rfl ?_ | refine Z9w ?_)); refine Z9u ?_) | refine awp_seq ?_ | refine Zbm (fun _ _ => rfl) ?_))
  rw [hmc]
  refine Za3 (p := (i : Int) < (cols.length : Nat)) rfl (fun h3 => ?_) (fun h3 => ?_)
  · have hil : i < cols.length := by omega
    have hx := Zxw (f := Z0.int .i64) hil
    have hbad : ¬ (0 ≤ cols[i] ∧ cols[i] < l.length) → Z24i l cols = false := fun h => by
      rw [Z24i, List.all_eq_false]
      exact ⟨_, List.getElem_mem hil, by simpa using h⟩
    have hok2 : (0 ≤ cols[i] ∧ cols[i] < l.length) → ∀ j (hj : j < cols.length), j < i + 1 → decide (0 ≤ cols[j] ∧ cols[j] < l.length) = true := fun h j hj hlt => by
      by_cases e : j = i
      · subst e; exact decide_eq_true h
      · exact hok j hj (by omega)
    generalize cols[i] = y at hx hbad hok2
    (repeat (first | refine st_q rfl rfl rfl ?_ | refine awp_seq ?_ | refine Zbm (fun _ _ => rfl) ?_ | refine Z8h ?_ | refine Zbn (fun _ _ => rfl) ?_))
    refine Z93 rfl (by omega) hx ?_
    (repeat refine st_q rfl rfl rfl ?_)
    by_cases h4 : y < 0
    · (rw [decide_eq_true (p := y < 0) (by omega)])
      (repeat (first | refine st_q rfl rfl rfl ?_ | refine Z8w rfl ?_ | (refine Z8y ?_; (repeat (first | refine Z9v rfl ?_ | refine Z9w ?_)); refine Z9u ?_) | refine awp_seq ?_ | refine Zbm (fun _ _ => rfl) ?_ | refine Kc1 rfl ?_))
      rw [hbad (by omega)]
      refine Z8d ?_
      exact Zau rfl (VRle.tup (VRle.cons (VRle.nilF _ _) (VRle.refl _))) (HSub.tail _ _) ⟨rfl, rfl⟩
    (rw [decide_eq_false (p := y < 0) (by omega)])
    (repeat refine Z8v rfl (st_q rfl rfl rfl ?_))
    refine Z8v rfl (Z93 rfl (by omega) hx ?_)
    (repeat (first | refine st_q rfl rfl rfl ?_ | refine Z8v rfl (st_q rfl rfl rfl ?_) | (refine Z8y ?_; (repeat (first | refine Z9v rfl ?_ | refine Z9w ?_)); refine Z9u ?_)))
    rw [hml]
    by_cases h5 : (l.length : Int) ≤ y
    · (rw [decide_eq_true (p := (l.length : Int) ≤ y) (by omega)])
      (repeat (first | refine st_q rfl rfl rfl ?_ | (refine Z8y ?_; (repeat (first | refine Z9v rfl ?_ | refine Z9w ?_)); refine Z9u ?_) | refine awp_seq ?_ | refine Zbm (fun _ _ => rfl) ?_ | refine Kc1 rfl ?_))
      rw [hbad (by omega)]
      refine Z8d ?_
      exact Zau rfl (VRle.tup (VRle.cons (VRle.nilF _ _) (VRle.refl _))) (HSub.tail _ _) ⟨rfl, rfl⟩
    (rw [decide_eq_false (p := (l.length : Int) ≤ y) (by omega)])
    (repeat (first | refine Zbn (fun _ _ => rfl) ?_ | refine Kc2 rfl ?_))
    (refine Z9y (keep := [0, 1, 6, 7]) ?_; ((repeat (first | refine Z9v rfl ?_ | refine Z9w ?_)); refine Z9u ?_))
    refine Zbp ?_
    (repeat (refine st_q rfl rfl rfl ?_))
    rw [Kwr i (by omega)]
    (refine Z8y ?_; (repeat (first | refine Z9v rfl ?_ | refine Z9w ?_)); refine Z9u ?_)
    exact ⟨_, cols.length - (i + 1), HSub.refl _, ⟨i + 1, rfl, rfl, by omega, hok2 (by omega), rfl⟩, by omega⟩
  have hin : Z24i l cols = true := Z24k fun j hj => hok j hj (by omega)
  rw [hin, if_pos rfl, if_pos rfl]
  refine Zbo (fun _ _ => rfl) ?_
  (refine Z9y (keep := [0, 1, 6]) ?_; ((repeat (first | refine Z9v rfl ?_ | refine Z9w ?_)); refine Z9u ?_))
  (repeat (first | refine st_q rfl rfl rfl ?_ | (refine Z8y ?_; (repeat (first | refine Z9v rfl ?_ | refine Z9w ?_)); refine Z9u ?_) | refine awp_seq ?_ | refine Zbm (fun _ _ => rfl) ?_ | refine Z8h ?_))
  obtain ⟨I, hI⟩ : ∃ I : Nat → Z26 → Zc → Prop, I = fun m F σ' => ∃ (i : Nat) (k : List Bool), F = fset 0 (some (.slc 9 (l.map encR) f)) (fset 1 (some (.slc 1 (cols.map (.int .i64)) g)) (fset 6 (some (.arr 1 b 0 l.length)) (fset 8 (some (.int .i64 (i : Nat))) Z27))) ∧ (b, Zb.cells 1 (k.map .bool)) :: σ = σ' ∧ k.length = l.length ∧ Z24h l (cols.drop i) k = Z24j l cols ∧ i ≤ cols.length ∧ m = cols.length - i := ⟨_, rfl⟩
  refine Zaa I (n := cols.length) (by rw [hI]; exact ⟨0, _, rfl, rfl, by simp, rfl, by omega, by omega⟩) ?_
  intro m0 F σ' hIm
  rw [hI] at hIm
  obtain ⟨i, k, rfl, rfl, hkl, hX, hi2, rfl⟩ := hIm
  (repeat (first | refine st_q rfl rfl rfl ?_ | (refine Z8y ?_; (repeat (first | refine Z9v rfl ?_ | refine Z9w ?_)); refine Z9u ?_) | refine awp_seq ?_ | refine Zbm (fun _ _ => rfl) ?_))
  rw [hmc]
  refine Za3 (p := (i : Int) < (cols.length : Nat)) rfl (fun h4 => ?_) (fun h4 => ?_)
  · have hil : i < cols.length := by omega
    have hx := Zxw (f := Z0.int .i64) hil
    have hy := of_decide_eq_true (hok i hil (by omega))
    rw [List.drop_eq_getElem_cons hil, Z24h] at hX
    generalize cols[i] = y at hx hy hX
    obtain ⟨c, rfl⟩ : ∃ c : Nat, y = (c : Int) := ⟨y.toNat, by omega⟩
    rw [Int.toNat_natCast] at hX
    have hcl2 : c < l.length := by omega
    have hn := List.getElem?_eq_getElem hcl2
    have hsz : sizeC l c = cnt l[c].t := by rw [sizeC, hn]
    rw [hsz] at hX
    have hA := Z24f hT hll l[c].t c l[c] hn rfl ((b, Zb.cells 1 (k.map .bool)) :: σ) b k Z8z hkl f
    rw [Z9b] at hA
    have hk1l : (fillN c (cnt l[c].t) k).length = l.length := by rw [Z24b, hkl]
    generalize fillN c (cnt l[c].t) k = k1 at hX hA hk1l
    clear hsz hn
    (repeat (first | refine st_q rfl rfl rfl ?_ | refine awp_seq ?_ | refine Zbm (fun _ _ => rfl) ?_ | refine Z8h ?_ | refine Zbn (fun _ _ => rfl) ?_))
    refine Z93 rfl (by omega) hx ?_
    (repeat (refine st_q rfl rfl rfl ?_))
    refine Z9t rfl hA ?_
    (repeat (first | refine st_q rfl rfl rfl ?_ | (refine Z8y ?_; (repeat (first | refine Z9v rfl ?_ | refine Z9w ?_)); refine Z9u ?_) | refine awp_seq ?_ | refine Zbm (fun _ _ => rfl) ?_))
    refine Z93 rfl (by omega) hx ?_
    (repeat (first | refine st_q rfl rfl rfl ?_ | (refine Z8y ?_; (repeat (first | refine Z9v rfl ?_ | refine Z9w ?_)); refine Z9u ?_) | refine Z8h ?_))
    obtain ⟨J, hJ⟩ : ∃ J : Nat → Z26 → Zc → Prop, J = fun m F σ' => ∃ (p : Int) (k : List Bool) (fl : Nat), F = fset 0 (some (.slc 9 (l.map encR) f)) (fset 1 (some (.slc 1 (cols.map (.int .i64)) g)) (fset 6 (some (.arr 1 b 0 l.length)) (fset 8 (some (.int .i64 (i : Nat))) (fset 9 (some (.int .i64 p)) Z27)))) ∧ (b, Zb.cells 1 (k.map .bool)) :: σ = σ' ∧ k.length = l.length ∧ Z24h l (cols.drop (i + 1)) (upwF l fl p k) = Z24j l cols ∧ -1 ≤ p ∧ p < l.length ∧ (p + 1).toNat ≤ fl ∧ m = (p + 1).toNat := ⟨_, rfl⟩
    refine Zaa J (n := c + 1) (by rw [hJ]; exact ⟨c, k1, c + 1, rfl, rfl, hk1l, hX, by omega, by omega, by omega, by omega⟩) ?_
    intro m1 F σ' hJm
    rw [hJ] at hJm
    obtain ⟨p, k2, fl, rfl, rfl, hk2l, hX2, hp1, hp2, hfl, rfl⟩ := hJm
    (repeat (first | refine st_q rfl rfl rfl ?_ | (refine Z8y ?_; (repeat (first | refine Z9v rfl ?_ | refine Z9w ?_)); refine Z9u ?_) | refine awp_seq ?_ | refine Zbm (fun _ _ => rfl) ?_))
    refine Za3 (p := (0 : Int) ≤ p) rfl (fun h5 => ?_) (fun h5 => ?_)
    · obtain ⟨a, rfl⟩ : ∃ a : Nat, p = (a : Int) := ⟨p.toNat, by omega⟩
      have hal : a < l.length := by omega
      have hn := List.getElem?_eq_getElem hal
      have hpar : l[a].parent = -1 ∨ ∃ q : Nat, l[a].parent = (q : Int) ∧ q < a := by
        by_cases e : a = 0
        · subst e; exact .inl (hT.root _ hn).1
        · obtain ⟨⟨q, _, _, e1, e2, _⟩⟩ := hT.par a _ hn (by omega)
          exact .inr ⟨q, e1, e2⟩
      have hpp : -1 ≤ l[a].parent ∧ l[a].parent < a := by rcases hpar with e | ⟨q, e, _⟩ <;> omega
      clear hpar
      have hxn : (l.map encR)[(a : Int).toNat]? = some (encR l[a]) := by rw [Int.toNat_natCast, List.getElem?_map, hn]; rfl
      have hA := Z24f hT hll l[a].t a l[a] hn rfl ((b, Zb.cells 1 (k2.map .bool)) :: σ) b k2 Z8z hk2l f
      rw [Z9b] at hA
      obtain ⟨fl', hfl'⟩ : ∃ f, fl = f + 1 := ⟨fl - 1, by omega⟩
      subst hfl'
      rw [upwF, if_neg (by omega), Int.toNat_natCast, hn] at hX2
      simp only at hX2
      generalize l[a] = nd at hpp hxn hA hX2
      (repeat (first | refine st_q rfl rfl rfl ?_ | refine awp_seq ?_ | refine Zbm (fun _ _ => rfl) ?_ | refine Z8h ?_ | refine Zbn (fun _ _ => rfl) ?_))
      refine Z93 rfl (by omega) hxn ?_
      (repeat (first | refine st_q rfl rfl rfl ?_ | (refine Z8y ?_; (repeat (first | refine Z9v rfl ?_ | refine Z9w ?_)); refine Z9u ?_)))
      by_cases k12 : nd.t.kind = 12
      · (rw [decide_eq_false (p := nd.t.kind ≠ 12) (by omega)])
        rw [if_neg (by omega)] at hX2
        have hk3l := hk2l
        (repeat (first | refine st_q rfl rfl rfl ?_ | refine Zbm (fun _ _ => rfl) ?_ | refine Zbn (fun _ _ => rfl) ?_ | refine Kc2 rfl ?_))
        have hb0 : ((k2).map Z0.bool)[0 + ((a : Nat) : Int).toNat]? = some (.bool ((k2)[a]'(by omega))) := by rw [Nat.zero_add, Int.toNat_natCast, List.getElem?_map, List.getElem?_eq_getElem (by omega)]; rfl
        refine Z94 rfl ⟨by omega, by omega⟩ ?_
        refine Z9a rfl Z8z hb0 (by decide) (Kfi rfl) (fun _ => ⟨rfl, rfl⟩) Z9b ?_
        rw [Z24e _ ⟨_, rfl⟩]
        (repeat (refine Z8y ?_; (repeat (first | refine Z9v rfl ?_ | refine Z9w ?_)); refine Z9u ?_))
        refine Zbp ?_
        (repeat (refine st_q rfl rfl rfl ?_))
        refine Z93 rfl (by omega) hxn ?_
        (repeat (refine st_q rfl rfl rfl ?_))
        (refine Z8y ?_; (repeat (first | refine Z9v rfl ?_ | refine Z9w ?_)); refine Z9u ?_)
        refine ⟨_, (nd.parent + 1).toNat, HSub.refl _, ?_, by omega⟩
        rw [hJ]
        exact ⟨nd.parent, (k2).set a true, fl', rfl, rfl, by rw [List.length_set, hk3l], hX2, by omega, by omega, by omega, rfl⟩
      · (rw [decide_eq_true (p := nd.t.kind ≠ 12) (by omega)])
        rw [if_pos k12] at hX2
        have hk3l : (fillN a (cnt nd.t) k2).length = l.length := by rw [Z24b, hk2l]
        generalize fillN a (cnt nd.t) k2 = k3 at hX2 hA hk3l
        (repeat (first | refine st_q rfl rfl rfl ?_ | refine Zbm (fun _ _ => rfl) ?_ | refine Kc1 rfl ?_))
        refine Z9t rfl hA ?_
        (repeat (first | refine st_q rfl rfl rfl ?_ | (refine Z8y ?_; (repeat (first | refine Z9v rfl ?_ | refine Z9w ?_)); refine Z9u ?_) | refine Zbm (fun _ _ => rfl) ?_))
        have hb0 : ((k3).map Z0.bool)[0 + ((a : Nat) : Int).toNat]? = some (.bool ((k3)[a]'(by omega))) := by rw [Nat.zero_add, Int.toNat_natCast, List.getElem?_map, List.getElem?_eq_getElem (by omega)]; rfl
        refine Z94 rfl ⟨by omega, by omega⟩ ?_
        refine Z9a rfl Z8z hb0 (by decide) (Kfi rfl) (fun _ => ⟨rfl, rfl⟩) Z9b ?_
        rw [Z24e _ ⟨_, rfl⟩]
        (repeat (refine Z8y ?_; (repeat (first | refine Z9v rfl ?_ | refine Z9w ?_)); refine Z9u ?_))
        refine Zbp ?_
        (repeat (refine st_q rfl rfl rfl ?_))
        refine Z93 rfl (by omega) hxn ?_
        (repeat (refine st_q rfl rfl rfl ?_))
        (refine Z8y ?_; (repeat (first | refine Z9v rfl ?_ | refine Z9w ?_)); refine Z9u ?_)
        refine ⟨_, (nd.parent + 1).toNat, HSub.refl _, ?_, by omega⟩
        rw [hJ]
        exact ⟨nd.parent, (k3).set a true, fl', rfl, rfl, by rw [List.length_set, hk3l], hX2, by omega, by omega, by omega, rfl⟩
    · have e : upwF l fl p k2 = k2 := by
        cases fl with
        | zero => rfl
        | succ fl => rw [upwF, if_pos (by omega)]
      rw [e] at hX2
      (repeat refine Zbo (fun _ _ => rfl) ?_)
      refine Zbp ?_
      (repeat (refine st_q rfl rfl rfl ?_))
      rw [Kwr i (by omega)]
      (refine Z8y ?_; (repeat (first | refine Z9v rfl ?_ | refine Z9w ?_)); refine Z9u ?_)
      refine ⟨_, cols.length - (i + 1), HSub.refl _, ?_, by omega⟩
      rw [hI]
      exact ⟨i + 1, k2, rfl, rfl, hk2l, hX2, by omega, rfl⟩
  · rw [List.drop_of_length_le (by omega), Z24h] at hX
    subst hX
    refine Zbo (fun _ _ => rfl) ?_
    (refine Z9y (keep := [6]) ?_; ((repeat (first | refine Z9v rfl ?_ | refine Z9w ?_)); refine Z9u ?_))
    refine Zb1 (d := 6) (xs := (Z24j l cols).map .bool) (by rw [List.length_map, hkl]; rfl) ?_
    (repeat (first | refine st_q rfl rfl rfl ?_ | (refine Z8y ?_; (repeat (first | refine Z9v rfl ?_ | refine Z9w ?_)); refine Z9u ?_) | refine awp_seq ?_ | refine Zbm (fun _ _ => rfl) ?_))
    refine Z8d ?_
    exact Kar rfl ⟨rfl, rfl⟩
end Go.Abs
namespace Go.Abs
open Go Go.Proofs
set_option linter.unusedVariables false
set_option linter.unusedSimpArgs false
set_option maxHeartbeats 4000000
attribute [local irreducible] AWp aops KP
mutual
def projF (l : List Nd) (keep : List Bool) (a : Nat) : Vl → Vl
  | .mk nu i n b ks => if nu = true ∨ Zyh l a ≠ 12 then .mk nu i n b ks else .mk false 0 0 [] (projL l keep (match l[a]? with | some nd => nd.kids | none => []) ks)
def projL (l : List Nd) (keep : List Bool) (xs : List Nat) : List Vl → List Vl
  | [] => []
  | v :: vs => match xs with
    | [] => []
    | x :: xs => if keep.getD x false = true then projF l keep x v :: projL l keep xs vs else projL l keep xs vs
end
theorem Z24m (l : List Nd) (keep : List Bool) (vs : List Vl) : projL l keep [] vs = [] := by
  cases vs <;> rw [projL]
theorem Z24n {l : List Nd} (hT : TreeN l) (hK : Z1vc l) (keep : List Bool) (f g : Bool) : ∀ (v : Vl) (a : Nat) (n : Nd), l[a]? = some n → ∀ (σ : Zc),
    Z1q Try.prog Zdw [.slc 9 (l.map encR) f, .slc 1 (keep.map .bool) g, .int .i64 (a : Int), encV v] σ fun r σ' => r = encV (projF l keep a v) ∧ σ' = σ := by
  obtain ⟨hl1, hk1, hk2⟩ := hK
  refine Vl.ind fun nu i m b ks ih a n hn σ => ?_
  have hal := (List.getElem?_eq_some_iff.1 hn).1
  have hkind : Zyh l a = n.t.kind := by rw [Zyh, hn]
  have hx0 : (l.map encR)[(a : Int).toNat]? = some (encR n) := by rw [Int.toNat_natCast, List.getElem?_map, hn]; rfl
  have hil : (ints n.kids).length = n.kids.length := List.length_map ..
  have hmk : (keep.map Z0.bool).length = keep.length := List.length_map ..
  have hkn := hk1 n (List.mem_of_getElem? hn)
  have hkx := hk2 n (List.mem_of_getElem? hn)
  have hkl := Zm9 ks
  have heA : ∀ (us : List Vl) (vj : Vl), Zm5 us ++ [Z0.agg (Zm6 vj)] = Zm5 (us ++ [vj]) := fun us vj => by rw [Zm8, Zm8, List.map_append, ← Zm7]; rfl
  rw [Zm7]
  refine Z8t rfl Z23o (Nat.le_of_ble_eq_true rfl) ?_
  refine Z9z ?_
  refine Z9j rfl (Kfi rfl) fun b7 hb7 => ?_
  refine Z9k (by simp [Z0.cells, Z0.one]) fun b8 hb8 => ?_
  (refine Z8y ?_; (repeat (first | refine Z9v rfl ?_ | refine Z9w ?_)); refine Z9u ?_)
  refine Zb4 (β := [(b8, _)]) (γ := [(b7, _)]) ?_
  refine Zb3 (d := 7) (cs := Zm6 (.mk nu i m b ks)) rfl ?_
  rw [show (Z0.agg [.bool false, .int .i64 0, .int .i64 0, .slc 0 [] true, .slc 0 [] true]).cells.length = 5 from rfl]
  (refine Z9y (keep := [0, 1, 2, 7, 8]) ?_; ((repeat (first | refine Z9v rfl ?_ | refine Z9w ?_)); refine Z9u ?_))
  by_cases hc : nu = true ∨ n.t.kind ≠ 12
  · have hP : projF l keep a (.mk nu i m b ks) = .mk nu i m b ks := by rw [projF, hkind, if_pos hc]
    rw [hP]
    cases nu with
    | true =>
      (repeat (first | refine st_q rfl rfl rfl ?_ | refine Z8w rfl ?_ | (refine Z8y ?_; (repeat (first | refine Z9v rfl ?_ | refine Z9w ?_)); refine Z9u ?_) | refine awp_seq ?_ | refine Zbm (fun _ _ => rfl) ?_ | refine Kc1 rfl ?_))
      refine Z9a rfl Z8z rfl (by decide) (Kfi rfl) (fun h => by cases h) Z9b ?_
      (refine Z8y ?_; (repeat (first | refine Z9v rfl ?_ | refine Z9w ?_)); refine Z9u ?_)
      refine Z8d ?_
      exact Zau (Zy4 rfl Z8z rfl) (by rw [Zm7]; exact VRle.refl _) (HSub.tail _ _) ⟨rfl, rfl⟩
    | false =>
      have k12 : n.t.kind ≠ 12 := by rcases hc with h | h; cases h; exact h
      (repeat (first | refine st_q rfl rfl rfl ?_ | refine Z8v rfl (st_q rfl rfl rfl ?_) | refine awp_seq ?_ | refine Zbm (fun _ _ => rfl) ?_))
      refine Z8v rfl (Z93 rfl (by omega) hx0 ?_)
      (repeat (first | refine st_q rfl rfl rfl ?_ | refine Z8v rfl (st_q rfl rfl rfl ?_) | (refine Z8y ?_; (repeat (first | refine Z9v rfl ?_ | refine Z9w ?_)); refine Z9u ?_)))
      (rw [decide_eq_true (p := n.t.kind ≠ 12) (by omega)])
      (repeat (first | refine st_q rfl rfl rfl ?_ | refine awp_seq ?_ | refine Zbm (fun _ _ => rfl) ?_ | refine Kc1 rfl ?_))
      refine Z9a rfl Z8z rfl (by decide) (Kfi rfl) (fun h => by cases h) Z9b ?_
      (refine Z8y ?_; (repeat (first | refine Z9v rfl ?_ | refine Z9w ?_)); refine Z9u ?_)
      refine Z8d ?_
      exact Zau (Zy4 rfl Z8z rfl) (by rw [Zm7]; exact VRle.refl _) (HSub.tail _ _) ⟨rfl, rfl⟩
  · have hnu : nu = false := by cases nu with | false => rfl | true => exact absurd (.inl rfl) hc
    subst hnu
    have k12 : n.t.kind = 12 := by omega
    have hP : projF l keep a (.mk false i m b ks) = .mk false 0 0 [] (projL l keep n.kids ks) := by rw [projF, hkind, if_neg hc, hn]
    rw [hP]
    (repeat (first | refine st_q rfl rfl rfl ?_ | refine Z8v rfl (st_q rfl rfl rfl ?_) | refine awp_seq ?_ | refine Zbm (fun _ _ => rfl) ?_))
    refine Z8v rfl (Z93 rfl (by omega) hx0 ?_)
    (repeat (first | refine st_q rfl rfl rfl ?_ | refine Z8v rfl (st_q rfl rfl rfl ?_) | (refine Z8y ?_; (repeat (first | refine Z9v rfl ?_ | refine Z9w ?_)); refine Z9u ?_)))
    (rw [decide_eq_false (p := n.t.kind ≠ 12) (by omega)])
    (repeat (first | refine st_q rfl rfl rfl ?_ | refine awp_seq ?_ | refine Zbm (fun _ _ => rfl) ?_ | refine Zbn (fun _ _ => rfl) ?_ | refine Kc2 rfl ?_))
    refine Z9k (by simp [Z0.cells, Z0.one]) fun b9 hb9 => ?_
    (repeat (refine st_q rfl rfl rfl ?_))
    (first | refine Z9a rfl Z8z rfl (by decide) (Kfi rfl) (fun h => by cases h) Z9b ?_ | refine Z8v rfl (Z9a rfl Z8z rfl (by decide) (Kfi rfl) (fun h => by cases h) Z9b ?_))
    (refine Z8y ?_; (repeat (first | refine Z9v rfl ?_ | refine Z9w ?_)); refine Z9u ?_)
    have h98 : b9 ≠ b8 := fun e => hb9 (by rw [e]; simp [Zh])
    (repeat (first | refine st_q rfl rfl rfl ?_ | (refine Z8y ?_; (repeat (first | refine Z9v rfl ?_ | refine Z9w ?_)); refine Z9u ?_) | refine awp_seq ?_ | refine Zbm (fun _ _ => rfl) ?_ | refine Z8h ?_))
    obtain ⟨VS, hVS⟩ : ∃ VS, VS = projL l keep n.kids ks := ⟨_, rfl⟩
    rw [← hVS]
    obtain ⟨I, hI⟩ : ∃ I : Nat → Z26 → Zc → Prop, I = fun m' F σ' => ∃ (j : Nat) (us : List Vl) (kv : Z0) (β : Zc), F = fset 0 (some (.slc 9 (l.map encR) f)) (fset 1 (some (.slc 1 (keep.map .bool) g)) (fset 2 (some (.int .i64 (a : Nat))) (fset 7 (some (.iptr (Zm6 (.mk false i m b ks)))) (fset 8 (some (.ptr b8 0 0)) (fset 9 (some (.ptr b9 0 0)) (fset 10 (some (.int .i64 (j : Nat))) Z27)))))) ∧
      β ++ ((b9, Zb.cells 5 [.agg [.bool false, .int .i64 0, .int .i64 0, .slc 0 [] true, kv]]) :: (b8, Zb.cells 5 [.agg [.bool false, .int .i64 0, .int .i64 0, .slc 0 [] true, .slc 0 [] true]]) :: σ) = σ' ∧ Zbr 5 kv (Zm5 us) β ∧ b9 ∉ Zh β ∧ us.length ≤ j ∧ j ≤ n.kids.length ∧ us ++ projL l keep (n.kids.drop j) (ks.drop j) = VS ∧ m' = n.kids.length - j := ⟨_, rfl⟩
    refine Zaa I (n := n.kids.length) (by rw [hI]; exact ⟨0, [], .slc 0 [] true, [], rfl, rfl, Zbr.nil 5 0, by simp [Zh], by simp, by omega, hVS.symm, by omega⟩) ?_
    intro m0 F σ' hIm
    rw [hI] at hIm
    obtain ⟨j, us, kv, β, rfl, rfl, ho, hnb, hus, hj, hR, rfl⟩ := hIm
    (repeat (first | refine st_q rfl rfl rfl ?_ | refine awp_seq ?_ | refine Zbm (fun _ _ => rfl) ?_))
    refine Z93 rfl (by omega) hx0 ?_
    (repeat refine st_q rfl rfl rfl ?_)
    rw [hil]
    have fin : ∀ (us : List Vl) (kv : Z0) (β : Zc) (j : Nat), Zbr 5 kv (Zm5 us) β → b9 ∉ Zh β → us = VS →
        AWp Try.prog Z23l.n (.seq (.region Z23k [8]) .ret) (ARet Z23l.res fun r σ' => r = encV (.mk false 0 0 [] VS) ∧ σ' = σ)
          (fset 8 (some (.ptr b8 0 0)) (fset 9 (some (.ptr b9 0 0)) Z27))
          (β ++ ((b9, Zb.cells 5 [.agg [.bool false, .int .i64 0, .int .i64 0, .slc 0 [] true, kv]]) :: (b8, Zb.cells 5 [.agg [.bool false, .int .i64 0, .int .i64 0, .slc 0 [] true, .slc 0 [] true]]) :: σ)) := by
      intro us kv β j ho hnb e
      subst e
      refine Zb4 (β := β) (γ := [(b9, _)]) ?_
      refine Zby (Zbx.cellS (b := b9) (sz := 5) (β := β) (σ := (b8, Zb.cells 5 [.agg [.bool false, .int .i64 0, .int .i64 0, .slc 0 [] true, .slc 0 [] true]]) :: σ) (A := []) (B := []) (p := [.bool false, .int .i64 0, .int .i64 0, .slc 0 [] true]) (q := []) ho (fun y hy => by
        simp only [List.nil_append, List.append_nil, List.cons_append, List.mem_singleton] at hy
        subst hy
        exact Z0.fit_iff.1 rfl)) ?_
      refine Zb3 (d := 9) rfl ?_
      (refine Z9y (keep := [8, 9]) ?_; ((repeat (first | refine Z9v rfl ?_ | refine Z9w ?_)); refine Z9u ?_))
      refine Z9z ?_
      (repeat (refine st_q rfl rfl rfl ?_))
      refine Z9a rfl Z8z rfl (by decide) (Kfi rfl) (fun h => by cases h) Z9b ?_
      (refine Z8y ?_; (repeat (first | refine Z9v rfl ?_ | refine Z9w ?_)); refine Z9u ?_)
      refine Z8d ?_
      exact Zau (Zy4 rfl Z8z rfl) (by
        rw [encV]
        (repeat (first | exact VRle.refl _ | exact Zc5 | refine Zc6 rfl rfl ?_ | refine Zc7 rfl ?_ | refine Zc4 ?_ ?_))) (HSub.tail _ _) ⟨rfl, rfl⟩
    by_cases h5 : j < n.kids.length
    rotate_left
    · (rw [decide_eq_false (p := (j : Int) < (n.kids.length : Int)) (by omega)])
      (repeat (first | refine st_q rfl rfl rfl ?_ | refine Z8w rfl ?_))
      (refine Z8y ?_; (repeat (first | refine Z9v rfl ?_ | refine Z9w ?_)); refine Z9u ?_)
      (refine Kc2 rfl ?_; refine Zbo (fun _ _ => rfl) ?_)
      (refine Z9y (keep := [8, 9]) ?_; ((repeat (first | refine Z9v rfl ?_ | refine Z9w ?_)); refine Z9u ?_))
      rw [List.drop_of_length_le (by omega), Z24m, List.append_nil] at hR
      exact fin us kv β j ho hnb hR
    (rw [decide_eq_true (p := (j : Int) < (n.kids.length : Int)) (by omega)])
    (repeat (first | refine st_q rfl rfl rfl ?_ | refine Z8v rfl (st_q rfl rfl rfl ?_)))
    rw [show (Zm5 (Vl.mk false i m b ks).kids).length = ks.length from hkl]
    by_cases h6 : j < ks.length
    rotate_left
    · (rw [decide_eq_false (p := (j : Int) < (ks.length : Int)) (by omega)])
      skip
      (refine Z8y ?_; (repeat (first | refine Z9v rfl ?_ | refine Z9w ?_)); refine Z9u ?_)
      (refine Kc2 rfl ?_; refine Zbo (fun _ _ => rfl) ?_)
      (refine Z9y (keep := [8, 9]) ?_; ((repeat (first | refine Z9v rfl ?_ | refine Z9w ?_)); refine Z9u ?_))
      rw [List.drop_of_length_le (show ks.length ≤ j by omega), projL, List.append_nil] at hR
      exact fin us kv β j ho hnb hR
    (rw [decide_eq_true (p := (j : Int) < (ks.length : Int)) (by omega)])
    have hx := List.getElem?_eq_getElem h5
    obtain ⟨u, q, e1, e2, e3, e4, _⟩ := (hT.nok a n hn).kids _ _ hx
    have hux : (ints n.kids)[(j : Int).toNat]? = some (.int .i64 ((n.kids[j] : Nat) : Int)) := by rw [Int.toNat_natCast, ints, List.getElem?_map, hx]; rfl
    have hvx : (Zm5 ks)[(j : Int).toNat]? = some (encV ks[j]) := by rw [Zm8]; exact Zxw (f := encV) h6
    have hxl := hkx _ (List.getElem_mem h5)
    have hih := ih ks[j] (List.getElem_mem h6) n.kids[j] q e3
    rw [List.drop_eq_getElem_cons h5, List.drop_eq_getElem_cons h6, projL] at hR
    generalize n.kids[j] = x at hux hxl hih hR
    generalize ks[j] = w at hvx hih hR
    rw [Zm7] at hvx
    rw [Zm7 w] at hih
    clear hx e1 e2 e3 e4
    skip
    (refine Z8y ?_; (repeat (first | refine Z9v rfl ?_ | refine Z9w ?_)); refine Z9u ?_)
    refine Kc1 rfl ?_
    refine Zbn (fun _ _ => rfl) ?_
    (refine Z9y (keep := [0, 1, 2, 7, 8, 9, 10]) ?_; ((repeat (first | refine Z9v rfl ?_ | refine Z9w ?_)); refine Z9u ?_))
    (repeat (first | refine st_q rfl rfl rfl ?_ | refine awp_seq ?_ | refine Zbm (fun _ _ => rfl) ?_ | refine Z8h ?_))
    refine Z93 rfl (by omega) hx0 ?_
    (repeat (refine st_q rfl rfl rfl ?_))
    refine Z93 rfl (by omega) hux ?_
    (repeat (first | refine st_q rfl rfl rfl ?_ | (refine Z8y ?_; (repeat (first | refine Z9v rfl ?_ | refine Z9w ?_)); refine Z9u ?_) | refine awp_seq ?_ | refine Zbm (fun _ _ => rfl) ?_))
    rw [hmk]
    by_cases h7 : x < keep.length
    rotate_left
    · (rw [decide_eq_false (p := (x : Int) < (keep.length : Int)) (by omega)])
      rw [if_neg (by rw [List.getD_eq_getElem?_getD, List.getElem?_eq_none (by omega)]; simp)] at hR
      (repeat (first | refine st_q rfl rfl rfl ?_ | refine Z8w rfl ?_ | (refine Z8y ?_; (repeat (first | refine Z9v rfl ?_ | refine Z9w ?_)); refine Z9u ?_) | refine Zbn (fun _ _ => rfl) ?_ | refine Kc2 rfl ?_))
      refine Zbp ?_
      (repeat (refine st_q rfl rfl rfl ?_))
      rw [Kwr j (by omega)]
      (refine Z8y ?_; (repeat (first | refine Z9v rfl ?_ | refine Z9w ?_)); refine Z9u ?_)
      refine ⟨_, n.kids.length - (j + 1), HSub.refl _, ?_, by omega⟩
      rw [hI]
      exact ⟨j + 1, us, kv, β, rfl, rfl, ho, hnb, by omega, by omega, hR, rfl⟩
    (rw [decide_eq_true (p := (x : Int) < (keep.length : Int)) (by omega)])
    have hkp := Zxw (f := Z0.bool) h7
    have hdk : keep.getD x false = keep[x] := by rw [List.getD_eq_getElem?_getD, List.getElem?_eq_getElem h7]; rfl
    rw [hdk] at hR
    generalize keep[x] = kx at hkp hR
    (repeat refine Z8v rfl (st_q rfl rfl rfl ?_))
    refine Z8v rfl (Z93 rfl (by omega) hkp ?_)
    cases kx with
    | false =>
      simp only [Bool.false_eq_true, if_false] at hR
      (repeat (first | refine st_q rfl rfl rfl ?_ | refine Z8v rfl (st_q rfl rfl rfl ?_) | (refine Z8y ?_; (repeat (first | refine Z9v rfl ?_ | refine Z9w ?_)); refine Z9u ?_) | refine Zbn (fun _ _ => rfl) ?_ | refine Kc2 rfl ?_))
      refine Zbp ?_
      (repeat (refine st_q rfl rfl rfl ?_))
      rw [Kwr j (by omega)]
      (refine Z8y ?_; (repeat (first | refine Z9v rfl ?_ | refine Z9w ?_)); refine Z9u ?_)
      refine ⟨_, n.kids.length - (j + 1), HSub.refl _, ?_, by omega⟩
      rw [hI]
      exact ⟨j + 1, us, kv, β, rfl, rfl, ho, hnb, by omega, by omega, hR, rfl⟩
    | true =>
      simp only [if_true] at hR
      generalize projF l keep x w = vj at hih hR
      rw [Zm7] at hih
      (repeat (first | refine st_q rfl rfl rfl ?_ | refine Z8v rfl (st_q rfl rfl rfl ?_) | (refine Z8y ?_; (repeat (first | refine Z9v rfl ?_ | refine Z9w ?_)); refine Z9u ?_) | refine Zbm (fun _ _ => rfl) ?_ | refine Kc1 rfl ?_))
      refine Z92 rfl (by rw [Zah hnb]; exact Z8z) rfl rfl ?_
      (repeat (refine st_q rfl rfl rfl ?_))
      refine Z93 rfl (by omega) hvx ?_
      (repeat (refine st_q rfl rfl rfl ?_))
      refine Zbw rfl hih ?_
      (repeat (refine st_q rfl rfl rfl ?_))
      refine Zbs (ys := [.agg (Zm6 vj)]) ho rfl rfl (by rw [Zm9, List.length_singleton]; omega) fun b' hb' => ?_
      have f9 : b' ≠ b9 := fun e => hb' (by rw [e]; simp [Zh])
      rw [heA]
      (repeat (refine st_q rfl rfl rfl ?_))
      refine Z9a rfl (Z90 f9 Z8z) rfl (by decide) (Kfi rfl) (fun h => by cases h) (Z9c f9 Z9b) ?_
      (refine Z8y ?_; (repeat (first | refine Z9v rfl ?_ | refine Z9w ?_)); refine Z9u ?_)
      refine Zbp ?_
      (repeat (refine st_q rfl rfl rfl ?_))
      rw [Kwr j (by omega)]
      (refine Z8y ?_; (repeat (first | refine Z9v rfl ?_ | refine Z9w ?_)); refine Z9u ?_)
      refine ⟨_, n.kids.length - (j + 1), HSub.refl _, ?_, by omega⟩
      rw [hI]
      exact ⟨j + 1, us ++ [vj], _, [(b', _)], rfl, rfl, Zbr.mk, fun hm => by simp only [Zh, List.map_cons, List.map_nil, List.mem_singleton] at hm; exact f9 hm.symm, by rw [List.length_append, List.length_singleton]; omega, by omega, by rw [List.append_assoc]; exact hR, rfl⟩
end Go.Abs
namespace Go.Abs
open Go Go.Proofs
set_option linter.unusedVariables false
set_option linter.unusedSimpArgs false
set_option maxHeartbeats 4000000
theorem Anc.trans {l : List Nd} {a b c : Nat} (h1 : Anc l a b) (h2 : Anc l b c) : Anc l a c := by
  induction h2 with
  | refl => exact h1
  | step hc hp _ ih => exact .step hc hp ih
theorem Z24o : ∀ (ks : List Ty) (j : Nat) (u : Ty), ks[j]? = some u → cntL (ks.take j) + cnt u ≤ cntL ks
  | [], j, u, h => by simp at h
  | t :: ts, 0, u, h => by
    simp only [List.getElem?_cons_zero, Option.some.injEq] at h
    subst h
    rw [List.take_zero, cntL, cntL]; omega
  | t :: ts, j + 1, u, h => by
    have := Z24o ts j u (by simpa using h)
    rw [List.take_succ_cons, cntL, cntL]; omega
theorem Z24p (t : Ty) : cnt t = 1 + cntL t.kids := by obtain ⟨k, ns, ks, a, b, c⟩ := t; rw [cnt]; rfl
theorem Z24q {l : List Nd} (hT : TreeN l) {a x : Nat} (h : Anc l a x) : ∀ {n : Nd} (hn : l[x]? = some n), a ≤ x ∧ x + cnt n.t ≤ a + sizeC l a := by
  induction h with
  | refl => intro n hn; rw [sizeC, hn]; exact ⟨Nat.le_refl _, Nat.le_refl _⟩
  | @step c p m hc hp hh ih =>
    intro n hn
    have hlt := hT.up hc hp
    obtain ⟨⟨p', q, j, e1, e2, e3, e4, _⟩⟩ := hT.par c m hc (by omega)
    rw [hp] at e1
    have := Int.ofNat.inj e1
    subst this
    obtain ⟨h1, h2⟩ := ih e3
    obtain ⟨u, m', f1, f2, f3, f4, _⟩ := (hT.nok p q e3).kids j c e4
    have e5 : n = m' := by rw [hn] at f3; exact Option.some.inj f3
    have := Z24o q.t.kids j u f1
    rw [Z24p q.t] at h2
    rw [e5, f4]
    omega
theorem Z24r {l : List Nd} (hT : TreeN l) : ∀ (d a x : Nat) (n : Nd), x - a = d → l[a]? = some n → a ≤ x → x < a + cnt n.t → Anc l a x := by
  intro d
  induction d using Nat.strongRecOn with
  | _ d ih =>
    intro a x n hd hn h1 h2
    by_cases e : x = a
    · subst e; exact .refl
    · rw [Z24p] at h2
      obtain ⟨j, u, e1, e2, e3⟩ := Z1lz n.t.kids (a + 1) x (by omega) (by omega)
      have hjl : j < n.kids.length := by rw [(hT.nok a n hn).len]; exact (List.getElem?_eq_some_iff.1 e1).1
      obtain ⟨u', m, f1, f2, f3, f4, f5, _⟩ := (hT.nok a n hn).kids j _ (List.getElem?_eq_getElem hjl)
      rw [e1] at f1
      cases f1
      have := ih (x - n.kids[j]) (by omega) n.kids[j] x m rfl f3 (by omega) (by rw [f4]; omega)
      exact this.over f3 f5
theorem Z24s {l : List Nd} (hT : TreeN l) {a : Nat} {n : Nd} (hn : l[a]? = some n) {k : List Bool} (hk : k.length = l.length) {x : Nat} (hx : x < l.length) : (fillN a (cnt n.t) k).getD x false = true ↔ Anc l a x ∨ k.getD x false = true := by
  rw [Z24d]
  constructor
  · rintro (⟨h1, h2, _⟩ | h)
    · exact .inl (Z24r hT _ a x n rfl hn h1 h2)
    · exact .inr h
  · rintro (h | h)
    · have := Z24q hT h (List.getElem?_eq_getElem hx)
      rw [sizeC, hn] at this
      have hp : 1 ≤ cnt l[x].t := by rw [Z24p]; omega
      simp only at this
      exact .inl ⟨this.1, by omega, by omega⟩
    · exact .inr h
theorem Z24t {k : List Bool} {a x : Nat} (ha : a < k.length) : (k.set a true).getD x false = true ↔ x = a ∨ k.getD x false = true := by
  rw [List.getD_eq_getElem?_getD, List.getD_eq_getElem?_getD]
  by_cases e : x = a
  · subst e; rw [List.getElem?_set_self ha]; simp
  · rw [List.getElem?_set_ne (fun h => e h.symm)]; simp [e]
def UpK (l : List Nd) (c x : Nat) : Prop := ∃ q, Anc l q c ∧ (q = x ∨ (Zyh l q ≠ 12 ∧ Anc l q x))
theorem Z24u {l : List Nd} (hT : TreeN l) {x : Nat} (hx : x < l.length) : ∀ (fl : Nat) (p : Int) (k : List Bool), k.length = l.length → -1 ≤ p → p < l.length → (p + 1).toNat ≤ fl → ((upwF l fl p k).getD x false = true ↔ k.getD x false = true ∨ (0 ≤ p ∧ UpK l p.toNat x))
  | 0, p, k, hk, h1, h2, h3 => by
    rw [upwF]
    constructor
    · exact .inl
    · rintro (h | h)
      · exact h
      · omega
  | fl + 1, p, k, hk, h1, h2, h3 => by
    rw [upwF]
    by_cases h0 : p < 0
    · rw [if_pos h0]
      constructor
      · exact .inl
      · rintro (h | h)
        · exact h
        · omega
    · rw [if_neg h0]
      obtain ⟨a, rfl⟩ : ∃ a : Nat, p = (a : Int) := ⟨p.toNat, by omega⟩
      rw [Int.toNat_natCast]
      have hal : a < l.length := by omega
      have hn := List.getElem?_eq_getElem hal
      rw [hn]
      simp only
      have hkind : Zyh l a = l[a].t.kind := by rw [Zyh, hn]
      have hpar : l[a].parent = -1 ∨ ∃ q : Nat, l[a].parent = (q : Int) ∧ q < a := by
        by_cases e : a = 0
        · subst e; exact .inl (hT.root _ hn).1
        · obtain ⟨⟨q, _, _, e1, e2, _⟩⟩ := hT.par a _ hn (by omega)
          exact .inr ⟨q, e1, e2⟩
      have hk1 : (if l[a].t.kind ≠ 12 then fillN a (cnt l[a].t) k else k).length = l.length := by
        split
        · rw [Z24b, hk]
        · exact hk
      have hpp : -1 ≤ l[a].parent ∧ l[a].parent < a := by rcases hpar with e | ⟨q, e, _⟩ <;> omega
      rw [Z24u hT hx fl _ _ (by rw [List.length_set]; exact hk1) (by omega) (by omega) (by omega), Z24t (by rw [hk1]; exact hal)]
      have hmid : (if l[a].t.kind ≠ 12 then fillN a (cnt l[a].t) k else k).getD x false = true ↔ (Zyh l a ≠ 12 ∧ Anc l a x) ∨ k.getD x false = true := by
        rw [hkind]
        split
        · rename_i h; rw [Z24s hT hn hk hx]; simp [h]
        · rename_i h; simp [h]
      rw [hmid]
      have hup : UpK l a x ↔ (a = x ∨ (Zyh l a ≠ 12 ∧ Anc l a x)) ∨ (0 ≤ l[a].parent ∧ UpK l l[a].parent.toNat x) := by
        constructor
        · rintro ⟨q, hq, hqx⟩
          cases hq with
          | refl => exact .inl hqx
          | step hc hp hh =>
            rw [hn] at hc
            cases hc
            exact .inr ⟨by omega, q, by rw [hp, Int.toNat_natCast]; exact hh, hqx⟩
        · rintro (h | ⟨h0', q, hq, hqx⟩)
          · exact ⟨a, .refl, h⟩
          · exact ⟨q, .step hn (p := l[a].parent.toNat) (by omega) hq, hqx⟩
      rw [hup]
      have h00 : (0 : Int) ≤ (a : Int) := by omega
      constructor
      · rintro ((h | h | h) | h)
        · exact .inr ⟨h00, .inl (.inl h.symm)⟩
        · exact .inr ⟨h00, .inl (.inr h)⟩
        · exact .inl h
        · exact .inr ⟨h00, .inr h⟩
      · rintro (h | ⟨_, (h | h) | h⟩)
        · exact .inl (.inr (.inr h))
        · exact .inl (.inl h.symm)
        · exact .inl (.inr (.inl h))
        · exact .inr h
def KeepC (l : List Nd) (cols : List Int) (x : Nat) : Prop := ∃ c ∈ cols, Anc l c.toNat x ∨ UpK l c.toNat x
theorem Z24v (l : List Nd) : ∀ (cols : List Int) (k : List Bool), (Z24h l cols k).length = k.length
  | [], _ => rfl
  | c :: cs, k => by rw [Z24h, Z24v l cs, Z24g, Z24b]
theorem Z24w {l : List Nd} (hT : TreeN l) {x : Nat} (hx : x < l.length) : ∀ (cols : List Int) (k : List Bool), k.length = l.length → (∀ c ∈ cols, 0 ≤ c ∧ c < l.length) → ((Z24h l cols k).getD x false = true ↔ k.getD x false = true ∨ KeepC l cols x)
  | [], k, _, _ => by simp [Z24h, KeepC]
  | c :: cs, k, hk, hc => by
    obtain ⟨c1, c2⟩ := hc c (by simp)
    have hn := List.getElem?_eq_getElem (show c.toNat < l.length by omega)
    have hs : sizeC l c.toNat = cnt l[c.toNat].t := by rw [sizeC, hn]
    rw [Z24h, Z24w hT hx cs _ (by rw [Z24g, Z24b, hk]) (fun d hd => hc d (List.mem_cons_of_mem _ hd)), hs, Z24u hT hx _ _ _ (by rw [Z24b, hk]) (by omega) c2 (by omega), Z24s hT hn hk hx]
    constructor
    · rintro (((h | h) | ⟨_, h⟩) | ⟨d, hd, h⟩)
      · exact .inr ⟨c, by simp, .inl h⟩
      · exact .inl h
      · exact .inr ⟨c, by simp, .inr h⟩
      · exact .inr ⟨d, List.mem_cons_of_mem _ hd, h⟩
    · rintro (h | ⟨d, hd, h⟩)
      · exact .inl (.inl (.inr h))
      · rcases List.mem_cons.1 hd with e | e
        · subst e
          rcases h with h | h
          · exact .inl (.inl (.inl h))
          · exact .inl (.inr ⟨c1, h⟩)
        · exact .inr ⟨d, e, h⟩
theorem Z24x {l : List Nd} (hT : TreeN l) {cols : List Int} (hc : ∀ c ∈ cols, 0 ≤ c ∧ c < l.length) {x : Nat} (hx : x < l.length) : (Z24j l cols).getD x false = true ↔ KeepC l cols x := by
  rw [Z24j, Z24w hT hx cols _ (by simp) hc]
  constructor
  · rintro (h | h)
    · rw [List.getD_eq_getElem?_getD, List.getElem?_replicate, if_pos hx] at h; cases h
    · exact h
  · exact .inr
theorem Z24y (l : List Nd) (cols : List Int) : (Z24j l cols).length = l.length := by rw [Z24j, Z24v, List.length_replicate]
theorem KeepC.up {l : List Nd} {cols : List Int} {x i : Nat} {q : Nd} (hx : l[x]? = some q) (hp : q.parent = (i : Int)) (h : KeepC l cols x) : KeepC l cols i := by
  obtain ⟨c, hc, h⟩ := h
  refine ⟨c, hc, ?_⟩
  have inv : ∀ {p : Nat}, Anc l p x → p = x ∨ Anc l p i := fun {p} h => by
    cases h with
    | refl => exact .inl rfl
    | step hc hp' hh =>
      rw [hx] at hc
      cases hc
      rw [hp] at hp'
      exact .inr (by rw [Int.ofNat.inj hp']; exact hh)
  have self : Anc l x c.toNat → UpK l c.toNat i := fun h => ⟨i, h.over hx hp, .inl rfl⟩
  rcases h with h | ⟨p, hpc, h | ⟨k12, h⟩⟩
  · rcases inv h with e | e
    · exact .inr (self (by rw [e]; exact .refl))
    · exact .inl e
  · subst h; exact .inr (self hpc)
  · rcases inv h with e | e
    · subst e; exact .inr (self hpc)
    · exact .inr ⟨p, hpc, .inr ⟨k12, e⟩⟩
theorem KeepC.down {l : List Nd} {cols : List Int} {i y : Nat} (h : KeepC l cols i) (k12 : Zyh l i ≠ 12) (hy : Anc l i y) : KeepC l cols y := by
  obtain ⟨c, hc, h⟩ := h
  refine ⟨c, hc, ?_⟩
  rcases h with h | ⟨p, hpc, h | ⟨k, h⟩⟩
  · exact .inl (h.trans hy)
  · subst h; exact .inr ⟨p, hpc, .inr ⟨k12, hy⟩⟩
  · exact .inr ⟨p, hpc, .inr ⟨k, h.trans hy⟩⟩
theorem Z24z {l : List Nd} (hT : TreeN l) {cols : List Int} (hc : ∀ c ∈ cols, 0 ≤ c ∧ c < l.length) : Whole l (Z24j l cols) := by
  intro i n hn x hx
  obtain ⟨j, hj⟩ := List.getElem?_of_mem hx
  obtain ⟨u, q, _, _, hq, _, hp, _⟩ := (hT.nok i n hn).kids j x hj
  have h1 := (List.getElem?_eq_some_iff.1 hn).1
  have h2 := (List.getElem?_eq_some_iff.1 hq).1
  rw [Z24x hT hc h1, Z24x hT hc h2]
  refine ⟨fun h => h.up hq hp, fun h => ?_⟩
  by_cases k12 : n.t.kind = 12
  · exact .inr k12
  · exact .inl (h.down (by rw [Zyh, hn]; exact k12) (.step hq hp .refl))
theorem Z250 {l : List Nd} (hT : TreeN l) {cols : List Int} (hc : ∀ c ∈ cols, 0 ≤ c ∧ c < l.length) (hne : cols ≠ []) : (Z24j l cols).getD 0 false = true := by
  obtain ⟨c, cs, rfl⟩ := List.exists_cons_of_ne_nil hne
  obtain ⟨c1, c2⟩ := hc c (by simp)
  rw [Z24x hT hc (by omega)]
  have : ∀ (a : Nat), a < l.length → Anc l 0 a := by
    intro a
    induction a using Nat.strongRecOn with
    | _ a ih =>
      intro ha
      by_cases e : a = 0
      · subst e; exact .refl
      · obtain ⟨⟨q, _, _, e1, e2, _⟩⟩ := hT.par a _ (List.getElem?_eq_getElem ha) (by omega)
        exact .step (List.getElem?_eq_getElem ha) e1 (ih q e2 (by omega))
  exact ⟨c, by simp, .inr ⟨0, this _ (by omega), .inl rfl⟩⟩
theorem Z251 {l : List Nd} (hT : TreeN l) {keep : List Bool} : ∀ (v : Vl) (a : Nat) (n : Nd), l[a]? = some n → n.t.Ok → vchk n.t v = 0 → (∀ y, Anc l a y → y < l.length → keep.getD y false = true) → prV l keep a v = v := by
  refine Vl.ind fun nu i m b ks ih a n hn hok hv hk => ?_
  rw [prV]
  congr 1
  cases nu with
  | true =>
    rw [vchk, if_pos rfl] at hv
    have : ks = [] := by
      by_cases e : ks.length = 0
      · exact List.length_eq_zero_iff.1 e
      · rw [if_pos (.inr (.inr (.inr e)))] at hv; cases hv
    subst this
    rfl
  | false =>
    have hL : ∀ (vs : List Vl) (j : Nat), (∀ m w, vs[m]? = some w → ks[j + m]? = some w) → prL l keep a i j vs = vs := by
      intro vs
      induction vs with
      | nil => intro j _; rfl
      | cons w vs ih2 =>
        intro j hj
        have hw0 := hj 0 w rfl
        rw [Nat.add_zero] at hw0
        obtain ⟨x, q, x1, x2, x3, x4, x5, x6, x7⟩ := Z1m4 hT hn hok hv hw0
        have hxl := (List.getElem?_eq_some_iff.1 x3).1
        rw [prL, x2, if_pos (hk x (.step x3 x4 .refl) hxl), ih w (List.mem_of_getElem? hw0) x q x3 x6 x7 (fun y hy hyl => hk y (hy.over x3 x4) hyl),
          ih2 (j + 1) fun m w' hw => by have := hj (m + 1) w' (by simpa using hw); rw [show j + 1 + m = j + (m + 1) by omega]; exact this]
    exact hL ks 0 fun m w hw => by rw [Nat.zero_add]; exact hw
theorem Z252 {l : List Nd} (hT : TreeN l) {cols : List Int} (hc : ∀ c ∈ cols, 0 ≤ c ∧ c < l.length) : ∀ (v : Vl) (a : Nat) (n : Nd), l[a]? = some n → n.t.Ok → vchk n.t v = 0 → (Z24j l cols).getD a false = true → projF l (Z24j l cols) a v = prV l (Z24j l cols) a v := by
  refine Vl.ind fun nu i m b ks ih a n hn hok hv hka => ?_
  have hal := (List.getElem?_eq_some_iff.1 hn).1
  have hkind : Zyh l a = n.t.kind := by rw [Zyh, hn]
  rw [projF]
  by_cases h : nu = true ∨ Zyh l a ≠ 12
  · rw [if_pos h]
    cases nu with
    | true =>
      rw [vchk, if_pos rfl] at hv
      have : ks = [] := by
        by_cases e : ks.length = 0
        · exact List.length_eq_zero_iff.1 e
        · rw [if_pos (.inr (.inr (.inr e)))] at hv; cases hv
      subst this
      rfl
    | false =>
      have k12 : Zyh l a ≠ 12 := by
        rcases h with h | h
        · cases h
        · exact h
      refine (Z251 hT _ a n hn hok hv fun y hy hyl => ?_).symm
      rw [Z24x hT hc hal] at hka
      rw [Z24x hT hc hyl]
      exact hka.down k12 hy
  · rw [if_neg h]
    have hnu : nu = false := by cases nu with | false => rfl | true => exact absurd (.inl rfl) h
    subst hnu
    have k12 : n.t.kind = 12 := by rw [← hkind]; omega
    obtain ⟨ho, _⟩ := Z1m3 hv
    have hnum : Zme n.t.kind n.t.kids.length n.t.prec i m = true ∧ (b ≠ [] → Zmb n.t.kind = true) := by
      unfold ownV at ho
      split at ho
      · cases ho
      · rename_i h1
        simp only [not_or, not_and, Bool.not_eq_false, Bool.not_eq_true] at h1
        exact ⟨h1.1, h1.2.1⟩
    obtain ⟨u1, u2⟩ := hnum
    have hb : b = [] := by
      by_cases e : b = []
      · exact e
      · have := u2 e; rw [k12] at this; cases this
    have hm : m = 0 ∧ i = 0 := by
      rw [Zme] at u1
      rw [k12] at u1
      split at u1
      · cases u1
      · rename_i h2
        simp only [not_and, Decidable.not_not] at h2
        refine ⟨?_, by simpa using u1⟩
        by_cases e : m = 0
        · exact e
        · exact absurd (h2 e) (by decide)
    obtain ⟨rfl, rfl⟩ := hm
    subst hb
    rw [prV, hn]
    congr 1
    have hkl : ks.length = n.kids.length := by
      rw [(hT.nok a n hn).len]
      unfold ownV at ho
      (repeat' split at ho) <;> first | omega | (exfalso; omega)
    have hL : ∀ (vs : List Vl) (j : Nat), (∀ m w, vs[m]? = some w → ks[j + m]? = some w) → projL l (Z24j l cols) (n.kids.drop j) vs = prL l (Z24j l cols) a 0 j vs := by
      intro vs
      induction vs with
      | nil => intro j _; rw [projL, prL]
      | cons w vs ih2 =>
        intro j hj
        have hw0 := hj 0 w rfl
        rw [Nat.add_zero] at hw0
        obtain ⟨x, q, x1, x2, x3, x4, x5, x6, x7⟩ := Z1m4 hT hn hok hv hw0
        have hka' : Zmf n.t.kind 0 j = j := by simp [Zmf, k12]
        rw [hka'] at x1
        have hjl := (List.getElem?_eq_some_iff.1 x1).1
        have hxe : n.kids[j] = x := (List.getElem?_eq_some_iff.1 x1).2
        rw [List.drop_eq_getElem_cons hjl, projL, prL, x2, hxe, ih2 (j + 1) fun m w' hw => by have := hj (m + 1) w' (by simpa using hw); rw [show j + 1 + m = j + (m + 1) by omega]; exact this]
        split
        · rename_i hk
          rw [ih w (List.mem_of_getElem? hw0) x q x3 x6 x7 hk]
        · rfl
    have := hL ks 0 fun m w hw => by rw [Nat.zero_add]; exact hw
    rw [List.drop_zero] at this
    exact this
theorem Z253 (l : List Nd) (keep : List Bool) : ∀ (v : Vl) (a : Nat), v.Fit → (projF l keep a v).Fit := by
  refine Vl.ind fun nu i m b ks ih a hf => ?_
  rw [projF]
  split
  · exact hf
  · cases hf with
    | mk h1 h2 h3 h4 =>
      have hL : ∀ (vs : List Vl), (∀ v ∈ vs, v ∈ ks) → ∀ (xs : List Nat), (projL l keep xs vs).length ≤ vs.length ∧ ∀ v ∈ projL l keep xs vs, v.Fit := by
        intro vs
        induction vs with
        | nil => intro _ xs; rw [projL]; exact ⟨Nat.le_refl _, by simp⟩
        | cons w vs ih2 =>
          intro hs xs
          cases xs with
          | nil => rw [Z24m]; exact ⟨by simp, by simp⟩
          | cons x xs =>
            rw [projL]
            obtain ⟨r1, r2⟩ := ih2 (fun v hv => hs v (List.mem_cons_of_mem _ hv)) xs
            split
            · refine ⟨by simp; exact r1, fun v hv => ?_⟩
              rcases List.mem_cons.1 hv with e | e
              · rw [e]; exact ih w (hs w (by simp)) x (h4 w (hs w (by simp)))
              · exact r2 v e
            · exact ⟨by simp; omega, r2⟩
      exact .mk (by simp [Vl.i]) (by simp [Vl.b]) (Nat.le_trans (hL ks (fun _ h => h) _).1 h3) fun v hv => (hL ks (fun _ h => h) _).2 v hv
end Go.Abs

