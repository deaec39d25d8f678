/- Part E of a proof: merged by program. -/
import Derived.Test.YtgmefkhincnajaaPkD
import Derived.Test.YtgmefkhincnajaaProg
import Derived.KernelRfl
namespace Go.Abs
open Go
def Z1g9 : List Z2a := [
  ⟨some 2,(.box 6),[.t 0],none⟩,⟨some 4,.mov,[.c (.slc 0 [] true)],none⟩,⟨some 5,.mov,[.c (.int .i64 0)],none⟩]
def Z1ga : List Z2a := [
  ⟨some 12,(.load true 6),[.t 2],none⟩,⟨some 13,(.call Zd7),[.t 12],none⟩,⟨some 6,.mov,[.t 13],none⟩]
def Z1gb : List Z2a := [
  ⟨some 14,.mov,[.t 6],none⟩,⟨some 15,(.bin .neq),[.t 14,.c (.int .i64 0)],none⟩]
def Z1gc : List Z2a := [
  ⟨some 16,.mov,[.t 6],none⟩,⟨some 4,.mov,[.c (.slc 0 [] true)],none⟩,⟨some 5,.mov,[.t 16],none⟩]
def Z1gd : List Z2a := [
  ⟨some 17,(.load true 6),[.t 2],none⟩,⟨some 18,(.call Zcr),[.t 17],none⟩,⟨some 7,.mov,[.t 18],none⟩]
def Z1ge : List Z2a := [
  ⟨some 8,.mov,[.c (.int .i64 0)],none⟩]
def Z1gf : List Z2a := [
  ⟨some 19,.mov,[.t 8],none⟩,⟨some 20,.mov,[.t 1],none⟩,⟨some 21,.lens,[.t 20],none⟩,⟨some 22,(.bin .lss),[.t 19,.t 21],none⟩]
def Z1gg : List Z2a := [
  ⟨some 25,(.load true 6),[.t 2],none⟩,⟨some 26,.mov,[.t 1],none⟩,⟨some 27,.mov,[.t 8],none⟩,⟨some 28,(.iad 5),[.t 26,.t 27],none⟩,⟨some 29,(.load true 5),[.t 28],none⟩,⟨some 30,(.call Zde),[.t 25,.t 29],none⟩,⟨some 9,.mov,[.t 30],none⟩]
def Z1gh : List Z2a := [
  ⟨some 31,.mov,[.t 9],none⟩,⟨some 32,(.bin .eql),[.t 31,.c (.int .i64 0)],none⟩,⟨some 33,.mov,[.t 32],none⟩,⟨some 34,.mov,[.t 1],some (33,true)⟩,⟨some 35,.mov,[.t 8],some (33,true)⟩,⟨some 36,(.iad 5),[.t 34,.t 35],some (33,true)⟩,⟨some 37,(.fad 0),[.t 36],some (33,true)⟩,⟨some 38,(.load false 1),[.t 37],some (33,true)⟩,⟨some 39,.pick,[.t 33,.t 38,.c (.bool false)],none⟩]
def Z1gi : List Z2a := [
  ⟨some 9,.mov,[.c (.int .i64 1)],none⟩]
def Z1gj : List Z2a := [
  ⟨some 40,.mov,[.t 9],none⟩,⟨some 41,(.bin .neq),[.t 40,.c (.int .i64 0)],none⟩]
def Z1gk : List Z2a := [
  ⟨some 42,.mov,[.t 9],none⟩,⟨some 4,.mov,[.c (.slc 0 [] true)],none⟩,⟨some 5,.mov,[.t 42],none⟩]
def Z1gl : List Z2a := [
  ⟨some 23,.mov,[.t 8],none⟩,⟨some 24,(.bin .add),[.t 23,.c (.int .i64 1)],none⟩,⟨some 8,.mov,[.t 24],none⟩]
def Z1gm : Z2b := (.seq (.seq (.region Z1gf [1,2,7,8,22,34,35,36,37,38]) (.cond (.t 22) .skip (.exit 0))) (.seq (.block 1 (.seq (.region Z1gg [1,2,7,8,9,34,35,36,37,38]) (.seq (.seq (.region Z1gh [1,2,7,8,9,34,35,36,37,38,39]) (.cond (.t 39) (.region Z1gi [1,2,7,8,9,34,35,36,37,38]) .skip)) (.seq (.region Z1gj [1,2,7,8,9,34,35,36,37,38,41]) (.cond (.t 41) (.seq (.region Z1gk [4,5]) .ret) .skip))))) (.region Z1gl [1,2,7,8,34,35,36,37,38])))
def Z1gn : List Z2a := [
  ⟨some 43,.mov,[.t 7],none⟩,⟨some 44,.lens,[.t 43],none⟩,⟨some 45,(.mks 5 120 (.agg [(.slc 0 [] true),(.slc 0 [] true),(.slc 0 [] true),(.slc 0 [] true),(.slc 0 [] true)])),[.t 44,.t 44],none⟩,⟨some 10,.mov,[.t 45],none⟩]
def Z1go : List Z2a := [
  ⟨some 11,.mov,[.c (.int .i64 0)],none⟩]
def Z1gp : List Z2a := [
  ⟨some 46,.mov,[.t 11],none⟩,⟨some 47,.mov,[.t 1],none⟩,⟨some 48,.lens,[.t 47],none⟩,⟨some 49,(.bin .lss),[.t 46,.t 48],none⟩]
def Z1gq : List Z2a := [
  ⟨some 52,.mov,[.t 7],none⟩,⟨some 53,.mov,[.t 10],none⟩,⟨some 54,.mov,[.t 1],none⟩,⟨some 55,.mov,[.t 11],none⟩,⟨some 56,(.iad 5),[.t 54,.t 55],none⟩,⟨some 57,(.load true 5),[.t 56],none⟩,⟨some 58,(.call Ze0),[.t 52,.t 53,.c (.int .i64 0),.t 57],none⟩,⟨some 59,.unot,[.t 58],none⟩]
def Z1gr : List Z2a := [
  ⟨some 4,.mov,[.c (.slc 0 [] true)],none⟩,⟨some 5,.mov,[.c (.int .i64 4)],none⟩]
def Z1gs : List Z2a := [
  ⟨some 50,.mov,[.t 11],none⟩,⟨some 51,(.bin .add),[.t 50,.c (.int .i64 1)],none⟩,⟨some 11,.mov,[.t 51],none⟩]
def Z1gt : Z2b := (.seq (.seq (.region Z1gp [1,7,10,11,49]) (.cond (.t 49) .skip (.exit 2))) (.seq (.block 3 (.seq (.region Z1gq [1,7,10,11,59]) (.cond (.t 59) (.seq (.region Z1gr [4,5]) .ret) .skip))) (.region Z1gs [1,7,10,11])))
def Z1gu : List Z2a := [
  ⟨some 60,.mov,[.t 10],none⟩,⟨some 4,.mov,[.t 60],none⟩,⟨some 5,.mov,[.c (.int .i64 0)],none⟩]
def Z1gv : Z2y := ⟨61,(.seq (.region Z1g9 [1,2,34,35,36,37,38]) (.seq (.region Z1ga [1,2,6,34,35,36,37,38]) (.seq (.seq (.region Z1gb [1,2,6,15,34,35,36,37,38]) (.cond (.t 15) (.seq (.region Z1gc [4,5]) .ret) .skip)) (.seq (.region Z1gd [1,2,7,34,35,36,37,38]) (.seq (.seq (.region Z1ge [1,2,7,8,34,35,36,37,38]) (.block 0 (.loop Z1gm))) (.seq (.region Z1gn [1,7,10]) (.seq (.seq (.region Z1go [1,7,10,11]) (.block 2 (.loop Z1gt))) (.seq (.region Z1gu [4,5]) .ret)))))))),[.t 4,.t 5]⟩
def Z1gw : List Z2a := [
  ⟨some 7,(.box 5),[.t 3],none⟩,⟨some 8,.mov,[.c (.bool false)],none⟩]
def Z1gx : List Z2a := [
  ⟨some 13,.mov,[.t 1],none⟩,⟨some 14,.mov,[.t 2],none⟩,⟨some 15,(.iad 5),[.t 13,.t 14],none⟩,⟨some 9,.mov,[.t 15],none⟩]
def Z1gy : List Z2a := [
  ⟨some 16,.mov,[.t 9],none⟩,⟨some 17,.nilc,[.t 16],none⟩,⟨some 18,(.fad 0),[.t 17],none⟩,⟨some 19,(.load false 1),[.t 18],none⟩,⟨some 20,.lens,[.t 19],none⟩,⟨some 21,(.bin .geq),[.t 20,.c (.int .i64 16384)],none⟩]
def Z1gz : List Z2a := [
  ⟨some 8,.mov,[.c (.bool false)],none⟩]
def Z1h0 : List Z2a := [
  ⟨some 22,.mov,[.t 9],none⟩,⟨some 23,.mov,[.t 9],none⟩,⟨some 24,.nilc,[.t 23],none⟩,⟨some 25,(.fad 0),[.t 24],none⟩,⟨some 26,(.load false 1),[.t 25],none⟩,⟨some 27,(.fad 0),[.t 7],none⟩,⟨some 28,(.load false 1),[.t 27],none⟩,⟨some 29,.unot,[.t 28],none⟩,⟨some 30,(.bsl 1),[.t 29],none⟩,⟨some 31,(.app 1 1),[.t 26,.t 30],none⟩,⟨some 32,.nilc,[.t 22],none⟩,⟨some 33,(.fad 0),[.t 32],none⟩,⟨none,(.store 1),[.t 33,.t 31],none⟩]
def Z1h1 : List Z2a := [
  ⟨some 34,(.fad 0),[.t 7],none⟩,⟨some 35,(.load false 1),[.t 34],none⟩]
def Z1h2 : List Z2a := [
  ⟨some 8,.mov,[.c (.bool true)],none⟩]
def Z1h3 : List Z2a := [
  ⟨some 36,.mov,[.t 0],none⟩,⟨some 37,.mov,[.t 2],none⟩,⟨some 38,(.iad 9),[.t 36,.t 37],none⟩,⟨some 39,(.fad 0),[.t 38],none⟩,⟨some 40,(.load true 6),[.t 39],none⟩,⟨some 10,(.alloc (.agg [(.int .i64 0),(.slc 0 [] true),(.slc 0 [] true),(.int .i64 0),(.int .i64 0),(.int .i64 0)])),[],none⟩,⟨none,(.store 6),[.t 10,.t 40],none⟩]
def Z1h4 : List Z2a := [
  ⟨some 42,(.fad 0),[.t 10],none⟩,⟨some 43,(.load false 1),[.t 42],none⟩,⟨some 44,(.call Zea),[.t 43],none⟩,⟨some 41,.mov,[.t 44],none⟩]
def Z1h5 : List Z2a := [
  ⟨some 45,.mov,[.t 9],none⟩,⟨some 46,.mov,[.t 9],none⟩,⟨some 47,.nilc,[.t 46],none⟩,⟨some 48,(.fad 3),[.t 47],none⟩,⟨some 49,(.load false 1),[.t 48],none⟩,⟨some 50,(.fad 3),[.t 7],none⟩,⟨some 51,(.load false 1),[.t 50],none⟩,⟨some 52,(.bsl 1),[.t 51],none⟩,⟨some 53,(.app 1 24),[.t 49,.t 52],none⟩,⟨some 54,.nilc,[.t 45],none⟩,⟨some 55,(.fad 3),[.t 54],none⟩,⟨none,(.store 1),[.t 55,.t 53],none⟩]
def Z1h6 : List Z2a := [
  ⟨some 57,(.fad 0),[.t 10],none⟩,⟨some 58,(.load false 1),[.t 57],none⟩,⟨some 59,(.bin .eql),[.t 58,.c (.int .i64 10)],none⟩,⟨some 56,.mov,[.t 59],none⟩]
def Z1h7 : List Z2a := [
  ⟨some 60,.mov,[.t 9],none⟩,⟨some 61,.mov,[.t 9],none⟩,⟨some 62,.nilc,[.t 61],none⟩,⟨some 63,(.fad 4),[.t 62],none⟩,⟨some 64,(.load false 1),[.t 63],none⟩,⟨some 65,(.fad 4),[.t 7],none⟩,⟨some 66,(.load false 1),[.t 65],none⟩,⟨some 67,.lens,[.t 66],none⟩,⟨some 68,(.bsl 1),[.t 67],none⟩,⟨some 69,(.app 1 8),[.t 64,.t 68],none⟩,⟨some 70,.nilc,[.t 60],none⟩,⟨some 71,(.fad 4),[.t 70],none⟩,⟨none,(.store 1),[.t 71,.t 69],none⟩]
def Z1h8 : List Z2a := [
  ⟨some 73,(.fad 0),[.t 10],none⟩,⟨some 74,(.load false 1),[.t 73],none⟩,⟨some 75,(.bin .eql),[.t 74,.c (.int .i64 11)],none⟩,⟨some 72,.mov,[.t 75],none⟩]
def Z1h9 : List Z2a := [
  ⟨some 76,.mov,[.t 9],none⟩,⟨some 77,.mov,[.t 9],none⟩,⟨some 78,.nilc,[.t 77],none⟩,⟨some 79,(.fad 4),[.t 78],none⟩,⟨some 80,(.load false 1),[.t 79],none⟩,⟨some 81,(.fad 4),[.t 7],none⟩,⟨some 82,(.load false 1),[.t 81],none⟩,⟨some 83,.lens,[.t 82],none⟩,⟨some 84,(.bin .quo),[.t 83,.c (.int .i64 2)],none⟩,⟨some 85,(.bsl 1),[.t 84],none⟩,⟨some 86,(.app 1 8),[.t 80,.t 85],none⟩,⟨some 87,.nilc,[.t 76],none⟩,⟨some 88,(.fad 4),[.t 87],none⟩,⟨none,(.store 1),[.t 88,.t 86],none⟩]
def Z1ha : List Z2a := [
  ⟨some 90,(.fad 0),[.t 10],none⟩,⟨some 91,(.load false 1),[.t 90],none⟩,⟨some 92,(.bin .neq),[.t 91,.c (.int .i64 12)],none⟩,⟨some 89,.mov,[.t 92],none⟩]
def Z1hb : List Z2a := [
  ⟨some 93,.mov,[.t 9],none⟩,⟨some 94,.mov,[.t 9],none⟩,⟨some 95,.nilc,[.t 94],none⟩,⟨some 96,(.fad 1),[.t 95],none⟩,⟨some 97,(.load false 1),[.t 96],none⟩,⟨some 98,(.fad 1),[.t 7],none⟩,⟨some 99,(.load false 1),[.t 98],none⟩,⟨some 100,(.bsl 1),[.t 99],none⟩,⟨some 101,(.app 1 8),[.t 97,.t 100],none⟩,⟨some 102,.nilc,[.t 93],none⟩,⟨some 103,(.fad 1),[.t 102],none⟩,⟨none,(.store 1),[.t 103,.t 101],none⟩]
def Z1hc : List Z2a := [
  ⟨some 104,(.fad 0),[.t 10],none⟩,⟨some 105,(.load false 1),[.t 104],none⟩,⟨some 106,(.bin .eql),[.t 105,.c (.int .i64 9)],none⟩]
def Z1hd : List Z2a := [
  ⟨some 107,.mov,[.t 9],none⟩,⟨some 108,.mov,[.t 9],none⟩,⟨some 109,.nilc,[.t 108],none⟩,⟨some 110,(.fad 2),[.t 109],none⟩,⟨some 111,(.load false 1),[.t 110],none⟩,⟨some 112,(.fad 2),[.t 7],none⟩,⟨some 113,(.load false 1),[.t 112],none⟩,⟨some 114,(.bsl 1),[.t 113],none⟩,⟨some 115,(.app 1 8),[.t 111,.t 114],none⟩,⟨some 116,.nilc,[.t 107],none⟩,⟨some 117,(.fad 2),[.t 116],none⟩,⟨none,(.store 1),[.t 117,.t 115],none⟩]
def Z1he : List Z2a := [
  ⟨some 11,.mov,[.c (.int .i64 0)],none⟩]
def Z1hf : List Z2a := [
  ⟨some 118,.mov,[.t 11],none⟩,⟨some 119,(.fad 4),[.t 7],none⟩,⟨some 120,(.load false 1),[.t 119],none⟩,⟨some 121,.lens,[.t 120],none⟩,⟨some 122,(.bin .lss),[.t 118,.t 121],none⟩]
def Z1hg : List Z2a := [
  ⟨some 12,.mov,[.c (.int .i64 0)],none⟩]
def Z1hh : List Z2a := [
  ⟨some 125,(.fad 0),[.t 10],none⟩,⟨some 126,(.load false 1),[.t 125],none⟩]
def Z1hi : List Z2a := [
  ⟨some 128,(.bin .eql),[.t 126,.c (.int .i64 12)],none⟩,⟨some 127,.mov,[.t 128],none⟩]
def Z1hj : List Z2a := [
  ⟨some 129,.mov,[.t 11],none⟩,⟨some 12,.mov,[.t 129],none⟩]
def Z1hk : List Z2a := [
  ⟨some 131,(.bin .eql),[.t 126,.c (.int .i64 11)],none⟩,⟨some 130,.mov,[.t 131],none⟩]
def Z1hl : List Z2a := [
  ⟨some 132,.mov,[.t 11],none⟩,⟨some 133,(.bin .rem),[.t 132,.c (.int .i64 2)],none⟩,⟨some 12,.mov,[.t 133],none⟩]
def Z1hm : List Z2a := [
  ⟨some 135,(.bin .eql),[.t 126,.c (.int .i64 13)],none⟩,⟨some 134,.mov,[.t 135],none⟩]
def Z1hn : List Z2a := [
  ⟨some 136,(.fad 1),[.t 7],none⟩,⟨some 137,(.load false 1),[.t 136],none⟩,⟨some 12,.mov,[.t 137],none⟩]
def Z1ho : List Z2a := [
  ⟨some 138,.mov,[.t 0],none⟩,⟨some 139,.mov,[.t 1],none⟩,⟨some 140,.mov,[.t 0],none⟩,⟨some 141,.mov,[.t 2],none⟩,⟨some 142,(.iad 9),[.t 140,.t 141],none⟩,⟨some 143,(.fad 6),[.t 142],none⟩,⟨some 144,(.load false 1),[.t 143],none⟩,⟨some 145,.mov,[.t 12],none⟩,⟨some 146,(.iad 1),[.t 144,.t 145],none⟩,⟨some 147,(.load false 1),[.t 146],none⟩,⟨some 148,(.fad 4),[.t 7],none⟩,⟨some 149,(.load false 1),[.t 148],none⟩,⟨some 150,.mov,[.t 11],none⟩,⟨some 151,(.iad 5),[.t 149,.t 150],none⟩,⟨some 152,(.load true 5),[.t 151],none⟩,⟨some 153,(.call Ze0),[.t 138,.t 139,.t 147,.t 152],none⟩,⟨some 154,.unot,[.t 153],none⟩]
def Z1hp : List Z2a := [
  ⟨some 8,.mov,[.c (.bool false)],none⟩]
def Z1hq : List Z2a := [
  ⟨some 123,.mov,[.t 11],none⟩,⟨some 124,(.bin .add),[.t 123,.c (.int .i64 1)],none⟩,⟨some 11,.mov,[.t 124],none⟩]
def Z1hr : Z2b := (.seq (.seq (.region Z1hf [0,1,2,7,10,11,122]) (.cond (.t 122) .skip (.exit 1))) (.seq (.block 2 (.seq (.region Z1hg [0,1,2,7,10,11,12]) (.seq (.seq (.region Z1hh [0,1,2,7,10,11,12,126]) (.block 3 (.seq (.region Z1hi [0,1,2,7,10,11,12,126,127]) (.cond (.t 127) (.region Z1hj [0,1,2,7,10,11,12]) (.seq (.region Z1hk [0,1,2,7,10,11,12,126,130]) (.cond (.t 130) (.region Z1hl [0,1,2,7,10,11,12]) (.seq (.region Z1hm [0,1,2,7,10,11,12,134]) (.cond (.t 134) (.region Z1hn [0,1,2,7,10,11,12]) .skip)))))))) (.seq (.region Z1ho [0,1,2,7,10,11,154]) (.cond (.t 154) (.seq (.region Z1hp [8]) .ret) .skip))))) (.region Z1hq [0,1,2,7,10,11])))
def Z1hs : List Z2a := [
  ⟨some 8,.mov,[.c (.bool true)],none⟩]
def Z1ht : Z2y := ⟨155,(.seq (.region Z1gw [0,1,2,7]) (.seq (.region Z1gx [0,1,2,7,9]) (.seq (.seq (.region Z1gy [0,1,2,7,9,21]) (.cond (.t 21) (.seq (.region Z1gz [8]) .ret) .skip)) (.seq (.region Z1h0 [0,1,2,7,9]) (.seq (.seq (.region Z1h1 [0,1,2,7,9,35]) (.cond (.t 35) (.seq (.region Z1h2 [8]) .ret) .skip)) (.seq (.region Z1h3 [0,1,2,7,9,10]) (.seq (.block 0 (.seq (.region Z1h4 [0,1,2,7,9,10,41]) (.cond (.t 41) (.region Z1h5 [0,1,2,7,9,10]) (.seq (.region Z1h6 [0,1,2,7,9,10,56]) (.cond (.t 56) (.region Z1h7 [0,1,2,7,9,10]) (.seq (.region Z1h8 [0,1,2,7,9,10,72]) (.cond (.t 72) (.region Z1h9 [0,1,2,7,9,10]) (.seq (.region Z1ha [0,1,2,7,9,10,89]) (.cond (.t 89) (.region Z1hb [0,1,2,7,9,10]) .skip))))))))) (.seq (.seq (.region Z1hc [0,1,2,7,9,10,106]) (.cond (.t 106) (.region Z1hd [0,1,2,7,10]) .skip)) (.seq (.seq (.region Z1he [0,1,2,7,10,11]) (.block 1 (.loop Z1hr))) (.seq (.region Z1hs [8]) .ret)))))))))),[.t 8]⟩
def Zgj : List Z2a := [
  ⟨some 1,(.box 6),[.t 0],none⟩,⟨some 2,.mov,[.c (.slc 0 [] true)],none⟩]
def Zgk : List Z2a := [
  ⟨some 3,(.load true 6),[.t 1],none⟩,⟨some 4,(.call Zd7),[.t 3],none⟩,⟨some 5,(.bin .neq),[.t 4,.c (.int .i64 0)],none⟩]
def Zgl : List Z2a := [
  ⟨some 2,.mov,[.c (.slc 0 [] true)],none⟩]
def Zgm : List Z2a := [
  ⟨some 6,(.load true 6),[.t 1],none⟩,⟨some 7,(.call Ze1),[.c (.slc 0 [] true),.t 6,.c (.int .i64 (-1)),.c (.int .i64 1)],none⟩,⟨some 2,.mov,[.t 7],none⟩]
def Zgn : Z2y := ⟨8,(.seq (.region Zgj [1]) (.seq (.seq (.region Zgk [1,5]) (.cond (.t 5) (.seq (.region Zgl [2]) .ret) .skip)) (.seq (.region Zgm [2]) .ret))),[.t 2]⟩
def Zgx : List Z2a := [
  ⟨some 5,(.box 6),[.t 1],none⟩,⟨some 8,.mov,[.c (.slc 0 [] true)],none⟩]
def Zgy : List Z2a := [
  ⟨some 12,.mov,[.t 0],none⟩,⟨some 13,.lens,[.t 12],none⟩,⟨some 9,.mov,[.t 13],none⟩]
def Zgz : List Z2a := [
  ⟨some 14,.mov,[.t 0],none⟩,⟨some 15,(.load true 6),[.t 5],none⟩,⟨some 16,.mov,[.t 2],none⟩,⟨some 17,.mov,[.t 3],none⟩,⟨some 18,(.bld [(.int .i64 0),(.slc 0 [] true),(.slc 0 [] true),(.int .i64 0),(.int .i64 0),(.int .i64 0),(.slc 0 [] true),(.int .i64 0),(.int .i64 0)] [(0,6),(7,1),(8,1)]),[.t 15,.t 16,.t 17],none⟩,⟨some 19,(.bsl 9),[.t 18],none⟩,⟨some 20,(.app 9 120),[.t 14,.t 19],none⟩,⟨some 0,.mov,[.t 20],none⟩]
def Zh0 : List Z2a := [
  ⟨some 10,.mov,[.c (.int .i64 0)],none⟩]
def Zh1 : List Z2a := [
  ⟨some 21,.mov,[.t 10],none⟩,⟨some 22,(.fad 2),[.t 5],none⟩,⟨some 23,(.load false 1),[.t 22],none⟩,⟨some 24,.lens,[.t 23],none⟩,⟨some 25,(.bin .lss),[.t 21,.t 24],none⟩]
def Zh2 : List Z2a := [
  ⟨some 28,.mov,[.t 0],none⟩,⟨some 29,.lens,[.t 28],none⟩,⟨some 11,.mov,[.t 29],none⟩]
def Zh3 : List Z2a := [
  ⟨some 30,.mov,[.t 0],none⟩,⟨some 31,(.fad 2),[.t 5],none⟩,⟨some 32,(.load false 1),[.t 31],none⟩,⟨some 33,.mov,[.t 10],none⟩,⟨some 34,(.iad 6),[.t 32,.t 33],none⟩,⟨some 35,(.load true 6),[.t 34],none⟩,⟨some 36,.mov,[.t 9],none⟩,⟨some 37,.mov,[.t 3],none⟩,⟨some 38,(.bin .add),[.t 37,.c (.int .i64 1)],none⟩,⟨some 39,(.call Ze1),[.t 30,.t 35,.t 36,.t 38],none⟩,⟨some 0,.mov,[.t 39],none⟩]
def Zh4 : List Z2a := [
  ⟨some 40,.mov,[.t 0],none⟩,⟨some 41,.mov,[.t 9],none⟩,⟨some 42,.mov,[.t 0],none⟩,⟨some 43,.mov,[.t 9],none⟩,⟨some 44,(.iad 9),[.t 42,.t 43],none⟩,⟨some 45,(.fad 6),[.t 44],none⟩,⟨some 46,(.load false 1),[.t 45],none⟩,⟨some 47,.mov,[.t 11],none⟩,⟨some 48,(.bsl 1),[.t 47],none⟩,⟨some 49,(.app 1 8),[.t 46,.t 48],none⟩,⟨some 50,(.iad 9),[.t 40,.t 41],none⟩,⟨some 51,(.fad 6),[.t 50],none⟩,⟨none,(.store 1),[.t 51,.t 49],none⟩]
def Zh5 : List Z2a := [
  ⟨some 26,.mov,[.t 10],none⟩,⟨some 27,(.bin .add),[.t 26,.c (.int .i64 1)],none⟩,⟨some 10,.mov,[.t 27],none⟩]
def Zh6 : Z2b := (.seq (.seq (.region Zh1 [0,3,5,9,10,25]) (.cond (.t 25) .skip (.exit 0))) (.seq (.block 1 (.seq (.region Zh2 [0,3,5,9,10,11]) (.seq (.region Zh3 [0,3,5,9,10,11]) (.region Zh4 [0,3,5,9,10])))) (.region Zh5 [0,3,5,9,10])))
def Zh7 : List Z2a := [
  ⟨some 52,.mov,[.t 0],none⟩,⟨some 8,.mov,[.t 52],none⟩]
def Zh8 : Z2y := ⟨53,(.seq (.region Zgx [0,2,3,5]) (.seq (.region Zgy [0,2,3,5,9]) (.seq (.region Zgz [0,3,5,9]) (.seq (.seq (.region Zh0 [0,3,5,9,10]) (.block 0 (.loop Zh6))) (.seq (.region Zh7 [8]) .ret))))),[.t 8]⟩
end Go.Abs
namespace Go.Abs
open Go Go.Proofs
theorem Z1hu : Z2z Try.prog [] Zcq = some Z1gv.erase := by kernel_rfl
theorem Z1hv : Z2z Try.prog [] Ze0 = some Z1ht.erase := by kernel_rfl
theorem Zl7 : Z2z Try.prog [] Zcr = some Zgn.erase := by kernel_rfl
theorem Zla : Z2z Try.prog [] Ze1 = some Zh8.erase := by kernel_rfl
end Go.Abs
namespace Go.Abs
open Go Go.Proofs
set_option linter.unusedVariables false
set_option linter.unusedSimpArgs false
set_option maxHeartbeats 4000000
attribute [local irreducible] AWp aops KP
structure Col.Fit (c : Col) : Prop where
  here : c.here.length ≤ 140737488355328
  ints : c.ints.length ≤ 140737488355328
  ns : c.ns.length ≤ 140737488355328
  texts : c.texts.length ≤ 140737488355328
  lens : c.lens.length ≤ 140737488355328
  int : ∀ i ∈ c.ints, -9223372036854775808 ≤ i ∧ i ≤ 9223372036854775807
  text : ∀ t ∈ c.texts, t.length ≤ 140737488355328
def getV (c : Col) (i : Nat) : Vl := .mk false (if i < c.texts.length then 0 else c.ints.getD i 0) (c.ns.getD i 0) (c.texts.getD i []) []
def getA (c : Col) (i : Nat) : Int := if i < c.texts.length then ((c.texts.getD i []).length : Int) else c.ints.getD i 0
def Zy1 (k : Int) (v : Vl) (add : Int) (s : Stt) : Stt := Zxq (if Zxk k = true then Zxr k s v v else s) add
def Zy2 (k : Int) (c : Col) : Nat → Nat → Stt → Stt
  | 0, _, s => s
  | m + 1, i, s => Zy2 k c m (i + 1) (Zy1 k (getV c i) (getA c i) s)
def of0 (k : Int) (c : Col) (n : Nat) : Stt := ⟨n, hasF c, false, vl0, vl0, Zxj k, 0⟩
def ofF (k : Int) (c : Col) : Stt := Zy2 k c (max c.ints.length c.texts.length) 0 (of0 k c (c.here.count true))
theorem Zbx.content {b sz : Nat} {xs ys : List Z0} {σ : Zc} (hl : ys.length = xs.length) (he : ∀ y ∈ ys, y.elem sz) (hv : VRle (flat xs) (flat ys)) : Zbx ((b, .cells sz xs) :: σ) ((b, .cells sz ys) :: σ) :=
  fun K w r => ⟨K, Kr.le.refl K, r.content hl he (hv K)⟩
theorem VRle.nilF (z z' : Nat) : VRle [.slc z [] true] [.slc z' [] false] := (VRle.nil_slc z z' true).trans VRle.full
theorem Zy4 {F : Z26} {σ : Zc} {b s i sz : Nat} {cs xs : List Z0} (hF : F i = some (.ptr b 0 0)) (hg : Zd σ b = some (.cells s (.agg cs :: xs))) (hl : cs.length = sz) : Z8l F σ [.cell i true sz] = some [.agg cs] := by
  subst hl
  simp [Z8l, Z8k, hF, Z1l, hg, Z19, Z0.cells]
end Go.Abs
namespace Go.Abs
open Go Go.Proofs
set_option linter.unusedVariables false
set_option linter.unusedSimpArgs false
set_option maxHeartbeats 4000000
attribute [local irreducible] AWp aops KP
structure Col.Sm (c : Col) : Prop where
  here : c.here.length ≤ 16384
  ints : c.ints.length ≤ c.here.length
  ns : c.ns.length ≤ c.here.length
  texts : c.texts.length ≤ c.here.length
  lens : c.lens.length ≤ c.here.length
theorem Zyn {b : Nat} {x : Zb} {m r : Zc} : HSub (m ++ ((b, x) :: r)) ((b, x) :: (m ++ r)) := HSub.of_perm (Zyb (b, x) [] m r)
theorem Zyo {b : Nat} {x : Zb} {a m r : Zc} : HSub (m ++ ((b, x) :: (a ++ r))) ((b, x) :: (a ++ (m ++ r))) := HSub.of_perm (Zyb (b, x) a m r)
theorem Zyp {b : Nat} {x : Zb} {a m r : Zc} : HSub ((b, x) :: (a ++ (m ++ r))) (m ++ ((b, x) :: (a ++ r))) := HSub.of_perm (Zyb (b, x) a m r).symm
theorem Zyq {c : Z2b} {R R' : Z87} (hR : ∀ F σ, R .normal F σ = AWp Try.prog Z1ht.n c R' F σ) (b at_ : Nat) (ws : List Z0) (w : Z0) (hw : ws[at_]? = some w) (C : Col) (β : Zc) (hG : ColG w C β) (hl : C.here.length ≤ 16384)
    (v : Vl) (L A I : Z0) (ρ : Zc)
    (h : ∀ w' β', ColG w' (Zyg (!v.null) C) β' → AWp Try.prog Z1ht.n c R' (fset 0 (some L) (fset 1 (some A) (fset 2 (some I) (fset 7 (some (.iptr (Zm6 v))) (fset 9 (some (.ptr b at_ 0)) Z27))))) ((b, .cells 5 (ws.set at_ w')) :: (β' ++ ρ))) :
    AWp Try.prog Z1ht.n (.region Z1h0 [0, 1, 2, 7, 9]) R (fset 0 (some L) (fset 1 (some A) (fset 2 (some I) (fset 7 (some (.iptr (Zm6 v))) (fset 9 (some (.ptr b at_ 0)) Z27))))) ((b, .cells 5 ws) :: (β ++ ρ)) := by
  obtain ⟨v1, v2, v3, v4, v5, β1, β2, β3, β4, β5, rfl, g1, g2, g3, g4, g5, rfl⟩ := hG
  rw [List.append_assoc]
  refine Z8a (FSub.refl _) Zyn ?_
  refine Z89 fun nd => ?_
  refine Zbm hR ?_
  (repeat (refine st_q rfl rfl rfl ?_))
  refine Z92 rfl (Zyd nd) hw rfl ?_
  (repeat (refine st_q rfl rfl rfl ?_))
  refine Zbs g1 rfl (ys := [.bool (!v.null)]) rfl (by rw [List.length_map, List.length_singleton]; omega) fun b' hb' => ?_
  have hne : b' ≠ b := fun e => hb' (by rw [e]; simp [Zh])
  (repeat (refine st_q rfl rfl rfl ?_))
  refine Z9a rfl (Z90 hne Z8z) hw (by decide) (Kfi rfl) (fun h => by cases h) (Z9c hne Z9b) ?_
  (refine Z8y ?_; (repeat (first | refine Z9v rfl ?_ | refine Z9w ?_)); refine Z9u ?_)
  refine Z8a (FSub.refl _) (HSub.swap _ _ _) ?_
  have e : C.here.map Z0.bool ++ [.bool (!v.null)] = (Zyg (!v.null) C).here.map Z0.bool := by simp [Zyg]
  rw [e]
  have := h (.agg [.arr 1 b' 0 ((Zyg (!v.null) C).here.map Z0.bool).length, v2, v3, v4, v5]) ((b', .cells 1 ((Zyg (!v.null) C).here.map Z0.bool)) :: (β2 ++ (β3 ++ (β4 ++ β5))))
    ⟨_, _, _, _, _, [(b', _)], β2, β3, β4, β5, rfl, Zbr.mk, g2, g3, g4, g5, rfl⟩
  exact this
-- APPENDS (printed by putgen.py)
theorem quo2 (n : Nat) (h : n ≤ 9223372036854775807) : IntKind.wrap .i64 ((n : Int).tdiv 2) = ((n / 2 : Nat) : Int) := by
  have e : (n : Int).tdiv 2 = ((n / 2 : Nat) : Int) := by rw [Int.tdiv_eq_ediv_of_nonneg (by omega)]; omega
  rw [e, w64 _ (by omega) (by omega)]
theorem Zyr {c : Z2b} {R R' : Z87} (hR : ∀ F σ, R .normal F σ = AWp Try.prog Z1ht.n c R' F σ) (b at_ : Nat) (ws : List Z0) (w : Z0) (hw : ws[at_]? = some w) (C : Col) (β : Zc) (hG : ColG w C β) (hl : C.texts.length ≤ 16384)
    (v : Vl) (L A I T : Z0) (ρ : Zc)
    (h : ∀ w' β', ColG w' ({ C with texts := C.texts ++ [v.b] }) β' → AWp Try.prog Z1ht.n c R' (fset 0 (some L) (fset 1 (some A) (fset 2 (some I) (fset 7 (some (.iptr (Zm6 v))) (fset 9 (some (.ptr b at_ 0)) (fset 10 (some T) Z27)))))) ((b, .cells 5 (ws.set at_ w')) :: (β' ++ ρ))) :
    AWp Try.prog Z1ht.n (.region Z1h5 [0, 1, 2, 7, 9, 10]) R (fset 0 (some L) (fset 1 (some A) (fset 2 (some I) (fset 7 (some (.iptr (Zm6 v))) (fset 9 (some (.ptr b at_ 0)) (fset 10 (some T) Z27)))))) ((b, .cells 5 ws) :: (β ++ ρ)) := by
  obtain ⟨v1, v2, v3, v4, v5, β1, β2, β3, β4, β5, rfl, g1, g2, g3, g4, g5, rfl⟩ := hG
  refine Z8a (FSub.refl _) (show HSub (β4 ++ ((b, .cells 5 ws) :: ((β1 ++ β2 ++ β3) ++ (β5 ++ (ρ))))) ((b, .cells 5 ws) :: ((β1 ++ (β2 ++ (β3 ++ (β4 ++ β5)))) ++ ρ)) from by
    have := @Zyo b (.cells 5 ws) (β1 ++ β2 ++ β3) β4 (β5 ++ (ρ))
    simpa [List.append_assoc] using this) ?_
  refine Z89 fun nd => ?_
  refine Zbm hR ?_
  (repeat (refine st_q rfl rfl rfl ?_))
  refine Z92 rfl (Zyd nd) hw rfl ?_
  (repeat (refine st_q rfl rfl rfl ?_))
  refine Zbs g4 rfl (ys := [.slc 1 (bytes v.b) false]) rfl (by rw [List.length_singleton]; simp only [Zy8, List.length_map]; omega) fun b' hb' => ?_
  have hne : b' ≠ b := fun e => hb' (by rw [e]; simp [Zh])
  (repeat (refine st_q rfl rfl rfl ?_))
  refine Z9a rfl (Z90 hne Z8z) hw (by decide) (Kfi rfl) (fun h => by cases h) (Z9c hne Z9b) ?_
  (refine Z8y ?_; (repeat (first | refine Z9v rfl ?_ | refine Z9w ?_)); refine Z9u ?_)
  have e : Zy8 (C.texts) ++ [.slc 1 (bytes v.b) false] = Zy8 ({ C with texts := C.texts ++ [v.b] }.texts) := by simp [Zy8]
  rw [e]
  refine Z8a (FSub.refl _) (show HSub ((b, .cells 5 (ws.set at_ (.agg [v1, v2, v3, (.arr 1 b' 0 (Zy8 ({ C with texts := C.texts ++ [v.b] }.texts)).length), v5]))) :: ((β1 ++ (β2 ++ (β3 ++ ([(b', .cells 1 (Zy8 ({ C with texts := C.texts ++ [v.b] }.texts)))] ++ β5)))) ++ ρ)) ((b', .cells 1 (Zy8 ({ C with texts := C.texts ++ [v.b] }.texts))) :: (b, .cells 5 (ws.set at_ (.agg [v1, v2, v3, (.arr 1 b' 0 (Zy8 ({ C with texts := C.texts ++ [v.b] }.texts)).length), v5]))) :: ((β1 ++ β2 ++ β3) ++ (β5 ++ (ρ)))) from by
    have := @Zyp b (.cells 5 (ws.set at_ (.agg [v1, v2, v3, (.arr 1 b' 0 (Zy8 ({ C with texts := C.texts ++ [v.b] }.texts)).length), v5]))) (β1 ++ β2 ++ β3) [(b', .cells 1 (Zy8 ({ C with texts := C.texts ++ [v.b] }.texts)))] (β5 ++ (ρ))
    simpa [List.append_assoc] using this) ?_
  exact h _ _ ⟨_, _, _, _, _, β1, β2, β3, [(b', .cells 1 (Zy8 ({ C with texts := C.texts ++ [v.b] }.texts)))], β5, rfl, g1, g2, g3, Zbr.mk, g5, rfl⟩
theorem Zys {c : Z2b} {R R' : Z87} (hR : ∀ F σ, R .normal F σ = AWp Try.prog Z1ht.n c R' F σ) (b at_ : Nat) (ws : List Z0) (w : Z0) (hw : ws[at_]? = some w) (C : Col) (β : Zc) (hG : ColG w C β) (hl : C.lens.length ≤ 16384)
    (v : Vl) (L A I T : Z0) (ρ : Zc)
    (h : ∀ w' β', ColG w' ({ C with lens := C.lens ++ [(v.kids.length : Int)] }) β' → AWp Try.prog Z1ht.n c R' (fset 0 (some L) (fset 1 (some A) (fset 2 (some I) (fset 7 (some (.iptr (Zm6 v))) (fset 9 (some (.ptr b at_ 0)) (fset 10 (some T) Z27)))))) ((b, .cells 5 (ws.set at_ w')) :: (β' ++ ρ))) :
    AWp Try.prog Z1ht.n (.region Z1h7 [0, 1, 2, 7, 9, 10]) R (fset 0 (some L) (fset 1 (some A) (fset 2 (some I) (fset 7 (some (.iptr (Zm6 v))) (fset 9 (some (.ptr b at_ 0)) (fset 10 (some T) Z27)))))) ((b, .cells 5 ws) :: (β ++ ρ)) := by
  obtain ⟨v1, v2, v3, v4, v5, β1, β2, β3, β4, β5, rfl, g1, g2, g3, g4, g5, rfl⟩ := hG
  refine Z8a (FSub.refl _) (show HSub (β5 ++ ((b, .cells 5 ws) :: ((β1 ++ β2 ++ β3 ++ β4) ++ (ρ)))) ((b, .cells 5 ws) :: ((β1 ++ (β2 ++ (β3 ++ (β4 ++ β5)))) ++ ρ)) from by
    have := @Zyo b (.cells 5 ws) (β1 ++ β2 ++ β3 ++ β4) β5 (ρ)
    simpa [List.append_assoc] using this) ?_
  refine Z89 fun nd => ?_
  refine Zbm hR ?_
  (repeat (refine st_q rfl rfl rfl ?_))
  refine Z92 rfl (Zyd nd) hw rfl ?_
  (repeat (refine st_q rfl rfl rfl ?_))
  refine Zbs g5 rfl (ys := [.int .i64 ((Zm5 v.kids).length : Int)]) rfl (by rw [List.length_singleton]; simp only [Zy8, List.length_map]; omega) fun b' hb' => ?_
  have hne : b' ≠ b := fun e => hb' (by rw [e]; simp [Zh])
  (repeat (refine st_q rfl rfl rfl ?_))
  refine Z9a rfl (Z90 hne Z8z) hw (by decide) (Kfi rfl) (fun h => by cases h) (Z9c hne Z9b) ?_
  (refine Z8y ?_; (repeat (first | refine Z9v rfl ?_ | refine Z9w ?_)); refine Z9u ?_)
  have e : List.map (Z0.int .i64) (C.lens) ++ [.int .i64 ((Zm5 v.kids).length : Int)] = List.map (Z0.int .i64) ({ C with lens := C.lens ++ [(v.kids.length : Int)] }.lens) := by simp [Zm9]
  rw [e]
  refine Z8a (FSub.refl _) (show HSub ((b, .cells 5 (ws.set at_ (.agg [v1, v2, v3, v4, (.arr 1 b' 0 (List.map (Z0.int .i64) ({ C with lens := C.lens ++ [(v.kids.length : Int)] }.lens)).length)]))) :: ((β1 ++ (β2 ++ (β3 ++ (β4 ++ [(b', .cells 1 (List.map (Z0.int .i64) ({ C with lens := C.lens ++ [(v.kids.length : Int)] }.lens)))])))) ++ ρ)) ((b', .cells 1 (List.map (Z0.int .i64) ({ C with lens := C.lens ++ [(v.kids.length : Int)] }.lens))) :: (b, .cells 5 (ws.set at_ (.agg [v1, v2, v3, v4, (.arr 1 b' 0 (List.map (Z0.int .i64) ({ C with lens := C.lens ++ [(v.kids.length : Int)] }.lens)).length)]))) :: ((β1 ++ β2 ++ β3 ++ β4) ++ (ρ))) from by
    have := @Zyp b (.cells 5 (ws.set at_ (.agg [v1, v2, v3, v4, (.arr 1 b' 0 (List.map (Z0.int .i64) ({ C with lens := C.lens ++ [(v.kids.length : Int)] }.lens)).length)]))) (β1 ++ β2 ++ β3 ++ β4) [(b', .cells 1 (List.map (Z0.int .i64) ({ C with lens := C.lens ++ [(v.kids.length : Int)] }.lens)))] (ρ)
    simpa [List.append_assoc] using this) ?_
  exact h _ _ ⟨_, _, _, _, _, β1, β2, β3, β4, [(b', .cells 1 (List.map (Z0.int .i64) ({ C with lens := C.lens ++ [(v.kids.length : Int)] }.lens)))], rfl, g1, g2, g3, g4, Zbr.mk, rfl⟩
theorem Zyt {c : Z2b} {R R' : Z87} (hR : ∀ F σ, R .normal F σ = AWp Try.prog Z1ht.n c R' F σ) (b at_ : Nat) (ws : List Z0) (w : Z0) (hw : ws[at_]? = some w) (C : Col) (β : Zc) (hG : ColG w C β) (hl : C.lens.length ≤ 16384)
    (v : Vl) (hk : v.kids.length ≤ 9223372036854775807) (L A I T : Z0) (ρ : Zc)
    (h : ∀ w' β', ColG w' ({ C with lens := C.lens ++ [((v.kids.length / 2 : Nat) : Int)] }) β' → AWp Try.prog Z1ht.n c R' (fset 0 (some L) (fset 1 (some A) (fset 2 (some I) (fset 7 (some (.iptr (Zm6 v))) (fset 9 (some (.ptr b at_ 0)) (fset 10 (some T) Z27)))))) ((b, .cells 5 (ws.set at_ w')) :: (β' ++ ρ))) :
    AWp Try.prog Z1ht.n (.region Z1h9 [0, 1, 2, 7, 9, 10]) R (fset 0 (some L) (fset 1 (some A) (fset 2 (some I) (fset 7 (some (.iptr (Zm6 v))) (fset 9 (some (.ptr b at_ 0)) (fset 10 (some T) Z27)))))) ((b, .cells 5 ws) :: (β ++ ρ)) := by
  obtain ⟨v1, v2, v3, v4, v5, β1, β2, β3, β4, β5, rfl, g1, g2, g3, g4, g5, rfl⟩ := hG
  refine Z8a (FSub.refl _) (show HSub (β5 ++ ((b, .cells 5 ws) :: ((β1 ++ β2 ++ β3 ++ β4) ++ (ρ)))) ((b, .cells 5 ws) :: ((β1 ++ (β2 ++ (β3 ++ (β4 ++ β5)))) ++ ρ)) from by
    have := @Zyo b (.cells 5 ws) (β1 ++ β2 ++ β3 ++ β4) β5 (ρ)
    simpa [List.append_assoc] using this) ?_
  refine Z89 fun nd => ?_
  refine Zbm hR ?_
  (repeat (refine st_q rfl rfl rfl ?_))
  refine Z92 rfl (Zyd nd) hw rfl ?_
  (repeat (refine st_q rfl rfl rfl ?_))
  refine Zbs g5 rfl (ys := [.int .i64 (IntKind.wrap .i64 (((Zm5 v.kids).length : Int).tdiv 2))]) rfl (by rw [List.length_singleton]; simp only [Zy8, List.length_map]; omega) fun b' hb' => ?_
  have hne : b' ≠ b := fun e => hb' (by rw [e]; simp [Zh])
  (repeat (refine st_q rfl rfl rfl ?_))
  refine Z9a rfl (Z90 hne Z8z) hw (by decide) (Kfi rfl) (fun h => by cases h) (Z9c hne Z9b) ?_
  (refine Z8y ?_; (repeat (first | refine Z9v rfl ?_ | refine Z9w ?_)); refine Z9u ?_)
  have e : List.map (Z0.int .i64) (C.lens) ++ [.int .i64 (IntKind.wrap .i64 (((Zm5 v.kids).length : Int).tdiv 2))] = List.map (Z0.int .i64) ({ C with lens := C.lens ++ [((v.kids.length / 2 : Nat) : Int)] }.lens) := by rw [Zm9, quo2 _ hk]; simp
  rw [e]
  refine Z8a (FSub.refl _) (show HSub ((b, .cells 5 (ws.set at_ (.agg [v1, v2, v3, v4, (.arr 1 b' 0 (List.map (Z0.int .i64) ({ C with lens := C.lens ++ [((v.kids.length / 2 : Nat) : Int)] }.lens)).length)]))) :: ((β1 ++ (β2 ++ (β3 ++ (β4 ++ [(b', .cells 1 (List.map (Z0.int .i64) ({ C with lens := C.lens ++ [((v.kids.length / 2 : Nat) : Int)] }.lens)))])))) ++ ρ)) ((b', .cells 1 (List.map (Z0.int .i64) ({ C with lens := C.lens ++ [((v.kids.length / 2 : Nat) : Int)] }.lens))) :: (b, .cells 5 (ws.set at_ (.agg [v1, v2, v3, v4, (.arr 1 b' 0 (List.map (Z0.int .i64) ({ C with lens := C.lens ++ [((v.kids.length / 2 : Nat) : Int)] }.lens)).length)]))) :: ((β1 ++ β2 ++ β3 ++ β4) ++ (ρ))) from by
    have := @Zyp b (.cells 5 (ws.set at_ (.agg [v1, v2, v3, v4, (.arr 1 b' 0 (List.map (Z0.int .i64) ({ C with lens := C.lens ++ [((v.kids.length / 2 : Nat) : Int)] }.lens)).length)]))) (β1 ++ β2 ++ β3 ++ β4) [(b', .cells 1 (List.map (Z0.int .i64) ({ C with lens := C.lens ++ [((v.kids.length / 2 : Nat) : Int)] }.lens)))] (ρ)
    simpa [List.append_assoc] using this) ?_
  exact h _ _ ⟨_, _, _, _, _, β1, β2, β3, β4, [(b', .cells 1 (List.map (Z0.int .i64) ({ C with lens := C.lens ++ [((v.kids.length / 2 : Nat) : Int)] }.lens)))], rfl, g1, g2, g3, g4, Zbr.mk, rfl⟩
theorem Zyu {c : Z2b} {R R' : Z87} (hR : ∀ F σ, R .normal F σ = AWp Try.prog Z1ht.n c R' F σ) (b at_ : Nat) (ws : List Z0) (w : Z0) (hw : ws[at_]? = some w) (C : Col) (β : Zc) (hG : ColG w C β) (hl : C.ints.length ≤ 16384)
    (v : Vl) (L A I T : Z0) (ρ : Zc)
    (h : ∀ w' β', ColG w' ({ C with ints := C.ints ++ [v.i] }) β' → AWp Try.prog Z1ht.n c R' (fset 0 (some L) (fset 1 (some A) (fset 2 (some I) (fset 7 (some (.iptr (Zm6 v))) (fset 9 (some (.ptr b at_ 0)) (fset 10 (some T) Z27)))))) ((b, .cells 5 (ws.set at_ w')) :: (β' ++ ρ))) :
    AWp Try.prog Z1ht.n (.region Z1hb [0, 1, 2, 7, 9, 10]) R (fset 0 (some L) (fset 1 (some A) (fset 2 (some I) (fset 7 (some (.iptr (Zm6 v))) (fset 9 (some (.ptr b at_ 0)) (fset 10 (some T) Z27)))))) ((b, .cells 5 ws) :: (β ++ ρ)) := by
  obtain ⟨v1, v2, v3, v4, v5, β1, β2, β3, β4, β5, rfl, g1, g2, g3, g4, g5, rfl⟩ := hG
  refine Z8a (FSub.refl _) (show HSub (β2 ++ ((b, .cells 5 ws) :: ((β1) ++ (β3 ++ (β4 ++ (β5 ++ (ρ))))))) ((b, .cells 5 ws) :: ((β1 ++ (β2 ++ (β3 ++ (β4 ++ β5)))) ++ ρ)) from by
    have := @Zyo b (.cells 5 ws) (β1) β2 (β3 ++ (β4 ++ (β5 ++ (ρ))))
    simpa [List.append_assoc] using this) ?_
  refine Z89 fun nd => ?_
  refine Zbm hR ?_
  (repeat (refine st_q rfl rfl rfl ?_))
  refine Z92 rfl (Zyd nd) hw rfl ?_
  (repeat (refine st_q rfl rfl rfl ?_))
  refine Zbs g2 rfl (ys := [.int .i64 v.i]) rfl (by rw [List.length_singleton]; simp only [Zy8, List.length_map]; omega) fun b' hb' => ?_
  have hne : b' ≠ b := fun e => hb' (by rw [e]; simp [Zh])
  (repeat (refine st_q rfl rfl rfl ?_))
  refine Z9a rfl (Z90 hne Z8z) hw (by decide) (Kfi rfl) (fun h => by cases h) (Z9c hne Z9b) ?_
  (refine Z8y ?_; (repeat (first | refine Z9v rfl ?_ | refine Z9w ?_)); refine Z9u ?_)
  have e : List.map (Z0.int .i64) (C.ints) ++ [.int .i64 v.i] = List.map (Z0.int .i64) ({ C with ints := C.ints ++ [v.i] }.ints) := by simp
  rw [e]
  refine Z8a (FSub.refl _) (show HSub ((b, .cells 5 (ws.set at_ (.agg [v1, (.arr 1 b' 0 (List.map (Z0.int .i64) ({ C with ints := C.ints ++ [v.i] }.ints)).length), v3, v4, v5]))) :: ((β1 ++ ([(b', .cells 1 (List.map (Z0.int .i64) ({ C with ints := C.ints ++ [v.i] }.ints)))] ++ (β3 ++ (β4 ++ β5)))) ++ ρ)) ((b', .cells 1 (List.map (Z0.int .i64) ({ C with ints := C.ints ++ [v.i] }.ints))) :: (b, .cells 5 (ws.set at_ (.agg [v1, (.arr 1 b' 0 (List.map (Z0.int .i64) ({ C with ints := C.ints ++ [v.i] }.ints)).length), v3, v4, v5]))) :: ((β1) ++ (β3 ++ (β4 ++ (β5 ++ (ρ)))))) from by
    have := @Zyp b (.cells 5 (ws.set at_ (.agg [v1, (.arr 1 b' 0 (List.map (Z0.int .i64) ({ C with ints := C.ints ++ [v.i] }.ints)).length), v3, v4, v5]))) (β1) [(b', .cells 1 (List.map (Z0.int .i64) ({ C with ints := C.ints ++ [v.i] }.ints)))] (β3 ++ (β4 ++ (β5 ++ (ρ))))
    simpa [List.append_assoc] using this) ?_
  exact h _ _ ⟨_, _, _, _, _, β1, [(b', .cells 1 (List.map (Z0.int .i64) ({ C with ints := C.ints ++ [v.i] }.ints)))], β3, β4, β5, rfl, g1, Zbr.mk, g3, g4, g5, rfl⟩
theorem Zyv {c : Z2b} {R R' : Z87} (hR : ∀ F σ, R .normal F σ = AWp Try.prog Z1ht.n c R' F σ) (b at_ : Nat) (ws : List Z0) (w : Z0) (hw : ws[at_]? = some w) (C : Col) (β : Zc) (hG : ColG w C β) (hl : C.ns.length ≤ 16384)
    (v : Vl) (L A I T : Z0) (ρ : Zc)
    (h : ∀ w' β', ColG w' ({ C with ns := C.ns ++ [v.n] }) β' → AWp Try.prog Z1ht.n c R' (fset 0 (some L) (fset 1 (some A) (fset 2 (some I) (fset 7 (some (.iptr (Zm6 v))) (fset 10 (some T) Z27))))) ((b, .cells 5 (ws.set at_ w')) :: (β' ++ ρ))) :
    AWp Try.prog Z1ht.n (.region Z1hd [0, 1, 2, 7, 10]) R (fset 0 (some L) (fset 1 (some A) (fset 2 (some I) (fset 7 (some (.iptr (Zm6 v))) (fset 9 (some (.ptr b at_ 0)) (fset 10 (some T) Z27)))))) ((b, .cells 5 ws) :: (β ++ ρ)) := by
  obtain ⟨v1, v2, v3, v4, v5, β1, β2, β3, β4, β5, rfl, g1, g2, g3, g4, g5, rfl⟩ := hG
  refine Z8a (FSub.refl _) (show HSub (β3 ++ ((b, .cells 5 ws) :: ((β1 ++ β2) ++ (β4 ++ (β5 ++ (ρ)))))) ((b, .cells 5 ws) :: ((β1 ++ (β2 ++ (β3 ++ (β4 ++ β5)))) ++ ρ)) from by
    have := @Zyo b (.cells 5 ws) (β1 ++ β2) β3 (β4 ++ (β5 ++ (ρ)))
    simpa [List.append_assoc] using this) ?_
  refine Z89 fun nd => ?_
  refine Zbm hR ?_
  (repeat (refine st_q rfl rfl rfl ?_))
  refine Z92 rfl (Zyd nd) hw rfl ?_
  (repeat (refine st_q rfl rfl rfl ?_))
  refine Zbs g3 rfl (ys := [.int .i64 v.n]) rfl (by rw [List.length_singleton]; simp only [Zy8, List.length_map]; omega) fun b' hb' => ?_
  have hne : b' ≠ b := fun e => hb' (by rw [e]; simp [Zh])
  (repeat (refine st_q rfl rfl rfl ?_))
  refine Z9a rfl (Z90 hne Z8z) hw (by decide) (Kfi rfl) (fun h => by cases h) (Z9c hne Z9b) ?_
  (refine Z8y ?_; (repeat (first | refine Z9v rfl ?_ | refine Z9w ?_)); refine Z9u ?_)
  have e : List.map (Z0.int .i64) (C.ns) ++ [.int .i64 v.n] = List.map (Z0.int .i64) ({ C with ns := C.ns ++ [v.n] }.ns) := by simp
  rw [e]
  refine Z8a (FSub.refl _) (show HSub ((b, .cells 5 (ws.set at_ (.agg [v1, v2, (.arr 1 b' 0 (List.map (Z0.int .i64) ({ C with ns := C.ns ++ [v.n] }.ns)).length), v4, v5]))) :: ((β1 ++ (β2 ++ ([(b', .cells 1 (List.map (Z0.int .i64) ({ C with ns := C.ns ++ [v.n] }.ns)))] ++ (β4 ++ β5)))) ++ ρ)) ((b', .cells 1 (List.map (Z0.int .i64) ({ C with ns := C.ns ++ [v.n] }.ns))) :: (b, .cells 5 (ws.set at_ (.agg [v1, v2, (.arr 1 b' 0 (List.map (Z0.int .i64) ({ C with ns := C.ns ++ [v.n] }.ns)).length), v4, v5]))) :: ((β1 ++ β2) ++ (β4 ++ (β5 ++ (ρ))))) from by
    have := @Zyp b (.cells 5 (ws.set at_ (.agg [v1, v2, (.arr 1 b' 0 (List.map (Z0.int .i64) ({ C with ns := C.ns ++ [v.n] }.ns)).length), v4, v5]))) (β1 ++ β2) [(b', .cells 1 (List.map (Z0.int .i64) ({ C with ns := C.ns ++ [v.n] }.ns)))] (β4 ++ (β5 ++ (ρ)))
    simpa [List.append_assoc] using this) ?_
  exact h _ _ ⟨_, _, _, _, _, β1, β2, [(b', .cells 1 (List.map (Z0.int .i64) ({ C with ns := C.ns ++ [v.n] }.ns)))], β4, β5, rfl, g1, g2, Zbr.mk, g4, g5, rfl⟩
end Go.Abs
namespace Go.Abs
open Go Go.Proofs
set_option linter.unusedVariables false
set_option linter.unusedSimpArgs false
set_option maxHeartbeats 4000000
attribute [local irreducible] AWp aops KP
theorem Z1i0 {c : Col} (b : Bool) (h : c.Sm) (hl : c.here.length < 16384) : (Zyg b c).Sm := by
  obtain ⟨h1, h2, h3, h4, h5⟩ := h
  constructor <;> simp only [Zyg, List.length_append, List.length_singleton] <;> omega
theorem Z1i1 {c : Col} (k : Int) (v : Vl) (h : c.Sm) (hl : c.here.length < 16384) : (addC k v c).Sm := by
  obtain ⟨h1, h2, h3, h4, h5⟩ := h
  unfold addC Zyf Zye Zyg
  (repeat' split) <;> constructor <;> simp only [List.length_append, List.length_singleton] <;> omega
theorem Z1i2 {cs : List Col} {i : Nat} {c : Col} (h : ∀ c ∈ cs, c.Sm) (hc : c.Sm) : ∀ x ∈ cs.set i c, x.Sm := fun x hx => by
  rcases List.mem_or_eq_of_mem_set hx with h' | h'
  · exact h x h'
  · rw [h']; exact hc
theorem Z1i3 (l : List Nd) : ∀ (v : Vl) (at_ : Nat) (cs : List Col), (putF l at_ v cs).1.length = cs.length := by
  refine Vl.ind fun nu i n bs vks ih at_ cs => ?_
  have hL : ∀ (vks : List Vl), (∀ v ∈ vks, ∀ (at_ : Nat) (cs : List Col), (putF l at_ v cs).1.length = cs.length) → ∀ (j : Nat) (cs : List Col), (putL l at_ i j vks cs).1.length = cs.length := by
    intro vks
    induction vks with
    | nil => intro _ j cs; rfl
    | cons v vs ih2 =>
      intro hv j cs
      rw [putL]
      split
      · rw [ih2 (fun v h => hv v (List.mem_cons_of_mem _ h)), hv v (by simp)]
      · exact hv v (by simp) _ _
  rw [putF]
  split
  · rfl
  · split
    · rw [List.length_set]
    · rw [hL vks (fun v h at_ cs => ih v h at_ cs), List.length_set]
theorem Z1i4 (l : List Nd) : ∀ (v : Vl) (at_ : Nat) (cs : List Col), (∀ c ∈ cs, c.Sm) → ∀ c ∈ (putF l at_ v cs).1, c.Sm := by
  refine Vl.ind fun nu i n bs vks ih at_ cs h => ?_
  have hL : ∀ (vks : List Vl), (∀ v ∈ vks, ∀ (at_ : Nat) (cs : List Col), (∀ c ∈ cs, c.Sm) → ∀ c ∈ (putF l at_ v cs).1, c.Sm) → ∀ (j : Nat) (cs : List Col), (∀ c ∈ cs, c.Sm) → ∀ c ∈ (putL l at_ i j vks cs).1, c.Sm := by
    intro vks
    induction vks with
    | nil => intro _ j cs h; exact h
    | cons v vs ih2 =>
      intro hv j cs h
      rw [putL]
      split
      · exact ih2 (fun v h => hv v (List.mem_cons_of_mem _ h)) _ _ (hv v (by simp) _ _ h)
      · exact hv v (by simp) _ _ h
  have hD : (cs.getD at_ col0).Sm := by
    rw [List.getD_eq_getElem?_getD]
    cases e : cs[at_]? with
    | none => exact ⟨by simp [col0], by simp [col0], by simp [col0], by simp [col0], by simp [col0]⟩
    | some c => exact h c (List.mem_of_getElem? e)
  rw [putF]
  split
  · exact h
  · rename_i hlt
    split
    · exact Z1i2 h (Z1i0 _ hD (by omega))
    · exact hL vks (fun v hv => ih v hv) _ _ (Z1i2 h (Z1i1 _ _ hD (by omega)))
theorem Zy9.ex : ∀ cs : List Col, ∃ ws β, Zy9 ws cs β
  | [] => ⟨[], [], rfl⟩
  | c :: cs => by
    obtain ⟨ws, γ, h⟩ := Zy9.ex cs
    obtain ⟨v1, β1, h1⟩ := Zbr.ex 1 (c.here.map .bool)
    obtain ⟨v2, β2, h2⟩ := Zbr.ex 1 (c.ints.map (.int .i64))
    obtain ⟨v3, β3, h3⟩ := Zbr.ex 1 (c.ns.map (.int .i64))
    obtain ⟨v4, β4, h4⟩ := Zbr.ex 1 (Zy8 c.texts)
    obtain ⟨v5, β5, h5⟩ := Zbr.ex 1 (c.lens.map (.int .i64))
    exact ⟨_ :: ws, _, _, γ, ⟨v1, v2, v3, v4, v5, β1, β2, β3, β4, β5, rfl, h1, h2, h3, h4, h5, rfl⟩, h, rfl⟩
theorem c_put (l : List Nd) : ∀ (v : Vl), v.Fit → ∀ (t : Ty) (at_ : Nat), At l at_ t → t.Ok → vchk t v = 0 → ∀ (ws : List Z0) (cs : List Col) (β : Zc) (b : Nat) (σ : Zc), Zy9 ws cs β → cs.length = l.length → cs.length ≤ 1000 → (∀ c ∈ cs, c.Sm) →
    Z1q Try.prog Ze0 [.slc 9 (l.map encR) false, .arr 5 b 0 cs.length, .int .i64 (at_ : Int), encV v] ((b, .cells 5 ws) :: (β ++ σ)) fun r σ' => ∃ ws' β', Zy9 ws' (putF l at_ v cs).1 β' ∧ r = .bool (putF l at_ v cs).2 ∧ σ' = (b, .cells 5 ws') :: (β' ++ σ) := by
  refine Vl.ind fun nu i n bs vks ih hfit t at_ hAt hok hchk ws cs β b σ hG hlen h1000 hSm => ?_
  cases hfit with
  | mk hi hbl hkl hkids =>
  have hatl := hAt.lt
  cases hAt with
  | @mk _ _ nd hnd ht hkn hkds =>
  have hat : at_ < cs.length := by omega
  have hwl : at_ < ws.length := by rw [hG.len]; exact hat
  obtain ⟨w, hw⟩ : ∃ w, ws[at_]? = some w := ⟨_, List.getElem?_eq_getElem hwl⟩
  obtain ⟨c, hc⟩ : ∃ c, cs[at_]? = some c := ⟨_, List.getElem?_eq_getElem hat⟩
  have hcSm := hSm c (List.mem_of_getElem? hc)
  have hcD : cs.getD at_ col0 = c := by rw [List.getD_eq_getElem?_getD, hc, Option.getD_some]
  obtain ⟨β1, γ, hC, hperm, hback⟩ := hG.pick at_ w c hw hc
  rw [Zm7]
  generalize hX : putF l at_ (.mk nu i n bs vks) cs = X
  rw [putF, hcD] at hX
  refine Z8t rfl Z1hv (Nat.le_of_ble_eq_true rfl) ?_
  refine Z9z ?_
  refine Z9j rfl (Kfi rfl) fun b7 hb7 => ?_
  (repeat (refine st_q rfl rfl rfl ?_))
  (refine Z8y ?_; (repeat (first | refine Z9v rfl ?_ | refine Z9w ?_)); refine Z9u ?_)
  refine Zb3 (d := 7) (cs := Zm6 (.mk nu i n bs vks)) rfl ?_
  refine Z9z ?_
  (repeat (refine st_q rfl rfl rfl ?_))
  refine Z94 rfl ⟨by omega, by omega⟩ ?_
  rw [show 0 + ((at_ : Nat) : Int).toNat = at_ from by simp]
  (repeat (refine st_q rfl rfl rfl ?_))
  (refine Z8y ?_; (repeat (first | refine Z9v rfl ?_ | refine Z9w ?_)); refine Z9u ?_)
  have hp1 : HSub ((b, .cells 5 ws) :: (β1 ++ (γ ++ σ))) ((b, .cells 5 ws) :: (β ++ σ)) := HSub.of_perm (List.Perm.cons _ (by rw [← List.append_assoc]; exact (hperm.symm).append_right σ))
  have hp2 : HSub ((b, .cells 5 ws) :: (β ++ σ)) ((b, .cells 5 ws) :: (β1 ++ (γ ++ σ))) := HSub.of_perm (List.Perm.cons _ (by rw [← List.append_assoc]; exact hperm.append_right σ))
  refine Z8a (FSub.refl _) hp1 ?_
  have hC' := hC
  obtain ⟨v1, v2, v3, v4, v5, α1, α2, α3, α4, α5, rfl, g1, g2, g3, g4, g5, rfl⟩ := hC'
  refine awp_seq ?_
  refine awp_seq ?_
  refine Zbm (fun _ _ => rfl) ?_
  (repeat (refine st_q rfl rfl rfl ?_))
  refine Z92 rfl Z8z hw rfl ?_
  refine st_q rfl g1.lens rfl ?_
  (repeat (refine st_q rfl rfl rfl ?_))
  (refine Z8y ?_; (repeat (first | refine Z9v rfl ?_ | refine Z9w ?_)); refine Z9u ?_)
  rw [List.length_map]
  refine Za3 (p := (c.here.length : Int) ≥ 16384) rfl (fun h3 => ?_) (fun h3 => ?_)
  · rw [if_pos (by omega)] at hX
    subst hX
    (repeat (first | refine st_q rfl rfl rfl ?_ | (refine Z8y ?_; (repeat (first | refine Z9v rfl ?_ | refine Z9w ?_)); refine Z9u ?_) | refine awp_seq ?_ | refine Zbm (fun _ _ => rfl) ?_))
    refine Z8d ?_
    exact ares rfl hp2 ⟨ws, β, hG, rfl, rfl⟩
  rw [if_neg (by omega)] at hX
  refine Zbn (fun _ _ => rfl) ?_
  refine awp_seq ?_
  (refine Z9y (keep := [0, 1, 2, 7, 9]) ?_; ((repeat (first | refine Z9v rfl ?_ | refine Z9w ?_)); refine Z9u ?_))
  refine Zyq (fun _ _ => rfl) b at_ ws _ hw c _ hC (by omega) (.mk nu i n bs vks) _ _ _ (γ ++ σ) fun w1 β2 hC1 => ?_
  refine awp_seq ?_
  refine awp_seq ?_
  refine Zbm (fun _ _ => rfl) ?_
  (repeat (refine st_q rfl rfl rfl ?_))
  (refine Z8y ?_; (repeat (first | refine Z9v rfl ?_ | refine Z9w ?_)); refine Z9u ?_)
  have hp3 : ∀ {x : Zb} {δ β' : Zc}, δ.Perm (β' ++ γ) → HSub ((b, x) :: (δ ++ σ)) ((b, x) :: (β' ++ (γ ++ σ))) := fun k => HSub.of_perm (List.Perm.cons _ (by rw [← List.append_assoc]; exact k.append_right σ))
  cases nu with
  | true =>
    rw [if_pos rfl] at hX
    subst hX
    (repeat (first | refine st_q rfl rfl rfl ?_ | (refine Z8y ?_; (repeat (first | refine Z9v rfl ?_ | refine Z9w ?_)); refine Z9u ?_) | refine awp_seq ?_ | refine Zbm (fun _ _ => rfl) ?_ | refine Kc1 rfl ?_))
    refine Z8d ?_
    obtain ⟨δ, k1, k2⟩ := hback w1 _ β2 hC1
    exact ares rfl (hp3 k2) ⟨_, δ, k1, rfl, rfl⟩
  | false =>
    rw [if_neg (by simp)] at hX
    have hown : ownV t i n bs vks.length = 0 ∧ Zmg t i 0 vks = 0 := by
      rw [vchk, if_neg (by simp)] at hchk
      split at hchk
      · omega
      · exact ⟨by omega, hchk⟩
    have hnd' : (l.map encR)[((at_ : Nat) : Int).toNat]? = some (encR nd) := by rw [Int.toNat_natCast, List.getElem?_map, hnd]; rfl
    have hkind : Zyh l at_ = t.kind := by rw [Zyh, hnd]; exact congrArg Ty.kind ht
    rw [hkind] at hX
    (repeat (first | refine st_q rfl rfl rfl ?_ | refine awp_seq ?_ | refine Zbm (fun _ _ => rfl) ?_ | refine Zbn (fun _ _ => rfl) ?_ | refine Kc2 rfl ?_))
    refine Z93 rfl (by omega) hnd' ?_
    (repeat (refine st_q rfl rfl rfl ?_))
    refine Z9k (by simp [Z0.cells, Z0.one]) fun b10 hb10 => ?_
    refine Z9a rfl Z8z rfl (by decide) (Kfi rfl) (fun h => by cases h) Z9b ?_
    (refine Z8y ?_; (repeat (first | refine Z9v rfl ?_ | refine Z9w ?_)); refine Z9u ?_)
    refine Zb3 (d := 10) (cs := Zlo nd.t) rfl ?_
    rw [ht]
    (refine Z9y (keep := [0, 1, 2, 7, 9, 10]) ?_; ((repeat (first | refine Z9v rfl ?_ | refine Z9w ?_)); refine Z9u ?_))
    have hw1 : ∀ w', (ws.set at_ w')[at_]? = some w' := fun w' => by rw [List.getElem?_set_self hwl]
    have rest : ∀ w2 β3, ColG w2 (Zye t.kind (.mk false i n bs vks) (Zyg true c)) β3 → AWp Try.prog Z1ht.n (Z1ht.code.snd 7) (ARet Z1ht.res fun r σ' => ∃ ws' β', Zy9 ws' X.fst β' ∧ r = Z0.bool X.snd ∧ σ' = (b, Zb.cells 5 ws') :: (β' ++ σ))
        (fset 0 (some (.slc 9 (l.map encR) false)) (fset 1 (some (.arr 5 b 0 cs.length)) (fset 2 (some (.int .i64 (at_ : Int))) (fset 7 (some (.iptr (Zm6 (.mk false i n bs vks)))) (fset 9 (some (.ptr b at_ 0)) (fset 10 (some (.iptr (Zlo t))) Z27)))))) ((b, .cells 5 (ws.set at_ w2)) :: (β3 ++ (γ ++ σ))) := by
      intro w2 β3 hC2
      have fin : ∀ w3 β4, ColG w3 (addC t.kind (.mk false i n bs vks) c) β4 → AWp Try.prog Z1ht.n (Z1ht.code.snd 8) (ARet Z1ht.res fun r σ' => ∃ ws' β', Zy9 ws' X.fst β' ∧ r = Z0.bool X.snd ∧ σ' = (b, Zb.cells 5 ws') :: (β' ++ σ))
          (fset 0 (some (.slc 9 (l.map encR) false)) (fset 1 (some (.arr 5 b 0 cs.length)) (fset 2 (some (.int .i64 (at_ : Int))) (fset 7 (some (.iptr (Zm6 (.mk false i n bs vks)))) (fset 10 (some (.iptr (Zlo t))) Z27))))) ((b, .cells 5 (ws.set at_ w3)) :: (β4 ++ (γ ++ σ))) := by
        intro w3 β4 hC3
        obtain ⟨δ, k1, k2⟩ := hback w3 _ β4 hC3
        refine Z8a (FSub.refl _) (hp3 k2) ?_
        have hCs : ∀ x ∈ cs.set at_ (addC t.kind (.mk false i n bs vks) c), x.Sm := Z1i2 hSm (Z1i1 _ _ hcSm (by omega))
        (repeat (first | refine st_q rfl rfl rfl ?_ | (refine Z8y ?_; (repeat (first | refine Z9v rfl ?_ | refine Z9w ?_)); refine Z9u ?_) | refine awp_seq ?_ | refine Zbm (fun _ _ => rfl) ?_ | refine Z8h ?_))
        refine Zaa (fun m F σ' => ∃ (j : Nat) (ws' : List Z0) (cs' : List Col) (β' : Zc), F = fset 0 (some (.slc 9 (l.map encR) false)) (fset 1 (some (.arr 5 b 0 cs.length)) (fset 2 (some (.int .i64 (at_ : Int))) (fset 7 (some (.iptr (Zm6 (.mk false i n bs vks)))) (fset 10 (some (.iptr (Zlo t))) (fset 11 (some (.int .i64 (j : Int))) Z27))))) ∧
          (b, Zb.cells 5 ws') :: (β' ++ σ) = σ' ∧ Zy9 ws' cs' β' ∧ cs'.length = cs.length ∧ (∀ x ∈ cs', x.Sm) ∧ j ≤ vks.length ∧ putL l at_ i j (vks.drop j) cs' = X ∧ Zmg t i j (vks.drop j) = 0 ∧ m = vks.length - j) (n := vks.length)
          ⟨0, _, _, δ, rfl, rfl, k1, List.length_set, hCs, by omega, hX, hown.2, rfl⟩ ?_
        rintro m F σ' ⟨j, ws', cs', β', rfl, rfl, hG', hl', hS', hj, hXj, hvj, rfl⟩
        have hkl' : vks.length ≤ 9223372036854775807 := hkl
        (repeat (first | refine st_q rfl rfl rfl ?_ | (refine Z8y ?_; (repeat (first | refine Z9v rfl ?_ | refine Z9w ?_)); refine Z9u ?_) | refine awp_seq ?_ | refine Zbm (fun _ _ => rfl) ?_))
        rw [show ((Zm5 (Vl.mk false i n bs vks).kids).length : Int) = (vks.length : Int) by rw [Zm9]; rfl]
        refine Za3 (p := (j : Int) < (vks.length : Int)) rfl (fun h5 => ?_) (fun h5 => ?_)
        · have hjl : j < vks.length := by omega
          have Zd : vks[j]? = some vks[j] := List.getElem?_eq_getElem hjl
          obtain ⟨hka, hi0⟩ := Ztv hok hown.1 hjl
          rw [List.drop_eq_getElem_cons hjl, Zmg] at hvj
          rw [List.drop_eq_getElem_cons hjl, putL] at hXj
          have hv0 : vchk (kidT t i j) vks[j] = 0 ∧ Zmg t i (j + 1) (vks.drop (j + 1)) = 0 := by
            split at hvj
            · omega
            · split at hvj
              · omega
              · exact ⟨by omega, hvj⟩
          have hleaf : Zlt t.kind = false := by
            cases e : Zlt t.kind with
            | false => rfl
            | true =>
              have := hown.1
              rw [ownV, if_pos (.inr (.inr ⟨by omega, e⟩))] at this
              omega
          have hkl2 : Zmf t.kind i j < nd.kids.length := by omega
          obtain ⟨kx, hkx⟩ : ∃ kx, nd.kids[Zmf t.kind i j]? = some kx := ⟨_, List.getElem?_eq_getElem hkl2⟩
          have hAtk : At l kx (kidT t i j) := hkds _ _ _ hkx (by rw [kidT, List.getD_eq_getElem?_getD, List.getElem?_eq_getElem hka]; rfl)
          have hkC : kidC l at_ t.kind i j = kx := by
            rw [kidC, hnd]
            show nd.kids.getD _ 0 = kx
            rw [List.getD_eq_getElem?_getD, hkx, Option.getD_some]
          rw [hkind, hkC] at hXj
          have hcall := ih vks[j] (List.getElem_mem hjl) (hkids _ (List.getElem_mem hjl)) (kidT t i j) kx hAtk (Ztw hok hka) hv0.1 ws' cs' β' b σ hG' (by omega) (by omega) hS'
          rw [hl'] at hcall
          have tail : AWp Try.prog Z1ht.n ((Z1hr.snd 1).fst.body.snd 2) (Z8g 2 (Z8e Try.prog Z1ht.n (.region Z1hq [0, 1, 2, 7, 10, 11]) (Za9 (fun m F σ' => ∃ (j : Nat) (ws' : List Z0) (cs' : List Col) (β' : Zc), F = fset 0 (some (.slc 9 (l.map encR) false)) (fset 1 (some (.arr 5 b 0 cs.length)) (fset 2 (some (.int .i64 (at_ : Int))) (fset 7 (some (.iptr (Zm6 (.mk false i n bs vks)))) (fset 10 (some (.iptr (Zlo t))) (fset 11 (some (.int .i64 (j : Int))) Z27))))) ∧
              (b, Zb.cells 5 ws') :: (β' ++ σ) = σ' ∧ Zy9 ws' cs' β' ∧ cs'.length = cs.length ∧ (∀ x ∈ cs', x.Sm) ∧ j ≤ vks.length ∧ putL l at_ i j (vks.drop j) cs' = X ∧ Zmg t i j (vks.drop j) = 0 ∧ m = vks.length - j) (vks.length - j) (Z8g 1 (Z8e Try.prog Z1ht.n (Z1ht.code.snd 9) (ARet Z1ht.res fun r σ' => ∃ ws' β', Zy9 ws' X.fst β' ∧ r = Z0.bool X.snd ∧ σ' = (b, Zb.cells 5 ws') :: (β' ++ σ)))))))
              (fset 0 (some (.slc 9 (l.map encR) false)) (fset 1 (some (.arr 5 b 0 cs.length)) (fset 2 (some (.int .i64 (at_ : Int))) (fset 7 (some (.iptr (Zm6 (.mk false i n bs vks)))) (fset 10 (some (.iptr (Zlo t))) (fset 11 (some (.int .i64 (j : Int))) (fset 12 (some (.int .i64 (Zmf t.kind i j : Int))) Z27))))))) ((b, .cells 5 ws') :: (β' ++ σ)) := by
            have hxv : (Zm5 vks)[((j : Nat) : Int).toNat]? = some (encV vks[j]) := Zma (by rw [Int.toNat_natCast, Zd])
            have hxk : (ints nd.kids)[((Zmf t.kind i j : Nat) : Int).toNat]? = some (.int .i64 (kx : Int)) := by rw [Int.toNat_natCast]; simp [ints, hkx]
            rw [Zm7] at hcall hxv
            refine Z9z ?_
            (repeat (refine st_q rfl rfl rfl ?_))
            refine Z93 rfl (by omega) hnd' ?_
            (repeat (refine st_q rfl rfl rfl ?_))
            refine Z93 rfl (by omega) hxk ?_
            (repeat (refine st_q rfl rfl rfl ?_))
            refine Z93 rfl (by omega) hxv ?_
            (repeat (refine st_q rfl rfl rfl ?_))
            obtain ⟨wsx, βx, hx⟩ := Zy9.ex (putF l kx vks[j] cs').1
            refine Z9s rfl hcall ⟨_, _, wsx, βx, hx, rfl, rfl⟩ ?_
            rintro r σ2 ⟨ws2, β5, hG2, rfl, rfl⟩
            (repeat (refine st_q rfl rfl rfl ?_))
            (refine Z8y ?_; (repeat (first | refine Z9v rfl ?_ | refine Z9w ?_)); refine Z9u ?_)
            have hlen2 := Z1i3 l vks[j] kx cs'
            have hSm2 := Z1i4 l vks[j] kx cs' hS'
            generalize putF l kx vks[j] cs' = pr at hXj hG2 hlen2 hSm2
            obtain ⟨cs2, ok⟩ := pr
            cases ok with
            | true =>
              rw [if_pos rfl] at hXj
              (repeat (first | refine Zbn (fun _ _ => rfl) ?_ | refine Kc2 rfl ?_))
              refine Zbp ?_
              (repeat (refine st_q rfl rfl rfl ?_))
              rw [Kwr j (by omega)]
              (refine Z8y ?_; (repeat (first | refine Z9v rfl ?_ | refine Z9w ?_)); refine Z9u ?_)
              exact ⟨_, vks.length - (j + 1), HSub.refl _, ⟨j + 1, ws2, cs2, β5, rfl, rfl, hG2, by rw [← hl', ← hlen2], hSm2, by omega, hXj, hv0.2, rfl⟩, by omega⟩
            | false =>
              rw [if_neg (by simp)] at hXj
              subst hXj
              (repeat (first | refine st_q rfl rfl rfl ?_ | (refine Z8y ?_; (repeat (first | refine Z9v rfl ?_ | refine Z9w ?_)); refine Z9u ?_) | refine awp_seq ?_ | refine Zbm (fun _ _ => rfl) ?_ | refine Kc1 rfl ?_))
              refine Z8d ?_
              exact Kar rfl ⟨ws2, β5, hG2, rfl, rfl⟩
          refine Zbn (fun _ _ => rfl) ?_
          refine awp_seq ?_
          refine Z8h ?_
          refine Z9z ?_
          (repeat (refine st_q rfl rfl rfl ?_))
          (refine Z8y ?_; (repeat (first | refine Z9v rfl ?_ | refine Z9w ?_)); refine Z9u ?_)
          refine awp_seq ?_
          refine Z9z ?_
          (repeat (refine st_q rfl rfl rfl ?_))
          (refine Z8y ?_; (repeat (first | refine Z9v rfl ?_ | refine Z9w ?_)); refine Z9u ?_)
          refine Z8h ?_
          refine Z9z ?_
          (repeat (refine st_q rfl rfl rfl ?_))
          (refine Z8y ?_; (repeat (first | refine Z9v rfl ?_ | refine Z9w ?_)); refine Z9u ?_)
          refine Za3 (p := t.kind = 12) rfl (fun k12 => ?_) (fun k12 => ?_)
          · refine Zbm (fun _ _ => rfl) ?_
            (repeat (refine st_q rfl rfl rfl ?_))
            (refine Z8y ?_; (repeat (first | refine Z9v rfl ?_ | refine Z9w ?_)); refine Z9u ?_)
            have e : Zmf t.kind i j = j := by simp [Zmf, k12]
            rw [e] at tail
            exact tail
          refine Z9z ?_
          (repeat (refine st_q rfl rfl rfl ?_))
          (refine Z8y ?_; (repeat (first | refine Z9v rfl ?_ | refine Z9w ?_)); refine Z9u ?_)
          refine Za3 (p := t.kind = 11) rfl (fun k11 => ?_) (fun k11 => ?_)
          · refine Zbm (fun _ _ => rfl) ?_
            (repeat (refine st_q rfl rfl rfl ?_))
            (refine Z8y ?_; (repeat (first | refine Z9v rfl ?_ | refine Z9w ?_)); refine Z9u ?_)
            have e : ((Zmf t.kind i j : Nat) : Int) = (j : Int).tmod 2 := by
              rw [Int.tmod_eq_emod_of_nonneg (by omega)]
              simp [Zmf, k11]
            rw [e] at tail
            exact tail
          refine Z9z ?_
          (repeat (refine st_q rfl rfl rfl ?_))
          (refine Z8y ?_; (repeat (first | refine Z9v rfl ?_ | refine Z9w ?_)); refine Z9u ?_)
          refine Za3 (p := t.kind = 13) rfl (fun k13 => ?_) (fun k13 => ?_)
          · refine Zbm (fun _ _ => rfl) ?_
            (repeat (refine st_q rfl rfl rfl ?_))
            (refine Z8y ?_; (repeat (first | refine Z9v rfl ?_ | refine Z9w ?_)); refine Z9u ?_)
            have e : ((Zmf t.kind i j : Nat) : Int) = i := by
              have := hi0 k13
              simp [Zmf, k13]
              omega
            rw [e] at tail
            exact tail
          · refine Zbn (fun _ _ => rfl) ?_
            (refine Z9y (keep := [0, 1, 2, 7, 10, 11, 12]) ?_; ((repeat (first | refine Z9v rfl ?_ | refine Z9w ?_)); refine Z9u ?_))
            have e : Zmf t.kind i j = 0 := by
              have k10 : t.kind = 10 := by
                simp [Zlt, k11, k12, k13] at hleaf
                exact hleaf
              simp [Zmf, k10]
            rw [e] at tail
            exact tail
        · rw [List.drop_of_length_le (by omega), putL] at hXj
          subst hXj
          (repeat (first | refine st_q rfl rfl rfl ?_ | (refine Z8y ?_; (repeat (first | refine Z9v rfl ?_ | refine Z9w ?_)); refine Z9u ?_) | refine awp_seq ?_ | refine Zbm (fun _ _ => rfl) ?_ | refine Zbo (fun _ _ => rfl) ?_))
          refine Z8d ?_
          exact Kar rfl ⟨ws', β', hG', rfl, rfl⟩
      refine awp_seq ?_
      refine awp_seq ?_
      refine Zbm (fun _ _ => rfl) ?_
      (repeat (refine st_q rfl rfl rfl ?_))
      (refine Z8y ?_; (repeat (first | refine Z9v rfl ?_ | refine Z9w ?_)); refine Z9u ?_)
      refine Za3 (p := t.kind = 9) rfl (fun k9 => ?_) (fun k9 => ?_)
      · (refine Z9y (keep := [0, 1, 2, 7, 9, 10]) ?_; ((repeat (first | refine Z9v rfl ?_ | refine Z9w ?_)); refine Z9u ?_))
        refine Zyv (fun _ _ => rfl) b at_ _ w2 (hw1 w2) _ β3 hC2 (by
          have h1 := hcSm.ns
          have h2 := hcSm.here
          have e : (Zye t.kind (.mk false i n bs vks) (Zyg true c)).ns = c.ns := by
            unfold Zye Zyg
            (repeat' split) <;> rfl
          rw [e]; omega) (.mk false i n bs vks) _ _ _ _ (γ ++ σ) fun w' β' hC3 => ?_
        rw [List.set_set]
        refine fin w' β' ?_
        rw [addC, Zyf, if_pos k9]
        exact hC3
      · refine Zbn (fun _ _ => rfl) ?_
        (refine Z9y (keep := [0, 1, 2, 7, 10]) ?_; ((repeat (first | refine Z9v rfl ?_ | refine Z9w ?_)); refine Z9u ?_))
        refine fin w2 β3 ?_
        rw [addC, Zyf, if_neg k9]
        exact hC2
    have hC1 : ColG w1 (Zyg true c) β2 := hC1
    have b1 := hcSm.texts
    have b2 := hcSm.here
    have b3 := hcSm.lens
    have b4 := hcSm.ints
    refine awp_seq ?_
    refine Z8h ?_
    refine Z9z ?_
    (repeat (refine st_q rfl rfl rfl ?_))
    refine Z9t rfl (Ztl t.kind _) ?_
    (repeat (refine st_q rfl rfl rfl ?_))
    (refine Z8y ?_; (repeat (first | refine Z9v rfl ?_ | refine Z9w ?_)); refine Z9u ?_)
    cases hT : Zmb t.kind with
    | true =>
      refine Kc1 rfl ?_
      (refine Z9y (keep := [0, 1, 2, 7, 9, 10]) ?_; ((repeat (first | refine Z9v rfl ?_ | refine Z9w ?_)); refine Z9u ?_))
      refine Zyr (fun _ _ => rfl) b at_ _ w1 (hw1 w1) (Zyg true c) β2 hC1 (show c.texts.length ≤ 16384 by omega) (.mk false i n bs vks) _ _ _ _ (γ ++ σ) fun w' β' hC2 => ?_
      rw [List.set_set]
      refine rest w' β' ?_
      rw [Zye, if_pos hT]
      exact hC2
    | false =>
    refine Kc2 rfl ?_
    refine Z9z ?_
    (repeat (refine st_q rfl rfl rfl ?_))
    (refine Z8y ?_; (repeat (first | refine Z9v rfl ?_ | refine Z9w ?_)); refine Z9u ?_)
    refine Za3 (p := t.kind = 10) rfl (fun k10 => ?_) (fun k10 => ?_)
    · (refine Z9y (keep := [0, 1, 2, 7, 9, 10]) ?_; ((repeat (first | refine Z9v rfl ?_ | refine Z9w ?_)); refine Z9u ?_))
      refine Zys (fun _ _ => rfl) b at_ _ w1 (hw1 w1) (Zyg true c) β2 hC1 (show c.lens.length ≤ 16384 by omega) (.mk false i n bs vks) _ _ _ _ (γ ++ σ) fun w' β' hC2 => ?_
      rw [List.set_set]
      refine rest w' β' ?_
      rw [Zye, if_neg (by simp [hT]), if_pos k10]
      exact hC2
    refine Z9z ?_
    (repeat (refine st_q rfl rfl rfl ?_))
    (refine Z8y ?_; (repeat (first | refine Z9v rfl ?_ | refine Z9w ?_)); refine Z9u ?_)
    refine Za3 (p := t.kind = 11) rfl (fun k11 => ?_) (fun k11 => ?_)
    · (refine Z9y (keep := [0, 1, 2, 7, 9, 10]) ?_; ((repeat (first | refine Z9v rfl ?_ | refine Z9w ?_)); refine Z9u ?_))
      refine Zyt (fun _ _ => rfl) b at_ _ w1 (hw1 w1) (Zyg true c) β2 hC1 (show c.lens.length ≤ 16384 by omega) (.mk false i n bs vks) hkl _ _ _ _ (γ ++ σ) fun w' β' hC2 => ?_
      rw [List.set_set]
      refine rest w' β' ?_
      rw [Zye, if_neg (by simp [hT]), if_neg k10, if_pos k11]
      exact hC2
    refine Z9z ?_
    (repeat (refine st_q rfl rfl rfl ?_))
    (refine Z8y ?_; (repeat (first | refine Z9v rfl ?_ | refine Z9w ?_)); refine Z9u ?_)
    refine Za3 (p := t.kind ≠ 12) rfl (fun k12 => ?_) (fun k12 => ?_)
    · (refine Z9y (keep := [0, 1, 2, 7, 9, 10]) ?_; ((repeat (first | refine Z9v rfl ?_ | refine Z9w ?_)); refine Z9u ?_))
      refine Zyu (fun _ _ => rfl) b at_ _ w1 (hw1 w1) (Zyg true c) β2 hC1 (show c.ints.length ≤ 16384 by omega) (.mk false i n bs vks) _ _ _ _ (γ ++ σ) fun w' β' hC2 => ?_
      rw [List.set_set]
      refine rest w' β' ?_
      rw [Zye, if_neg (by simp [hT]), if_neg k10, if_neg k11, if_pos k12]
      exact hC2
    · refine Zbn (fun _ _ => rfl) ?_
      (refine Z9y (keep := [0, 1, 2, 7, 9, 10]) ?_; ((repeat (first | refine Z9v rfl ?_ | refine Z9w ?_)); refine Z9u ?_))
      refine rest w1 β2 ?_
      rw [Zye, if_neg (by simp [hT]), if_neg k10, if_neg k11, if_neg k12]
      exact hC1
end Go.Abs
namespace Go.Abs
open Go Go.Proofs
set_option linter.unusedVariables false
set_option linter.unusedSimpArgs false
theorem Zbr.one {sz : Nat} {v : Z0} {xs : List Z0} {β : Zc} (h : Zbr sz v xs β) : v.one = true := by
  rcases h with ⟨⟨z, rfl⟩, _, _⟩ | ⟨b, rfl, _⟩ <;> rfl
theorem oneS {z : Nat} {xs : List Z0} {f : Bool} : (Z0.slc z xs f).one = true := rfl
theorem Zbx.cell {b sz : Nat} {A B p q : List Z0} {v : Z0} {ks : List Z0} {β σ : Zc} (hg : Zbr 1 v ks β) (he : ∀ y ∈ A ++ .agg (p ++ .slc 1 ks false :: q) :: B, y.elem sz) :
    Zbx ((b, .cells sz (A ++ .agg (p ++ v :: q) :: B)) :: (β ++ σ)) ((b, .cells sz (A ++ .agg (p ++ .slc 1 ks false :: q) :: B)) :: σ) := by
  rcases hg with ⟨⟨z, rfl⟩, rfl, rfl⟩ | ⟨bk, rfl, rfl⟩
  · refine Zbx.content (by simp) he ?_
    simp only [Z4, Z3, Z0.cells]
    exact VRle.app (VRle.refl _) (VRle.app (VRle.app (VRle.refl _) (VRle.cons (VRle.nilF _ _) (VRle.refl _))) (VRle.refl _))
  · refine Zbx.inner (bk := bk) (s := 1) (ks := ks) (by simp) he fun K hK vs hv => ?_
    simp only [Z4, Z3, Z0.cells] at hv ⊢
    obtain ⟨m1, m2, rfl, g1, g2⟩ := hv.split
    obtain ⟨m3, m4, rfl, g3, g4⟩ := g2.split
    obtain ⟨m5, m6, rfl, g5, g6⟩ := g3.split
    refine g1.append ((g5.append ?_).append g4)
    have h2 : (Z0.arr 1 bk 0 ks.length :: q) = [Z0.arr 1 bk 0 ks.length] ++ q := rfl
    rw [h2] at g6
    obtain ⟨m7, m8, rfl, g7, g8⟩ := g6.split
    have h3 : (Z0.slc 1 ks false :: q) = [Z0.slc 1 ks false] ++ q := rfl
    rw [h3]
    refine Z1.append ?_ g8
    have hl := g7.length
    match m7, g7, hl with
    | [x], g7, _ => exact hK x g7
theorem ColG.elem {w : Z0} {c : Col} {β : Zc} (h : ColG w c β) : w.elem 5 := by
  obtain ⟨v1, v2, v3, v4, v5, β1, β2, β3, β4, β5, rfl, g1, g2, g3, g4, g5, rfl⟩ := h
  exact ⟨rfl, by simp [Z0.cells, g1.one, g2.one, g3.one, g4.one, g5.one]⟩
theorem Zy9.elem : ∀ {ws : List Z0} {cs : List Col} {β : Zc}, Zy9 ws cs β → ∀ w ∈ ws, w.elem 5
  | [], [], _, _, w, h => by cases h
  | _ :: _, _ :: _, _, ⟨_, _, h1, h2, _⟩, w, hm => by
    rcases List.mem_cons.1 hm with h | h
    · rw [h]; exact h1.elem
    · exact h2.elem w h
  | [], _ :: _, _, h, _, _ => h.elim
  | _ :: _, [], _, h, _, _ => h.elim
theorem Zy9.freeze : ∀ {ws : List Z0} {cs : List Col} {β : Zc}, Zy9 ws cs β → ∀ (A : List Z0), (∀ y ∈ A, y.elem 5) → ∀ (b : Nat) (σ : Zc), Zbx ((b, .cells 5 (A ++ ws)) :: (β ++ σ)) ((b, .cells 5 (A ++ cs.map encC)) :: σ)
  | [], [], _, h, A, hA, b, σ => by
    have h : _ = [] := h
    subst h
    exact Zbx.sub (HSub.refl _)
  | [], _ :: _, _, h, _, _, _, _ => h.elim
  | _ :: _, [], _, h, _, _, _, _ => h.elim
  | w :: ws, c :: cs, β, ⟨β0, γ, h1, h2, h3⟩, A, hA, b, σ => by
    subst h3
    obtain ⟨v1, v2, v3, v4, v5, β1, β2, β3, β4, β5, rfl, g1, g2, g3, g4, g5, rfl⟩ := h1
    have hws := h2.elem
    have el : ∀ l : List Z0, l.length = 5 → (∀ x ∈ l, x.one = true) → ∀ y ∈ A ++ .agg l :: ws, y.elem 5 := by
      intro l hl ho y hy
      rcases List.mem_append.1 hy with h | h
      · exact hA y h
      · rcases List.mem_cons.1 h with h | h
        · rw [h]; exact ⟨hl, ho⟩
        · exact hws y h
    have hA' : ∀ y ∈ A ++ [encC c], y.elem 5 := by
      intro y hy
      rcases List.mem_append.1 hy with h | h
      · exact hA y h
      · simp only [List.mem_singleton] at h
        rw [h]; exact Z0.fit_iff.1 rfl
    have hr := h2.freeze (A ++ [encC c]) hA' b σ
    simp only [List.append_assoc, List.cons_append, List.nil_append, List.map_cons] at hr ⊢
    refine (Zbx.cell (p := []) (q := [v2, v3, v4, v5]) g1 (el _ rfl (by simp [g2.one, g3.one, g4.one, g5.one, oneS]))).trans ?_
    refine (Zbx.cell (p := [.slc 1 (c.here.map .bool) false]) (q := [v3, v4, v5]) g2 (el _ rfl (by simp [g3.one, g4.one, g5.one, oneS]))).trans ?_
    refine (Zbx.cell (p := [.slc 1 (c.here.map .bool) false, .slc 1 (c.ints.map (.int .i64)) false]) (q := [v4, v5]) g3 (el _ rfl (by simp [g4.one, g5.one, oneS]))).trans ?_
    refine (Zbx.cell (p := [.slc 1 (c.here.map .bool) false, .slc 1 (c.ints.map (.int .i64)) false, .slc 1 (c.ns.map (.int .i64)) false]) (q := [v5]) g4 (el _ rfl (by simp [g5.one, oneS]))).trans ?_
    refine (Zbx.cell (p := [.slc 1 (c.here.map .bool) false, .slc 1 (c.ints.map (.int .i64)) false, .slc 1 (c.ns.map (.int .i64)) false, .slc 1 (Zy8 c.texts) false]) (q := []) g5 (el _ rfl (by simp [oneS]))).trans ?_
    exact hr
end Go.Abs
namespace Go.Abs
open Go Go.Proofs
set_option linter.unusedVariables false
set_option linter.unusedSimpArgs false
set_option maxHeartbeats 4000000
attribute [local irreducible] AWp aops KP
theorem Znl : ∀ (l : List Ty) (a : Nat), (Zly a l).length = l.length
  | [], _ => rfl
  | t :: l, a => by simp [Zly, Znl l]
theorem Znm (n : Nd) : (encR n).elem 9 := ⟨rfl, by
  obtain ⟨⟨k, ns, ks, l, p, s⟩, kids, par, deep⟩ := n
  simp [encR, Zm3, Zlo, Z0.cells, Z0.one]⟩
def rowR (k : Int) (ns : List (List UInt8)) (ks : List Ty) (l p s : Int) (vk : Z0) (parent : Int) (deep : Nat) : Z0 :=
  .agg [.int .i64 k, .slc 1 (ns.map .str) false, .slc 6 (Zln ks) false, .int .i64 l, .int .i64 p, .int .i64 s, vk, .int .i64 parent, .int .i64 (deep : Int)]
theorem Znn : ∀ (t : Ty), t.Small → ∀ (v : Z0) (xs : List Z0) (β : Zc) (parent : Int) (deep : Nat) (σ : Zc), Zbr 9 v xs β → (∀ x ∈ xs, x.elem 9) → xs.length + cnt t ≤ 1000 → deep + cnt t ≤ 1000 →
    Z1q Try.prog Ze1 [v, encT t, .int .i64 parent, .int .i64 (deep : Int)] (β ++ σ) fun r σ' => ∃ β', Zbr 9 r (xs ++ (Zlz xs.length parent deep t).map encR) β' ∧ σ' = β' ++ σ := by
  refine Ty.ind fun k ns ks l p s ih hsmall v xs β parent deep σ ho hxe hx hd => ?_
  cases hsmall with
  | mk hk1 hn1 hn4 hkids =>
  simp only [encT, Ty.kind, Ty.names, Ty.kids, Ty.len, Ty.prec, Ty.scale] at *
  have hlenks := Znc ks
  refine Z8t rfl Zla (Nat.le_of_ble_eq_true rfl) ?_
  refine Z9z ?_
  refine Z9j rfl (Kfi rfl) fun pb hpb => ?_
  (repeat (refine st_q rfl rfl rfl ?_))
  (refine Z8y ?_; (repeat (first | refine Z9v rfl ?_ | refine Z9w ?_)); refine Z9u ?_)
  refine Zb3 (d := 5) (cs := [.int .i64 k, .slc 1 (ns.map .str) false, .slc 6 (Zln ks) false, .int .i64 l, .int .i64 p, .int .i64 s]) rfl ?_
  refine Z9z ?_
  refine st_q rfl rfl rfl ?_
  refine Zas rfl ho.lens ?_
  (repeat (refine st_q rfl rfl rfl ?_))
  (refine Z8y ?_; (repeat (first | refine Z9v rfl ?_ | refine Z9w ?_)); refine Z9u ?_)
  refine Z9z ?_
  (repeat (refine st_q rfl rfl rfl ?_))
  refine Zbs (ys := [.agg [.int .i64 k, .slc 1 (ns.map .str) false, .slc 6 (Zln ks) false, .int .i64 l, .int .i64 p, .int .i64 s, .slc 0 [] true, .int .i64 parent, .int .i64 (deep : Int)]]) ho rfl rfl (by simp only [List.length_cons, List.length_nil]; omega) fun b1 hb1 => ?_
  (repeat (first | refine st_q rfl rfl rfl ?_ | (refine Z8y ?_; (repeat (first | refine Z9v rfl ?_ | refine Z9w ?_)); refine Z9u ?_) | refine awp_seq ?_ | refine Zbm (fun _ _ => rfl) ?_ | refine Z8h ?_))
  change AWp _ _ _ _ _ ((b1, .cells 9 (xs ++ [rowR k ns ks l p s (.slc 0 [] true) parent deep])) :: σ)
  refine Zaa (fun m F σ' => ∃ (i b : Nat) (vk : Z0) (βk : Zc) (R : List Z0), F = fset 0 (some (.arr 9 b 0 R.length)) (fset 3 (some (.int .i64 (deep : Int))) (fset 5 (some (.iptr [.int .i64 k, .slc 1 (ns.map .str) false, .slc 6 (Zln ks) false, .int .i64 l, .int .i64 p, .int .i64 s])) (fset 9 (some (.int .i64 (xs.length : Int))) (fset 10 (some (.int .i64 (i : Int))) Z27)))) ∧
    σ' = (b, .cells 9 R) :: (βk ++ σ) ∧ R = xs ++ rowR k ns ks l p s vk parent deep :: (Zm0 (xs.length + 1) (xs.length : Int) (deep + 1) (ks.take i)).map encR ∧ Zbr 1 vk (ints (Zly (xs.length + 1) (ks.take i))) βk ∧ i ≤ ks.length ∧ m = ks.length - i) (n := ks.length)
    ⟨0, b1, _, [], _, rfl, rfl, rfl, Zbr.nil 1 0, by omega, rfl⟩ ?_
  rintro m F σ' ⟨i, b, vk, βk, R, rfl, rfl, hR, hok, hi, rfl⟩
  have hRl : R.length = xs.length + 1 + cntL (ks.take i) := by rw [hR]; simp [Zng]; omega
  have hvk1 : vk.one = true := by rcases hok with ⟨⟨z, rfl⟩, _, _⟩ | ⟨b, rfl, _⟩ <;> rfl
  have hRe : ∀ x ∈ R, x.elem 9 := by
    intro x hm
    rw [hR] at hm
    rcases List.mem_append.1 hm with hm | hm
    · exact hxe x hm
    rcases List.mem_cons.1 hm with rfl | hm
    · refine ⟨rfl, ?_⟩
      simp only [rowR, Z0.cells, List.mem_cons, List.not_mem_nil, or_false]
      rintro c (rfl | rfl | rfl | rfl | rfl | rfl | rfl | rfl | rfl) <;> first | rfl | exact hvk1
    · obtain ⟨n, _, rfl⟩ := List.mem_map.1 hm
      exact Znm n
  (repeat (first | refine st_q rfl rfl rfl ?_ | (refine Z8y ?_; (repeat (first | refine Z9v rfl ?_ | refine Z9w ?_)); refine Z9u ?_) | refine awp_seq ?_ | refine Zbm (fun _ _ => rfl) ?_))
  rw [Zlr]
  refine Za3 (p := (i : Int) < (ks.length : Int)) rfl (fun h3 => ?_) (fun h3 => ?_)
  · have hil : i < ks.length := by omega
    have Zd : ks[i]? = some ks[i] := List.getElem?_eq_getElem hil
    have hx' : (Zln ks)[(i : Int).toNat]? = some (encT ks[i]) := Zls (by rw [Int.toNat_natCast, Zd])
    have hcn := Znh ks i _ Zd
    have hkl := Zne ks (xs.length + 1) i _ Zd
    have hfl := Znf ks (xs.length + 1) i (xs.length : Int) (deep + 1) _ Zd
    simp only [cnt] at hx hd
    (repeat (first | refine st_q rfl rfl rfl ?_ | (refine Z8y ?_; (repeat (first | refine Z9v rfl ?_ | refine Z9w ?_)); refine Z9u ?_) | refine awp_seq ?_ | refine Zbm (fun _ _ => rfl) ?_ | refine Z8h ?_ | refine Zbn (fun _ _ => rfl) ?_))
    refine Z93 rfl (by omega) hx' ?_
    rw [Zlp]
    (repeat (refine st_q rfl rfl rfl ?_))
    rw [Kwr deep (by omega)]
    have hcw := ih ks[i] (List.getElem_mem hil) (hkids _ (List.getElem_mem hil)) (.arr 9 b 0 R.length) R [(b, .cells 9 R)] (xs.length : Int) (deep + 1) (βk ++ σ) Zbr.mk hRe (by omega) (by omega)
    rw [Zlp] at hcw
    refine Z9s rfl hcw ?_ ?_
    · obtain ⟨gv, gβ, hgr⟩ := Zbr.ex 9 (R ++ (Zlz R.length (xs.length : Int) (deep + 1) ks[i]).map encR)
      exact ⟨_, _, gβ, hgr, rfl⟩
    rintro r2 _ ⟨β2, ho2, rfl⟩
    obtain ⟨b3, rfl, rfl⟩ := ho2.arr (by rw [hR]; simp)
    (repeat (refine st_q rfl rfl rfl ?_))
    (refine Z8y ?_; (repeat (first | refine Z9v rfl ?_ | refine Z9w ?_)); refine Z9u ?_)
    generalize hR3 : R ++ (Zlz R.length (xs.length : Int) (deep + 1) ks[i]).map encR = R3
    have hR3' : R3 = xs ++ rowR k ns ks l p s vk parent deep :: (Zm0 (xs.length + 1) (xs.length : Int) (deep + 1) (ks.take (i + 1))).map encR := by
      rw [← hR3, hfl, hRl, hR]; simp
    have hat : ∀ z, R3[0 + ((xs.length : Nat) : Int).toNat]? = some z ↔ z = rowR k ns ks l p s vk parent deep := fun z => by
      rw [hR3', Nat.zero_add, Int.toNat_natCast]; simp; exact eq_comm
    have hat1 := (hat _).2 rfl
    have Ze : ∀ u : Z0, u.one = true → R3.set (0 + ((xs.length : Nat) : Int).toNat) (Z1r (rowR k ns ks l p s vk parent deep) (0 + 6) u.cells) = xs ++ rowR k ns ks l p s u parent deep :: (Zm0 (xs.length + 1) (xs.length : Int) (deep + 1) (ks.take (i + 1))).map encR := by
      intro u hu
      rw [hR3', Nat.zero_add, Int.toNat_natCast, List.set_append_right _ _ (Nat.le_refl _), Nat.sub_self, List.set_cons_zero, Z0.cells_of_one hu]
      rfl
    have hkb : (Zly (xs.length + 1) (ks.take i)).length ≤ 1000 := by rw [Znl, List.length_take]; omega
    have hkid : ints (Zly (xs.length + 1) (ks.take (i + 1))) = ints (Zly (xs.length + 1) (ks.take i)) ++ [.int .i64 (R.length : Int)] := by rw [hkl, hRl]; simp [ints]
    refine Z89 fun nd => ?_
    refine Zbm (fun _ _ => rfl) ?_
    refine st_q rfl rfl rfl ?_
    refine st_q rfl rfl rfl ?_
    refine st_q rfl rfl rfl ?_
    refine st_q rfl rfl rfl ?_
    refine Z94 rfl ⟨by omega, by rw [← hR3]; simp; omega⟩ ?_
    refine st_q rfl rfl rfl ?_
    refine Z92 rfl Z8z hat1 rfl ?_
    refine st_q rfl rfl rfl ?_
    refine st_q rfl rfl rfl ?_
    have hRt : xs.length < R3.length := by rw [← hR3]; simp; omega
    have done : ∀ (b' : Nat) (τ : Zc), b' ≠ b3 → HSub ((b3, .cells 9 (xs ++ rowR k ns ks l p s (.arr 1 b' 0 (ints (Zly (xs.length + 1) (ks.take i)) ++ [Z0.int .i64 (R.length : Int)]).length) parent deep :: (Zm0 (xs.length + 1) (xs.length : Int) (deep + 1) (ks.take (i + 1))).map encR)) :: (b', .cells 1 (ints (Zly (xs.length + 1) (ks.take i)) ++ [Z0.int .i64 (R.length : Int)])) :: σ) τ →
        AWp Try.prog Zh8.n (.region Zh5 [0, 3, 5, 9, 10]) (Za9 (fun m F σ' => ∃ (i b : Nat) (vk : Z0) (βk : Zc) (R : List Z0), F = fset 0 (some (.arr 9 b 0 R.length)) (fset 3 (some (.int .i64 (deep : Int))) (fset 5 (some (.iptr [.int .i64 k, .slc 1 (ns.map .str) false, .slc 6 (Zln ks) false, .int .i64 l, .int .i64 p, .int .i64 s])) (fset 9 (some (.int .i64 (xs.length : Int))) (fset 10 (some (.int .i64 (i : Int))) Z27)))) ∧
    σ' = (b, .cells 9 R) :: (βk ++ σ) ∧ R = xs ++ rowR k ns ks l p s vk parent deep :: (Zm0 (xs.length + 1) (xs.length : Int) (deep + 1) (ks.take i)).map encR ∧ Zbr 1 vk (ints (Zly (xs.length + 1) (ks.take i))) βk ∧ i ≤ ks.length ∧ m = ks.length - i) (ks.length - i) (Z8g 0 (Z8e Try.prog Zh8.n (Zh8.code.snd 4) (ARet Zh8.res fun r σ' => ∃ β', Zbr 9 r (xs ++ (Zlz xs.length parent deep (.mk k ns ks l p s)).map encR) β' ∧ σ' = β' ++ σ))))
          (fset 0 (some (.arr 9 b3 0 R3.length)) (fset 3 (some (.int .i64 (deep : Int))) (fset 5 (some (.iptr [.int .i64 k, .slc 1 (ns.map .str) false, .slc 6 (Zln ks) false, .int .i64 l, .int .i64 p, .int .i64 s])) (fset 9 (some (.int .i64 (xs.length : Int))) (fset 10 (some (.int .i64 (i : Int))) Z27))))) τ := by
      intro b' τ hne hτ
      refine Zbp ?_
      (repeat (refine st_q rfl rfl rfl ?_))
      rw [Kwr i (by omega)]
      (refine Z8y ?_; (repeat (first | refine Z9v rfl ?_ | refine Z9w ?_)); refine Z9u ?_)
      refine ⟨_, ks.length - (i + 1), hτ, ⟨i + 1, b3, _, [(b', .cells 1 _)], _, ?_, rfl, rfl, ?_, by omega, rfl⟩, by omega⟩
      · rw [hR3']; simp
      · rw [hkid]; exact Zbr.mk
    rcases hok with ⟨⟨z, rfl⟩, hk0, rfl⟩ | ⟨bk, rfl, rfl⟩
    · refine Z9p (ys := [.int .i64 (R.length : Int)]) rfl rfl (by simp) fun b' hb' => ?_
      have hne : b' ≠ b3 := fun e => hb' (by rw [e]; simp [Zh])
      (repeat (refine st_q rfl rfl rfl ?_))
      refine Z94 rfl ⟨by omega, by omega⟩ ?_
      (repeat (refine st_q rfl rfl rfl ?_))
      refine Z9a rfl (Z90 hne Z8z) hat1 (by decide) (Kfi rfl) (fun h => by cases h) (Z9c hne Z9b) ?_
      rw [Ze _ rfl]
      (refine Z8y ?_; (repeat (first | refine Z9v rfl ?_ | refine Z9w ?_)); refine Z9u ?_)
      refine done b' _ hne ?_
      rw [hk0]
      exact HSub.swap _ _ _
    · refine Z9o (xs := ints (Zly (xs.length + 1) (ks.take i))) (ys := [.int .i64 (R.length : Int)]) (sz := 1) rfl (Z90 (by
        intro e; subst e; simp [Zh] at nd) Z8z) rfl rfl (by simp [ints]; omega) fun b' hb' => ?_
      have hne : b' ≠ b3 := fun e => hb' (by rw [e]; simp [Zh])
      simp only [List.singleton_append]
      rw [Z9f (by intro e; subst e; simp [Zh] at nd) Z9e]
      (repeat (refine st_q rfl rfl rfl ?_))
      refine Z94 rfl ⟨by omega, by omega⟩ ?_
      (repeat (refine st_q rfl rfl rfl ?_))
      refine Z9a rfl Z8z hat1 (by decide) (Kfi rfl) (fun h => by cases h) Z9b ?_
      rw [Ze _ rfl]
      (refine Z8y ?_; (repeat (first | refine Z9v rfl ?_ | refine Z9w ?_)); refine Z9u ?_)
      refine done b' _ hne ?_
      rw [List.length_append]
      exact HSub.refl _
  · have hie : i = ks.length := by omega
    subst hie
    rw [List.take_length] at hR hok
    have hfin : xs ++ rowR k ns ks l p s (.slc 1 (ints (Zly (xs.length + 1) ks)) false) parent deep :: (Zm0 (xs.length + 1) (xs.length : Int) (deep + 1) ks).map encR = xs ++ (Zlz xs.length parent deep (.mk k ns ks l p s)).map encR := by
      rw [Zlz]; rfl
    have hlen : (xs ++ (Zlz xs.length parent deep (.mk k ns ks l p s)).map encR).length = R.length := by rw [← hfin, hR]; simp
    have hsh : Zbx ((b, .cells 9 R) :: (βk ++ σ)) ((b, .cells 9 (xs ++ (Zlz xs.length parent deep (.mk k ns ks l p s)).map encR)) :: σ) := by
      have hye : ∀ y ∈ xs ++ (Zlz xs.length parent deep (.mk k ns ks l p s)).map encR, y.elem 9 := by
        intro y hy
        rcases List.mem_append.1 hy with hy | hy
        · exact hxe y hy
        · obtain ⟨n, _, rfl⟩ := List.mem_map.1 hy
          exact Znm n
      have hrep : ∀ (K : Kr), (∀ v, VR K vk v → VR K (.slc 1 (ints (Zly (xs.length + 1) ks)) false) v) → ∀ vs, Z1 K (flat R) vs → Z1 K (flat (xs ++ (Zlz xs.length parent deep (.mk k ns ks l p s)).map encR)) vs := by
        intro K hK vs hv
        rw [hR, Z4, Z3] at hv
        rw [← hfin, Z4, Z3]
        obtain ⟨m1, m2, rfl, g1, g2⟩ := hv.split
        obtain ⟨m3, m4, rfl, g3, g4⟩ := g2.split
        refine g1.append (Z1.append ?_ g4)
        simp only [rowR, Z0.cells] at g3 ⊢
        obtain ⟨v1, m5, rfl, a1, g3⟩ := g3.ex
        obtain ⟨v2, m5, rfl, a2, g3⟩ := g3.ex
        obtain ⟨v3, m5, rfl, a3, g3⟩ := g3.ex
        obtain ⟨v4, m5, rfl, a4, g3⟩ := g3.ex
        obtain ⟨v5, m5, rfl, a5, g3⟩ := g3.ex
        obtain ⟨v6, m5, rfl, a6, g3⟩ := g3.ex
        obtain ⟨v7, m5, rfl, a7, g3⟩ := g3.ex
        exact .cons a1 (.cons a2 (.cons a3 (.cons a4 (.cons a5 (.cons a6 (.cons (hK _ a7) g3))))))
      rcases hok with ⟨⟨z, rfl⟩, hk0, rfl⟩ | ⟨bk, rfl, rfl⟩
      · intro K w r
        refine ⟨K, Kr.le.refl K, Rel.content (xs := R) r hlen hye (hrep K fun v hv => ?_)⟩
        rw [hk0]
        exact VRle.trans (VRle.nil_slc z 1 true) VRle.full K [v] hv
      · exact Zbx.inner hlen hye hrep
    refine Zbo (fun _ _ => rfl) ?_
    refine Zby hsh ?_
    (repeat (first | refine st_q rfl rfl rfl ?_ | (refine Z8y ?_; (repeat (first | refine Z9v rfl ?_ | refine Z9w ?_)); refine Z9u ?_) | refine awp_seq ?_ | refine Zbm (fun _ _ => rfl) ?_))
    refine Z8d ?_
    refine ares rfl (HSub.refl _) ⟨_, .inr ⟨b, ?_, rfl⟩, rfl⟩
    rw [hlen]; rfl
end Go.Abs
namespace Go.Abs
open Go Go.Proofs
theorem Zno (t : Ty) (hc : ∀ σ, Z1q Try.prog Zd7 [encT t] σ fun r σ' => r = .int .i64 (Zlx t : Int) ∧ σ' = σ) (σ : Zc) : Z1q Try.prog Zcr [encT t] σ fun r σ' => r = .slc 9 ((Zm4 t).map encR) false ∧ σ' = σ := by
  have hc := hc σ
  have hf := fun (hs : t.Small) => Znn t hs (.slc 0 [] true) [] [] (-1) 1 σ (Zbr.nil 9 0)
  rw [Zlp] at *
  refine Z8t rfl Zl7 (Nat.le_of_ble_eq_true rfl) ?_
  refine Z9z ?_
  refine Z9j rfl (Kfi rfl) fun pb hpb => ?_
  (repeat (refine st_q rfl rfl rfl ?_))
  (refine Z8y ?_; (repeat (first | refine Z9v rfl ?_ | refine Z9w ?_)); refine Z9u ?_)
  refine Zb3 (d := 1) (cs := Zlo t) rfl ?_
  (repeat (first | refine st_q rfl rfl rfl ?_ | refine awp_seq ?_ | refine Zbm (fun _ _ => rfl) ?_))
  refine Z9t rfl hc ?_
  (repeat (first | refine st_q rfl rfl rfl ?_ | (refine Z8y ?_; (repeat (first | refine Z9v rfl ?_ | refine Z9w ?_)); refine Z9u ?_)))
  by_cases h0 : Zlx t = 0
  · have hs := Znd t 1 0 h0
    (rw [decide_eq_false (p := ((Zlx t : Nat) : Int) ≠ 0) (by omega)])
    (repeat (first | refine st_q rfl rfl rfl ?_ | refine awp_seq ?_ | refine Zbm (fun _ _ => rfl) ?_ | refine Zbn (fun _ _ => rfl) ?_ | refine Kc2 rfl ?_))
    refine Z9s rfl (hf hs.2.1 (by simp) (by simp; omega) (by omega)) ?_ ?_
    · obtain ⟨gv, gβ, hgr⟩ := Zbr.ex 9 ([] ++ (Zlz 0 (-1) 1 t).map encR)
      exact ⟨_, _, gβ, hgr, rfl⟩
    rintro r2 _ ⟨β2, ho2, rfl⟩
    (repeat (first | refine st_q rfl rfl rfl ?_ | (refine Z8y ?_; (repeat (first | refine Z9v rfl ?_ | refine Z9w ?_)); refine Z9u ?_)))
    refine Z8d ?_
    refine Zbu rfl (Zb6.one (Zb6.growG ho2)) ⟨?_, rfl⟩
    rw [Zm4, if_pos h0]; rfl
  · (rw [decide_eq_true (p := ((Zlx t : Nat) : Int) ≠ 0) (by omega)])
    (repeat (first | refine st_q rfl rfl rfl ?_ | (refine Z8y ?_; (repeat (first | refine Z9v rfl ?_ | refine Z9w ?_)); refine Z9u ?_) | refine awp_seq ?_ | refine Zbm (fun _ _ => rfl) ?_ | refine Kc1 rfl ?_))
    refine Z8d ?_
    refine Zau rfl ?_ (HSub.refl _) ⟨rfl, rfl⟩
    rw [Zm4, if_neg h0]
    exact VRle.trans (VRle.nil_slc 0 9 true) VRle.full
end Go.Abs
namespace Go.Abs
open Go Go.Proofs
set_option linter.unusedVariables false
set_option linter.unusedSimpArgs false
set_option maxHeartbeats 4000000
attribute [local irreducible] AWp aops KP
def rowE (t : Ty) (v : Vl) : Nat := if vchk t v = 0 ∧ v.null = true then 1 else vchk t v
def rowsE (t : Ty) : List Vl → Nat
  | [] => 0
  | v :: vs => if rowE t v ≠ 0 then rowE t v else rowsE t vs
def Z1i5 (l : List Nd) : List Vl → List Col → List Col × Bool
  | [], cols => (cols, true)
  | v :: vs, cols => if (putF l 0 v cols).2 = true then Z1i5 l vs (putF l 0 v cols).1 else ((putF l 0 v cols).1, false)
def Z1i6 (t : Ty) (rows : List Vl) : List Col × Nat :=
  if Zlx t ≠ 0 then ([], Zlx t)
  else if rowsE t rows ≠ 0 then ([], rowsE t rows)
  else if (Z1i5 (Zm4 t) rows (List.replicate (Zm4 t).length col0)).2 = true then ((Z1i5 (Zm4 t) rows (List.replicate (Zm4 t).length col0)).1, 0)
  else ([], 4)
theorem Z1i7 (t : Ty) {rows : List Vl} {j : Nat} (h : j < rows.length) : rowsE t (rows.drop j) = if rowE t rows[j] ≠ 0 then rowE t rows[j] else rowsE t (rows.drop (j + 1)) := by
  rw [List.drop_eq_getElem_cons h, rowsE]
theorem Z1i8 {t : Ty} : ∀ {rows : List Vl}, rowsE t rows = 0 → ∀ v ∈ rows, vchk t v = 0 ∧ v.null = false
  | [], _, v, hv => by cases hv
  | r :: rows, h, v, hv => by
    rw [rowsE] at h
    split at h
    · omega
    · rename_i h0
      rcases List.mem_cons.1 hv with e | e
      · rw [e]
        unfold rowE at h0
        split at h0
        · omega
        · rename_i h1
          have h2 : vchk t r = 0 := by omega
          refine ⟨h2, ?_⟩
          cases e2 : r.null with
          | false => rfl
          | true => exact absurd ⟨h2, e2⟩ h1
      · exact Z1i8 h v e
theorem Z1i9 (t : Ty) (ht : t.Fit) (rows : List Vl) (hr : ∀ v ∈ rows, v.Fit) (hl : rows.length ≤ 140737488355328) (σ : Zc) :
    Z1q Try.prog Zcq [encT t, .slc 5 (Zm5 rows) false] σ fun r σ' => r = .tup [.slc 5 ((Z1i6 t rows).1.map encC) false, .int .i64 ((Z1i6 t rows).2 : Int)] ∧ σ' = σ := by
  have hc := Zn4 t ht
  have hfl := Zno t hc
  generalize hX : Z1i6 t rows = X
  rw [Zlp] at *
  refine Z8t rfl Z1hu (Nat.le_of_ble_eq_true rfl) ?_
  refine Z9z ?_
  refine Z9j rfl (Kfi rfl) fun b2 hb2 => ?_
  (repeat (refine st_q rfl rfl rfl ?_))
  (refine Z8y ?_; (repeat (first | refine Z9v rfl ?_ | refine Z9w ?_)); refine Z9u ?_)
  refine Zb3 (d := 2) (cs := Zlo t) rfl ?_
  refine Z9z ?_
  (repeat (refine st_q rfl rfl rfl ?_))
  refine Z9t rfl (hc _) ?_
  (repeat (refine st_q rfl rfl rfl ?_))
  (refine Z8y ?_; (repeat (first | refine Z9v rfl ?_ | refine Z9w ?_)); refine Z9u ?_)
  refine awp_seq ?_
  refine awp_seq ?_
  refine Zbm (fun _ _ => rfl) ?_
  (repeat (refine st_q rfl rfl rfl ?_))
  (refine Z8y ?_; (repeat (first | refine Z9v rfl ?_ | refine Z9w ?_)); refine Z9u ?_)
  by_cases h0 : Zlx t = 0
  · have hTok : t.Ok := Ztu t _ _ h0
    rw [Z1i6, if_neg (by omega)] at hX
    refine Za3 (p := ((Zlx t : Nat) : Int) ≠ 0) rfl (fun h => absurd h (by omega)) (fun _ => ?_)
    refine Zbn (fun _ _ => rfl) ?_
    refine Z9z ?_
    (repeat (refine st_q rfl rfl rfl ?_))
    refine Z9t rfl (hfl _) ?_
    (repeat (refine st_q rfl rfl rfl ?_))
    (refine Z8y ?_; (repeat (first | refine Z9v rfl ?_ | refine Z9w ?_)); refine Z9u ?_)
    refine awp_seq ?_
    refine awp_seq ?_
    refine Zbm (fun _ _ => rfl) ?_
    (repeat (refine st_q rfl rfl rfl ?_))
    (refine Z8y ?_; (repeat (first | refine Z9v rfl ?_ | refine Z9w ?_)); refine Z9u ?_)
    refine Z8h ?_
    refine Zaa (fun m F σ' => ∃ (j : Nat), F = fset 1 (some (.slc 5 (Zm5 rows) false)) (fset 2 (some (.iptr (Zlo t))) (fset 7 (some (.slc 9 ((Zm4 t).map encR) false)) (fset 8 (some (.int .i64 (j : Int))) Z27))) ∧
      σ = σ' ∧ j ≤ rows.length ∧ rowsE t (rows.drop j) = rowsE t rows ∧ m = rows.length - j) (n := rows.length) ⟨0, rfl, rfl, by omega, rfl, rfl⟩ ?_
    rintro m F σ' ⟨j, rfl, rfl, hj, hE, rfl⟩
    (repeat (first | refine st_q rfl rfl rfl ?_ | (refine Z8y ?_; (repeat (first | refine Z9v rfl ?_ | refine Z9w ?_)); refine Z9u ?_) | refine awp_seq ?_ | refine Zbm (fun _ _ => rfl) ?_))
    rw [show ((Zm5 rows).length : Int) = (rows.length : Int) by rw [Zm9]]
    refine Za3 (p := (j : Int) < (rows.length : Int)) rfl (fun h5 => ?_) (fun h5 => ?_)
    · have hjl : j < rows.length := by omega
      have hxv : (Zm5 rows)[((j : Nat) : Int).toNat]? = some (encV rows[j]) := Zma (by rw [Int.toNat_natCast, List.getElem?_eq_getElem hjl])
      have hcv := Ztz rows[j] (hr _ (List.getElem_mem hjl)) t hTok
      rw [Zm7] at hxv
      simp only [Zm7, Zlp] at hcv
      rw [Z1i7 t hjl, rowE] at hE
      refine Zbn (fun _ _ => rfl) ?_
      refine awp_seq ?_
      refine Z8h ?_
      refine Z9z ?_
      (repeat (refine st_q rfl rfl rfl ?_))
      refine Z93 rfl (by omega) hxv ?_
      (repeat (refine st_q rfl rfl rfl ?_))
      refine Z9t rfl (hcv _) ?_
      (repeat (refine st_q rfl rfl rfl ?_))
      (refine Z8y ?_; (repeat (first | refine Z9v rfl ?_ | refine Z9w ?_)); refine Z9u ?_)
      generalize vchk t rows[j] = x at hE
      by_cases hx : x = 0
      · subst hx
        cases hn : rows[j].null with
        | true =>
          rw [hn] at hE
          simp at hE
          (repeat (first | refine st_q rfl rfl rfl ?_ | refine Z8v rfl (st_q rfl rfl rfl ?_) | refine awp_seq ?_ | refine Zbm (fun _ _ => rfl) ?_))
          refine Z8v rfl (Z93 rfl (by omega) hxv ?_)
          (repeat (first | refine st_q rfl rfl rfl ?_ | refine Z8v rfl (st_q rfl rfl rfl ?_)))
          rw [hn]
          (repeat (first | refine st_q rfl rfl rfl ?_ | (refine Z8y ?_; (repeat (first | refine Z9v rfl ?_ | refine Z9w ?_)); refine Z9u ?_) | refine awp_seq ?_ | refine Zbm (fun _ _ => rfl) ?_ | refine Kc1 rfl ?_))
          refine Z8d ?_
          rw [← hE, if_pos (by decide)] at hX
          subst hX
          exact Zau rfl (VRle.tup (VRle.cons (VRle.nilF _ _) (VRle.refl _))) (HSub.refl _) ⟨rfl, rfl⟩
        | false =>
          rw [hn] at hE
          simp at hE
          (repeat (first | refine st_q rfl rfl rfl ?_ | refine Z8v rfl (st_q rfl rfl rfl ?_) | refine awp_seq ?_ | refine Zbm (fun _ _ => rfl) ?_))
          refine Z8v rfl (Z93 rfl (by omega) hxv ?_)
          (repeat (first | refine st_q rfl rfl rfl ?_ | refine Z8v rfl (st_q rfl rfl rfl ?_)))
          rw [hn]
          (repeat (first | refine st_q rfl rfl rfl ?_ | (refine Z8y ?_; (repeat (first | refine Z9v rfl ?_ | refine Z9w ?_)); refine Z9u ?_) | refine awp_seq ?_ | refine Zbm (fun _ _ => rfl) ?_ | refine Zbn (fun _ _ => rfl) ?_ | refine Kc2 rfl ?_))
          (refine Z9y (keep := [1, 2, 7, 8]) ?_; ((repeat (first | refine Z9v rfl ?_ | refine Z9w ?_)); refine Z9u ?_))
          refine Zbp ?_
          (repeat (refine st_q rfl rfl rfl ?_))
          rw [Kwr j (by omega)]
          (refine Z8y ?_; (repeat (first | refine Z9v rfl ?_ | refine Z9w ?_)); refine Z9u ?_)
          exact ⟨_, rows.length - (j + 1), HSub.refl _, ⟨j + 1, rfl, rfl, by omega, hE, rfl⟩, by omega⟩
      · have hx2 : ¬ (x = 0 ∧ rows[j].null = true) := fun h => hx h.1
        rw [if_neg hx2, if_pos hx] at hE
        (repeat (first | refine st_q rfl rfl rfl ?_ | refine awp_seq ?_ | refine Zbm (fun _ _ => rfl) ?_))
        (rw [decide_eq_false (p := ((x : Nat) : Int) = 0) (by omega)])
        (repeat (first | refine st_q rfl rfl rfl ?_ | refine Z8w rfl ?_ | (refine Z8y ?_; (repeat (first | refine Z9v rfl ?_ | refine Z9w ?_)); refine Z9u ?_) | refine awp_seq ?_ | refine Zbm (fun _ _ => rfl) ?_ | refine Zbn (fun _ _ => rfl) ?_ | refine Kc2 rfl ?_))
        (rw [decide_eq_true (p := ((x : Nat) : Int) ≠ 0) (by omega)])
        (repeat (first | refine st_q rfl rfl rfl ?_ | (refine Z8y ?_; (repeat (first | refine Z9v rfl ?_ | refine Z9w ?_)); refine Z9u ?_) | refine awp_seq ?_ | refine Zbm (fun _ _ => rfl) ?_ | refine Kc1 rfl ?_))
        refine Z8d ?_
        rw [← hE, if_pos hx] at hX
        subst hX
        exact Zau rfl (VRle.tup (VRle.cons (VRle.nilF _ _) (VRle.refl _))) (HSub.refl _) ⟨rfl, rfl⟩
    · rw [List.drop_of_length_le (by omega), rowsE] at hE
      rw [if_neg (by omega)] at hX
      have hok := Z1i8 hE.symm
      have hat := Zym t h0
      have hn100 : (Zm4 t).length ≤ 100 := by
        rw [Zm4, if_pos h0, Zm1]
        have := (Znd t _ _ h0).2.2
        omega
      (repeat (first | refine st_q rfl rfl rfl ?_ | refine awp_seq ?_ | refine Zbm (fun _ _ => rfl) ?_ | refine Zbo (fun _ _ => rfl) ?_))
      rw [List.length_map]
      generalize Zm4 t = l at *
      refine Z9l rfl (Kfi rfl) (by omega) (by omega) (by omega) (by omega) fun b hb => ?_
      rw [Int.toNat_natCast]
      (repeat (refine st_q rfl rfl rfl ?_))
      (refine Z8y ?_; (repeat (first | refine Z9v rfl ?_ | refine Z9w ?_)); refine Z9u ?_)
      refine awp_seq ?_
      refine awp_seq ?_
      refine Zbm (fun _ _ => rfl) ?_
      (repeat (refine st_q rfl rfl rfl ?_))
      (refine Z8y ?_; (repeat (first | refine Z9v rfl ?_ | refine Z9w ?_)); refine Z9u ?_)
      refine Z8h ?_
      generalize hY : Z1i5 l rows (List.replicate l.length col0) = Y at hX
      have hz : ∀ x ∈ List.replicate l.length col0, x.Sm := fun x hx => by
        rw [List.eq_of_mem_replicate hx]
        exact ⟨by simp [col0], by simp [col0], by simp [col0], by simp [col0], by simp [col0]⟩
      refine Zaa (fun m F σ' => ∃ (j : Nat) (ws : List Z0) (cs : List Col) (β : Zc), F = fset 1 (some (.slc 5 (Zm5 rows) false)) (fset 7 (some (.slc 9 (l.map encR) false)) (fset 10 (some (.arr 5 b 0 l.length)) (fset 11 (some (.int .i64 (j : Int))) Z27))) ∧
        (b, Zb.cells 5 ws) :: (β ++ σ) = σ' ∧ Zy9 ws cs β ∧ cs.length = l.length ∧ (∀ x ∈ cs, x.Sm) ∧ j ≤ rows.length ∧ Z1i5 l (rows.drop j) cs = Y ∧ m = rows.length - j) (n := rows.length)
        ⟨0, _, _, [], rfl, rfl, Zy9.nil l.length, List.length_replicate, hz, by omega, hY, rfl⟩ ?_
      rintro m F σ' ⟨j, ws, cs, β, rfl, rfl, hG, hcl, hS, hj, hYj, rfl⟩
      (repeat (first | refine st_q rfl rfl rfl ?_ | (refine Z8y ?_; (repeat (first | refine Z9v rfl ?_ | refine Z9w ?_)); refine Z9u ?_) | refine awp_seq ?_ | refine Zbm (fun _ _ => rfl) ?_))
      rw [show ((Zm5 rows).length : Int) = (rows.length : Int) by rw [Zm9]]
      refine Za3 (p := (j : Int) < (rows.length : Int)) rfl (fun h5 => ?_) (fun h5 => ?_)
      · have hjl : j < rows.length := by omega
        have hm := List.getElem_mem hjl
        have hxv : (Zm5 rows)[((j : Nat) : Int).toNat]? = some (encV rows[j]) := Zma (by rw [Int.toNat_natCast, List.getElem?_eq_getElem hjl])
        have hput := c_put l rows[j] (hr _ hm) t 0 hat hTok (hok _ hm).1 ws cs β b σ hG hcl (by omega) hS
        rw [Zm7] at hxv
        rw [Zm7, hcl] at hput
        rw [List.drop_eq_getElem_cons hjl, Z1i5] at hYj
        refine Zbn (fun _ _ => rfl) ?_
        refine awp_seq ?_
        refine Z8h ?_
        refine Z9z ?_
        (repeat (refine st_q rfl rfl rfl ?_))
        refine Z93 rfl (by omega) hxv ?_
        (repeat (refine st_q rfl rfl rfl ?_))
        obtain ⟨wsx, βx, hx⟩ := Zy9.ex (putF l 0 rows[j] cs).1
        refine Z9s rfl hput ⟨_, _, wsx, βx, hx, rfl, rfl⟩ ?_
        rintro r σ2 ⟨ws2, β5, hG2, rfl, rfl⟩
        (repeat (refine st_q rfl rfl rfl ?_))
        (refine Z8y ?_; (repeat (first | refine Z9v rfl ?_ | refine Z9w ?_)); refine Z9u ?_)
        have hlen2 := Z1i3 l rows[j] 0 cs
        have hSm2 := Z1i4 l rows[j] 0 cs hS
        generalize putF l 0 rows[j] cs = pr at hYj hG2 hlen2 hSm2
        obtain ⟨cs2, ok⟩ := pr
        cases ok with
        | true =>
          rw [if_pos rfl] at hYj
          (repeat (first | refine Zbn (fun _ _ => rfl) ?_ | refine Kc2 rfl ?_))
          refine Zbp ?_
          (repeat (refine st_q rfl rfl rfl ?_))
          rw [Kwr j (by omega)]
          (refine Z8y ?_; (repeat (first | refine Z9v rfl ?_ | refine Z9w ?_)); refine Z9u ?_)
          exact ⟨_, rows.length - (j + 1), HSub.refl _, ⟨j + 1, ws2, cs2, β5, rfl, rfl, hG2, by rw [← hcl, ← hlen2], hSm2, by omega, hYj, rfl⟩, by omega⟩
        | false =>
          rw [if_neg (by simp)] at hYj
          subst hYj
          rw [if_neg (by simp)] at hX
          subst hX
          (repeat (first | refine st_q rfl rfl rfl ?_ | (refine Z8y ?_; (repeat (first | refine Z9v rfl ?_ | refine Z9w ?_)); refine Z9u ?_) | refine awp_seq ?_ | refine Zbm (fun _ _ => rfl) ?_ | refine Kc1 rfl ?_))
          refine Z8d ?_
          exact Zau rfl (VRle.tup (VRle.cons (VRle.nilF _ _) (VRle.refl _))) (HSub.of_sublist (List.Sublist.cons _ (List.sublist_append_right _ _))) ⟨rfl, rfl⟩
      · rw [List.drop_of_length_le (by omega), Z1i5] at hYj
        subst hYj
        rw [if_pos rfl] at hX
        subst hX
        (repeat (first | refine st_q rfl rfl rfl ?_ | (refine Z8y ?_; (repeat (first | refine Z9v rfl ?_ | refine Z9w ?_)); refine Z9u ?_) | refine awp_seq ?_ | refine Zbm (fun _ _ => rfl) ?_ | refine Zbo (fun _ _ => rfl) ?_))
        refine Zby (by simpa using hG.freeze [] (by simp) b σ) ?_
        have e : l.length = (cs.map encC).length := by simp [hcl]
        rw [e]
        refine Zb1 (d := 4) rfl ?_
        refine Z8d ?_
        exact Kar rfl ⟨rfl, rfl⟩
  · rw [Z1i6, if_pos h0] at hX
    subst hX
    refine Za3 (p := ((Zlx t : Nat) : Int) ≠ 0) rfl (fun _ => ?_) (fun h => absurd (by omega) h)
    (repeat (first | refine st_q rfl rfl rfl ?_ | (refine Z8y ?_; (repeat (first | refine Z9v rfl ?_ | refine Z9w ?_)); refine Z9u ?_) | refine awp_seq ?_ | refine Zbm (fun _ _ => rfl) ?_))
    refine Z8d ?_
    exact Zau rfl (VRle.tup (VRle.cons (VRle.nilF _ _) (VRle.refl _))) (HSub.refl _) ⟨rfl, rfl⟩
end Go.Abs
namespace Go.Abs
open Go Go.Proofs
set_option linter.unusedVariables false
set_option linter.unusedSimpArgs false
set_option maxHeartbeats 4000000
attribute [local irreducible] AWp aops KP
structure Stt.Fit (s : Stt) : Prop where
  min : s.min.Cl
  max : s.max.Cl
  sum : -9223372036854775808 ≤ s.sum ∧ s.sum ≤ 9223372036854775807
def Z1hw (a b : Stt) : Stt := ⟨IntKind.wrap .i64 (a.count + b.count), a.null || b.null, false, vl0, vl0, a.sums && b.sums, 0⟩
def Z1hx (a b : Stt) : Stt := if (Z1hw a b).sums = true then Zxq (Zxq (Z1hw a b) a.sum) b.sum else Z1hw a b
def Z1hy (k : Int) : List Stt → Stt → Stt
  | [], s => s
  | x :: xs, s => Z1hy k xs (if x.has = true then Zxr k s x.min x.max else s)
def Z1hz (k : Int) (a b : Stt) : Stt := Z1hy k [a, b] (Z1hx a b)
end Go.Abs
namespace Go.Abs
open Go Go.Proofs
set_option linter.unusedVariables false
set_option linter.unusedSimpArgs false
set_option maxHeartbeats 4000000
attribute [local irreducible] AWp aops KP
def sameV (a b : Vl) : Bool := (a.null == b.null) && (decide (a.i = b.i) && (decide (a.n = b.n) && (decide (a.b = b.b) && decide ((a.kids.length : Int) = (b.kids.length : Int)))))
def sameS (a b : Stt) : Bool := decide (a.count = b.count) && ((a.null == b.null) && ((a.has == b.has) && (sameV a.min b.min && (sameV a.max b.max && ((a.sums == b.sums) && decide (a.sum = b.sum))))))
end Go.Abs
namespace Go.Abs
open Go Go.Proofs
set_option linter.unusedVariables false
set_option linter.unusedSimpArgs false
theorem Z1jr (l : List Nd) (p : Nat → Col → Prop) (q : Vl → Prop) (hq : ∀ v, q v → ∀ k ∈ v.kids, q k) (h0 : ∀ j c, p j c → p j (Zyg false c))
    (h1 : ∀ j c v, p j c → q v → v.null = false → p j (addC (Zyh l j) v c)) : ∀ (v : Vl) (at_ : Nat) (cs : List Col), q v → (∀ j c, cs[j]? = some c → p j c) → ∀ j c, (putF l at_ v cs).1[j]? = some c → p j c := by
  refine Vl.ind fun nu i n bs vks ih at_ cs hv h => ?_
  have hL : ∀ (vks : List Vl), (∀ v ∈ vks, q v) → (∀ v ∈ vks, ∀ (at_ : Nat) (cs : List Col), q v → (∀ j c, cs[j]? = some c → p j c) → ∀ j c, (putF l at_ v cs).1[j]? = some c → p j c) →
      ∀ (j : Nat) (cs : List Col), (∀ j c, cs[j]? = some c → p j c) → ∀ j' c, (putL l at_ i j vks cs).1[j']? = some c → p j' c := by
    intro vks
    induction vks with
    | nil => intro _ _ j cs h; exact h
    | cons v vs ih2 =>
      intro hqs hv j cs h
      rw [putL]
      split
      · exact ih2 (fun v h => hqs v (List.mem_cons_of_mem _ h)) (fun v h => hv v (List.mem_cons_of_mem _ h)) _ _ (hv v (by simp) _ _ (hqs v (by simp)) h)
      · exact hv v (by simp) _ _ (hqs v (by simp)) h
  have Ze : ∀ f : Col → Col, (∀ c, p at_ c → p at_ (f c)) → ∀ j c, (cs.set at_ (f (cs.getD at_ col0)))[j]? = some c → p j c := by
    intro f hf j c e
    rw [List.getElem?_set] at e
    split at e
    · rename_i hj
      subst hj
      split at e
      · rename_i hlt
        simp only [Option.some.injEq] at e
        subst e
        rw [List.getD_eq_getElem?_getD, List.getElem?_eq_getElem hlt, Option.getD_some]
        exact hf _ (h _ _ (List.getElem?_eq_getElem hlt))
      · cases e
    · exact h j c e
  rw [putF]
  split
  · exact h
  · split
    · exact Ze (Zyg false) (fun c hc => h0 _ c hc)
    · rename_i hnu
      exact hL vks (fun k hk => hq _ hv k hk) (fun v hm at_ cs => ih v hm at_ cs) _ _ (Ze (fun c => addC (Zyh l at_) (.mk nu i n bs vks) c) (fun c hc => h1 _ c _ hc hv (by simpa [Vl.null] using hnu)))
theorem Z1js (l : List Nd) (p : Nat → Col → Prop) (q : Vl → Prop) (hq : ∀ v, q v → ∀ k ∈ v.kids, q k) (h0 : ∀ j c, p j c → p j (Zyg false c))
    (h1 : ∀ j c v, p j c → q v → v.null = false → p j (addC (Zyh l j) v c)) : ∀ (rows : List Vl) (cs : List Col), (∀ v ∈ rows, q v) → (∀ j c, cs[j]? = some c → p j c) → ∀ j c, (Z1i5 l rows cs).1[j]? = some c → p j c
  | [], cs, _, h => h
  | v :: vs, cs, hv, h => by
    rw [Z1i5]
    split
    · exact Z1js l p q hq h0 h1 vs _ (fun v hm => hv v (List.mem_cons_of_mem _ hm)) (Z1jr l p q hq h0 h1 v 0 cs (hv v (by simp)) h)
    · exact Z1jr l p q hq h0 h1 v 0 cs (hv v (by simp)) h
theorem Z1jt (l : List Nd) : ∀ (rows : List Vl) (cs : List Col), (Z1i5 l rows cs).1.length = cs.length
  | [], cs => rfl
  | v :: vs, cs => by
    rw [Z1i5]
    split
    · rw [Z1jt l vs, Z1i3]
    · exact Z1i3 l v 0 cs
theorem Z1ju (l : List Nd) : ∀ (rows : List Vl) (cs : List Col), (∀ c ∈ cs, c.Sm) → ∀ c ∈ (Z1i5 l rows cs).1, c.Sm
  | [], cs, h => h
  | v :: vs, cs, h => by
    rw [Z1i5]
    split
    · exact Z1ju l vs _ (Z1i4 l v 0 cs h)
    · exact Z1i4 l v 0 cs h
inductive Vl.Sht : Vl → Prop
  | mk {v : Vl} (h1 : v.b.length ≤ 4096) (h2 : -9223372036854775808 ≤ v.i ∧ v.i ≤ 9223372036854775807) (h : ∀ k ∈ v.kids, Vl.Sht k) : Vl.Sht v
theorem Z1jv (t : Ty) (i : Int) : ∀ (ks : List Vl) (j : Nat), Zmg t i j ks = 0 → ∀ k ∈ ks, ∃ u, vchk u k = 0
  | [], _, _, k, hk => by cases hk
  | v :: vs, j, h, k, hk => by
    rw [Zmg] at h
    split at h
    · omega
    · split at h
      · rename_i h1; exact absurd h h1
      · rename_i h1
        rcases List.mem_cons.1 hk with e | e
        · rw [e]; exact ⟨_, by simpa using h1⟩
        · exact Z1jv t i vs _ h k e
theorem Z1jw : ∀ (v : Vl) (t : Ty), v.Fit → vchk t v = 0 → v.Sht := by
  refine Vl.ind fun nu i n bs vks ih t hf h => ?_
  cases hf with
  | mk hi hbl hkl hks =>
  rw [vchk] at h
  split at h
  · split at h
    · omega
    · rename_i h1
      simp only [not_or, Decidable.not_not] at h1
      obtain ⟨_, _, hb, hk⟩ := h1
      have hk' : vks = [] := List.length_eq_zero_iff.1 hk
      subst hb hk'
      exact .mk (by simp [Vl.b]) hi (by simp [Vl.kids])
  · split at h
    · rename_i h1; exact absurd h h1
    · rename_i h1
      have h1' : ownV t i n bs vks.length = 0 := by simpa using h1
      refine .mk ?_ hi fun k hk => ?_
      · show bs.length ≤ 4096
        unfold ownV at h1'
        split at h1'
        · omega
        · split at h1'
          · omega
          · rename_i h2
            omega
      · obtain ⟨u, hu⟩ := Z1jv t i vks _ h k hk
        exact ih k hk u (hks k hk) hu
structure Col.Rng (c : Col) : Prop where
  int : ∀ i ∈ c.ints, -9223372036854775808 ≤ i ∧ i ≤ 9223372036854775807
  text : ∀ t ∈ c.texts, t.length ≤ 4096
theorem Z1jx {α : Type} {p : α → Prop} {l : List α} {a : α} (h : ∀ x ∈ l, p x) (ha : p a) : ∀ x ∈ l ++ [a], p x := fun x hx => by
  rcases List.mem_append.1 hx with e | e
  · exact h x e
  · rw [List.mem_singleton.1 e]; exact ha
theorem Z1jy {c : Col} {k : Int} {v : Vl} (h : c.Rng) (hv : v.Sht) : (addC k v c).Rng := by
  cases hv with
  | mk h1 h2 _ =>
  obtain ⟨g1, g2⟩ := h
  have h3 : (Zye k v (Zyg true c)).Rng := by
    unfold Zye Zyg
    split
    · exact ⟨g1, Z1jx g2 h1⟩
    · split
      · exact ⟨g1, g2⟩
      · split
        · exact ⟨g1, g2⟩
        · split
          · exact ⟨Z1jx g1 h2, g2⟩
          · exact ⟨g1, g2⟩
  unfold addC Zyf
  split
  · exact ⟨h3.1, h3.2⟩
  · exact h3
structure Col.Good (k : Int) (c : Col) : Prop where
  texts : c.texts.length = if Zmb k = true then c.here.count true else 0
  ints : c.ints.length = if Zmb k = true ∨ k = 10 ∨ k = 11 ∨ k = 12 then 0 else c.here.count true
  ns : c.ns.length = if k = 9 then c.here.count true else 0
  lens : c.lens.length = if k = 10 ∨ k = 11 then c.here.count true else 0
theorem Z1jz {k : Int} (h : Zmb k = true) : k = 7 ∨ k = 16 ∨ k = 17 ∨ k = 8 := by
  simp only [Zmb, Bool.or_eq_true, decide_eq_true_eq] at h
  omega
theorem Z1k0 {k : Int} {c : Col} (h : c.Good k) : (Zyg false c).Good k := by
  obtain ⟨h1, h2, h3, h4⟩ := h
  constructor <;> simp only [Zyg, List.count_append, List.count_singleton] <;> simpa
theorem Z1k1 {k : Int} {c : Col} {v : Vl} (h : c.Good k) : (addC k v c).Good k := by
  obtain ⟨h1, h2, h3, h4⟩ := h
  have hc : (c.here ++ [true]).count true = c.here.count true + 1 := by simp
  cases ht : Zmb k with
  | true =>
    have hk := Z1jz ht
    rw [if_pos ht] at h1
    rw [if_pos (.inl ht)] at h2
    rw [if_neg (by omega)] at h3 h4
    have e : addC k v c = ⟨c.here ++ [true], c.ints, c.ns, c.texts ++ [v.b], c.lens⟩ := by rw [addC, Zyf, if_neg (by omega), Zye, if_pos ht]; rfl
    rw [e]
    exact ⟨by rw [if_pos ht, hc]; simp [h1], by rw [if_pos (.inl ht)]; exact h2, by rw [if_neg (by omega)]; exact h3, by rw [if_neg (by omega)]; exact h4⟩
  | false =>
    have hf : ¬ Zmb k = true := by simp [ht]
    rw [if_neg hf] at h1
    by_cases h10 : k = 10
    · rw [if_pos (.inr (.inl h10))] at h2
      rw [if_neg (by omega)] at h3
      rw [if_pos (.inl h10)] at h4
      have e : addC k v c = ⟨c.here ++ [true], c.ints, c.ns, c.texts, c.lens ++ [(v.kids.length : Int)]⟩ := by rw [addC, Zyf, if_neg (by omega), Zye, if_neg hf, if_pos h10]; rfl
      rw [e]
      exact ⟨by rw [if_neg hf]; exact h1, by rw [if_pos (.inr (.inl h10))]; exact h2, by rw [if_neg (by omega)]; exact h3, by rw [if_pos (.inl h10), hc]; simp [h4]⟩
    · by_cases h11 : k = 11
      · rw [if_pos (.inr (.inr (.inl h11)))] at h2
        rw [if_neg (by omega)] at h3
        rw [if_pos (.inr h11)] at h4
        have e : addC k v c = ⟨c.here ++ [true], c.ints, c.ns, c.texts, c.lens ++ [((v.kids.length / 2 : Nat) : Int)]⟩ := by rw [addC, Zyf, if_neg (by omega), Zye, if_neg hf, if_neg h10, if_pos h11]; rfl
        rw [e]
        exact ⟨by rw [if_neg hf]; exact h1, by rw [if_pos (.inr (.inr (.inl h11)))]; exact h2, by rw [if_neg (by omega)]; exact h3, by rw [if_pos (.inr h11), hc]; simp [h4]⟩
      · rw [if_neg (by omega)] at h4
        by_cases h12 : k = 12
        · rw [if_pos (.inr (.inr (.inr h12)))] at h2
          rw [if_neg (by omega)] at h3
          have e : addC k v c = ⟨c.here ++ [true], c.ints, c.ns, c.texts, c.lens⟩ := by rw [addC, Zyf, if_neg (by omega), Zye, if_neg hf, if_neg h10, if_neg h11, if_neg (by omega)]; rfl
          rw [e]
          exact ⟨by rw [if_neg hf]; exact h1, by rw [if_pos (.inr (.inr (.inr h12)))]; exact h2, by rw [if_neg (by omega)]; exact h3, by rw [if_neg (by omega)]; exact h4⟩
        · have hn : ¬ (Zmb k = true ∨ k = 10 ∨ k = 11 ∨ k = 12) := by rintro (h | h | h | h) <;> simp_all
          rw [if_neg hn] at h2
          by_cases h9 : k = 9
          · rw [if_pos h9] at h3
            have e : addC k v c = ⟨c.here ++ [true], c.ints ++ [v.i], c.ns ++ [v.n], c.texts, c.lens⟩ := by rw [addC, Zyf, if_pos h9, Zye, if_neg hf, if_neg h10, if_neg h11, if_pos h12]; rfl
            rw [e]
            exact ⟨by rw [if_neg hf]; exact h1, by rw [if_neg hn, hc]; simp [h2], by rw [if_pos h9, hc]; simp [h3], by rw [if_neg (by omega)]; exact h4⟩
          · rw [if_neg h9] at h3
            have e : addC k v c = ⟨c.here ++ [true], c.ints ++ [v.i], c.ns, c.texts, c.lens⟩ := by rw [addC, Zyf, if_neg h9, Zye, if_neg hf, if_neg h10, if_neg h11, if_pos h12]; rfl
            rw [e]
            exact ⟨by rw [if_neg hf]; exact h1, by rw [if_neg hn, hc]; simp [h2], by rw [if_neg h9]; exact h3, by rw [if_neg (by omega)]; exact h4⟩
theorem Z1k2 (k : Int) : col0.Good k := by constructor <;> simp [col0]
def getR (k : Int) (c : Col) (j : Nat) : Vl :=
  if Zmb k = true then .mk false 0 0 (c.texts.getD j []) []
  else if Zlt k = true then .mk false (c.ints.getD j 0) (if k = 9 then c.ns.getD j 0 else 0) [] []
  else vl0
def getRA (k : Int) (c : Col) (j : Nat) : Int :=
  if Zmb k = true then ((c.texts.getD j []).length : Int) else if Zlt k = true then c.ints.getD j 0 else 0
def stepR (k : Int) (v : Vl) (add : Int) (s : Stt) : Stt := Zy1 k v add { s with count := s.count + 1 }
def Z1k3 (k : Int) (c : Col) : List Bool → Nat → Stt → Stt
  | [], _, s => s
  | true :: bs, j, s => Z1k3 k c bs (j + 1) (stepR k (getR k c j) (getRA k c j) s)
  | false :: bs, j, s => Z1k3 k c bs j s
def refOf (k : Int) (c : Col) : Stt := Z1k3 k c c.here 0 (of0 k c 0)
theorem Z1pp {k : Int} (h : Zmb k = true) : Zlt k = true := by
  rcases Z1jz h with rfl | rfl | rfl | rfl <;> rfl
end Go.Abs

