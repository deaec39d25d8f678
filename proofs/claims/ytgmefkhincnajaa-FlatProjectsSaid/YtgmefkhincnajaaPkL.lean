/- Part L of a proof: merged by program. -/
import Derived.Test.YtgmefkhincnajaaPkK
import Derived.Test.YtgmefkhincnajaaProg
import Derived.KernelRfl
namespace Go.Abs
open Go
def Z1s3 : List Z2a := [
  ⟨some 6,.mov,[.c (.slc 0 [] true)],none⟩]
def Z1s4 : List Z2a := [
  ⟨some 11,.mov,[.t 0],none⟩,⟨some 12,.lens,[.t 11],none⟩,⟨some 13,(.mks 1 8 (.int .i64 0)),[.t 12,.t 12],none⟩,⟨some 7,.mov,[.t 13],none⟩]
def Z1s5 : List Z2a := [
  ⟨some 14,.mov,[.t 0],none⟩,⟨some 15,.lens,[.t 14],none⟩,⟨some 16,(.bin .gtr),[.t 15,.c (.int .i64 0)],none⟩]
def Z1s6 : List Z2a := [
  ⟨some 17,.mov,[.t 7],none⟩,⟨some 18,.mov,[.t 2],none⟩,⟨some 19,(.iad 1),[.t 17,.c (.int .i64 0)],none⟩,⟨none,(.store 1),[.t 19,.t 18],none⟩]
def Z1s7 : List Z2a := [
  ⟨some 20,.mov,[.t 0],none⟩,⟨some 21,.lens,[.t 20],none⟩,⟨some 22,.mov,[.t 1],none⟩,⟨some 23,.lens,[.t 22],none⟩,⟨some 24,.min,[.t 21,.t 23],none⟩,⟨some 25,.mov,[.c (.int .i64 0)],none⟩]
def Z1s8 : List Z2a := [
  ⟨some 26,(.bin .lss),[.t 25,.t 24],none⟩]
def Z1s9 : List Z2a := [
  ⟨some 27,.mov,[.t 25],none⟩,⟨some 8,.mov,[.t 27],none⟩]
def Z1sa : List Z2a := [
  ⟨some 28,.mov,[.t 0],none⟩,⟨some 29,.mov,[.t 8],none⟩,⟨some 30,(.iad 8),[.t 28,.t 29],none⟩,⟨some 31,(.fad 1),[.t 30],none⟩,⟨some 32,(.load false 1),[.t 31],none⟩,⟨some 33,.lens,[.t 32],none⟩,⟨some 34,.mov,[.c (.int .i64 0)],none⟩]
def Z1sb : List Z2a := [
  ⟨some 35,(.bin .lss),[.t 34,.t 33],none⟩]
def Z1sc : List Z2a := [
  ⟨some 36,.mov,[.t 34],none⟩,⟨some 37,(.iad 1),[.t 32,.t 34],none⟩,⟨some 38,(.load false 1),[.t 37],none⟩,⟨some 9,.mov,[.t 36],none⟩,⟨some 10,.mov,[.t 38],none⟩]
def Z1sd : List Z2a := [
  ⟨some 39,.mov,[.t 10],none⟩,⟨some 40,(.bin .geq),[.t 39,.c (.int .i64 0)],none⟩,⟨some 41,.mov,[.t 40],none⟩,⟨some 42,.mov,[.t 10],some (41,true)⟩,⟨some 43,.mov,[.t 7],some (41,true)⟩,⟨some 44,.lens,[.t 43],some (41,true)⟩,⟨some 45,(.bin .lss),[.t 42,.t 44],some (41,true)⟩,⟨some 46,.pick,[.t 41,.t 45,.c (.bool false)],none⟩]
def Z1se : List Z2a := [
  ⟨some 47,.mov,[.t 7],none⟩,⟨some 48,.mov,[.t 10],none⟩,⟨some 49,.mov,[.t 0],none⟩,⟨some 50,.mov,[.t 8],none⟩,⟨some 51,(.iad 8),[.t 49,.t 50],none⟩,⟨some 52,(.load true 8),[.t 51],none⟩,⟨some 53,.mov,[.t 1],none⟩,⟨some 54,.mov,[.t 8],none⟩,⟨some 55,(.iad 5),[.t 53,.t 54],none⟩,⟨some 56,(.load true 5),[.t 55],none⟩,⟨some 57,.mov,[.t 9],none⟩,⟨some 58,(.call Zex),[.t 52,.t 56,.t 57],none⟩,⟨some 59,(.iad 1),[.t 47,.t 48],none⟩,⟨none,(.store 1),[.t 59,.t 58],none⟩]
def Z1sf : List Z2a := [
  ⟨some 60,(.bin .add),[.t 34,.c (.int .i64 1)],none⟩,⟨some 34,.mov,[.t 60],none⟩]
def Z1sg : Z2b := (.seq (.region Z1sb [0,1,7,8,24,25,32,33,34,35]) (.seq (.cond (.t 35) .skip (.exit 2)) (.seq (.block 3 (.seq (.region Z1sc [0,1,7,8,9,10,24,25,32,33,34]) (.seq (.region Z1sd [0,1,7,8,9,10,24,25,32,33,34,46]) (.cond (.t 46) (.region Z1se [0,1,7,8,24,25,32,33,34]) .skip)))) (.region Z1sf [0,1,7,8,24,25,32,33,34]))))
def Z1sh : List Z2a := [
  ⟨some 61,(.bin .add),[.t 25,.c (.int .i64 1)],none⟩,⟨some 25,.mov,[.t 61],none⟩]
def Z1si : Z2b := (.seq (.region Z1s8 [0,1,7,24,25,26]) (.seq (.cond (.t 26) .skip (.exit 0)) (.seq (.block 1 (.seq (.region Z1s9 [0,1,7,8,24,25]) (.seq (.region Z1sa [0,1,7,8,24,25,32,33,34]) (.block 2 (.loop Z1sg))))) (.region Z1sh [0,1,7,24,25]))))
def Z1sj : List Z2a := [
  ⟨some 62,.mov,[.t 7],none⟩,⟨some 6,.mov,[.t 62],none⟩]
def Z1sk : Z2y := ⟨63,(.seq (.region Z1s3 [0,1,2]) (.seq (.region Z1s4 [0,1,2,7]) (.seq (.seq (.region Z1s5 [0,1,2,7,16]) (.cond (.t 16) (.region Z1s6 [0,1,7]) .skip)) (.seq (.seq (.region Z1s7 [0,1,7,24,25]) (.block 0 (.loop Z1si))) (.seq (.region Z1sj [6]) .ret))))),[.t 6]⟩
def Z1sl : List Z2a := [
  ⟨some 4,.mov,[.c (.bool false)],none⟩]
def Z1sm : List Z2a := [
  ⟨some 8,.mov,[.t 0],none⟩,⟨some 9,.lens,[.t 8],none⟩,⟨some 10,.mov,[.c (.int .i64 0)],none⟩]
def Z1sn : List Z2a := [
  ⟨some 11,(.bin .lss),[.t 10,.t 9],none⟩]
def Z1so : List Z2a := [
  ⟨some 12,.mov,[.t 10],none⟩,⟨some 5,.mov,[.t 12],none⟩]
def Z1sp : List Z2a := [
  ⟨some 13,.mov,[.t 0],none⟩,⟨some 14,.mov,[.t 5],none⟩,⟨some 15,(.iad 8),[.t 13,.t 14],none⟩,⟨some 16,(.fad 1),[.t 15],none⟩,⟨some 17,(.load false 1),[.t 16],none⟩,⟨some 18,.lens,[.t 17],none⟩,⟨some 19,.mov,[.c (.int .i64 0)],none⟩]
def Z1sq : List Z2a := [
  ⟨some 20,(.bin .lss),[.t 19,.t 18],none⟩]
def Z1sr : List Z2a := [
  ⟨some 21,(.iad 1),[.t 17,.t 19],none⟩,⟨some 22,(.load false 1),[.t 21],none⟩,⟨some 7,.mov,[.t 22],none⟩]
def Z1ss : List Z2a := [
  ⟨some 23,.mov,[.t 1],none⟩,⟨some 24,.mov,[.t 7],none⟩,⟨some 25,(.iad 1),[.t 23,.t 24],none⟩,⟨some 26,(.load false 1),[.t 25],none⟩,⟨some 27,.mov,[.t 26],none⟩,⟨some 28,.mov,[.t 1],some (27,true)⟩,⟨some 29,.mov,[.t 5],some (27,true)⟩,⟨some 30,(.iad 1),[.t 28,.t 29],some (27,true)⟩,⟨some 31,(.load false 1),[.t 30],some (27,true)⟩,⟨some 32,.unot,[.t 31],some (27,true)⟩,⟨some 33,.pick,[.t 27,.t 32,.c (.bool false)],none⟩,⟨some 34,.mov,[.t 33],none⟩,⟨some 35,.mov,[.t 1],some (34,false)⟩,⟨some 36,.mov,[.t 5],some (34,false)⟩,⟨some 37,(.iad 1),[.t 35,.t 36],some (34,false)⟩,⟨some 38,(.load false 1),[.t 37],some (34,false)⟩,⟨some 39,.mov,[.t 38],some (34,false)⟩,⟨some 40,.mov,[.t 1],some (39,true)⟩,⟨some 41,.mov,[.t 7],some (39,true)⟩,⟨some 42,(.iad 1),[.t 40,.t 41],some (39,true)⟩,⟨some 43,(.load false 1),[.t 42],some (39,true)⟩,⟨some 44,.unot,[.t 43],some (39,true)⟩,⟨some 45,.pick,[.t 39,.t 44,.c (.bool false)],some (34,false)⟩,⟨some 46,.mov,[.t 45],some (34,false)⟩,⟨some 47,.mov,[.t 0],some (46,true)⟩,⟨some 48,.mov,[.t 5],some (46,true)⟩,⟨some 49,(.iad 8),[.t 47,.t 48],some (46,true)⟩,⟨some 50,(.fad 0),[.t 49],some (46,true)⟩,⟨some 51,(.load false 1),[.t 50],some (46,true)⟩,⟨some 52,(.bin .neq),[.t 51,.c (.int .i64 12)],some (46,true)⟩,⟨some 53,.pick,[.t 46,.t 52,.c (.bool false)],some (34,false)⟩,⟨some 54,.pick,[.t 34,.c (.bool true),.t 53],none⟩]
def Z1st : List Z2a := [
  ⟨some 4,.mov,[.c (.bool false)],none⟩]
def Z1su : List Z2a := [
  ⟨some 55,(.bin .add),[.t 19,.c (.int .i64 1)],none⟩,⟨some 19,.mov,[.t 55],none⟩]
def Z1sv : Z2b := (.seq (.region Z1sq [0,1,5,9,10,17,18,19,20]) (.seq (.cond (.t 20) .skip (.exit 2)) (.seq (.block 3 (.seq (.region Z1sr [0,1,5,7,9,10,17,18,19]) (.seq (.region Z1ss [0,1,5,9,10,17,18,19,54]) (.cond (.t 54) (.seq (.region Z1st [4]) .ret) .skip)))) (.region Z1su [0,1,5,9,10,17,18,19]))))
def Z1sw : List Z2a := [
  ⟨some 56,(.bin .add),[.t 10,.c (.int .i64 1)],none⟩,⟨some 10,.mov,[.t 56],none⟩]
def Z1sx : Z2b := (.seq (.region Z1sn [0,1,9,10,11]) (.seq (.cond (.t 11) .skip (.exit 0)) (.seq (.block 1 (.seq (.region Z1so [0,1,5,9,10]) (.seq (.region Z1sp [0,1,5,9,10,17,18,19]) (.block 2 (.loop Z1sv))))) (.region Z1sw [0,1,9,10]))))
def Z1sy : List Z2a := [
  ⟨some 4,.mov,[.c (.bool true)],none⟩]
def Z1sz : Z2y := ⟨57,(.seq (.region Z1sl [0,1]) (.seq (.seq (.region Z1sm [0,1,9,10]) (.block 0 (.loop Z1sx))) (.seq (.region Z1sy [4]) .ret))),[.t 4]⟩
def Z1t0 : List Z2a := [
  ⟨some 4,(.alloc (.agg [(.bool false),(.int .i64 0),(.int .i64 0),(.slc 0 [] true),(.slc 0 [] true)])),[],none⟩]
def Z1t1 : List Z2a := [
  ⟨some 14,.mov,[.t 0],none⟩,⟨some 15,.nilc,[.t 14],none⟩,⟨some 16,(.fad 1),[.t 15],none⟩,⟨some 17,(.load false 1),[.t 16],none⟩,⟨some 18,.mov,[.t 1],none⟩,⟨some 19,(.iad 5),[.t 17,.t 18],none⟩,⟨some 20,(.load true 5),[.t 19],none⟩,⟨some 21,.mov,[.t 0],none⟩,⟨some 22,.nilc,[.t 21],none⟩,⟨some 23,(.fad 0),[.t 22],none⟩,⟨some 24,(.loadp false 1),[.t 23],none⟩,⟨some 25,.mov,[.t 1],none⟩,⟨some 26,(.iad 8),[.t 24,.t 25],none⟩,⟨some 27,(.loadp true 8),[.t 26],none⟩,⟨some 5,(.alloc (.agg [(.slc 0 [] true),(.slc 0 [] true),(.slc 0 [] true),(.slc 0 [] true),(.slc 0 [] true)])),[],none⟩,⟨some 6,(.alloc (.agg [(.int .i64 0),(.slc 0 [] true),(.slc 0 [] true),(.int .i64 0),(.int .i64 0),(.int .i64 0),(.int .i64 0),(.int .i64 0)])),[],none⟩,⟨none,(.store 5),[.t 5,.t 20],none⟩,⟨none,(.store 8),[.t 6,.t 27],none⟩]
def Z1t2 : List Z2a := [
  ⟨some 28,.mov,[.t 0],none⟩,⟨some 29,.nilc,[.t 28],none⟩,⟨some 30,(.fad 3),[.t 29],none⟩,⟨some 31,(.load false 1),[.t 30],none⟩,⟨some 32,.mov,[.t 1],none⟩,⟨some 33,(.iad 1),[.t 31,.t 32],none⟩,⟨some 34,(.load false 1),[.t 33],none⟩,⟨some 7,.mov,[.t 34],none⟩]
def Z1t3 : List Z2a := [
  ⟨some 35,.mov,[.t 0],none⟩,⟨some 36,.nilc,[.t 35],none⟩,⟨some 37,(.fad 3),[.t 36],none⟩,⟨some 38,(.load false 1),[.t 37],none⟩,⟨some 39,.mov,[.t 1],none⟩,⟨some 40,(.iad 1),[.t 38,.t 39],none⟩,⟨some 41,(.load false 1),[.t 40],none⟩,⟨some 42,(.bin .add),[.t 41,.c (.int .i64 1)],none⟩,⟨some 43,(.iad 1),[.t 38,.t 39],none⟩,⟨none,(.store 1),[.t 43,.t 42],none⟩]
def Z1t4 : List Z2a := [
  ⟨some 44,(.fad 0),[.t 5],none⟩,⟨some 45,(.load false 1),[.t 44],none⟩,⟨some 46,.mov,[.t 7],none⟩,⟨some 47,(.iad 1),[.t 45,.t 46],none⟩,⟨some 48,(.load false 1),[.t 47],none⟩,⟨some 49,.unot,[.t 48],none⟩]
def Z1t5 : List Z2a := [
  ⟨some 50,(.bld [(.bool false),(.int .i64 0),(.int .i64 0),(.slc 0 [] true),(.slc 0 [] true)] [(0,1)]),[.c (.bool true)],none⟩,⟨none,(.store 5),[.t 4,.t 50],none⟩]
def Z1t6 : List Z2a := [
  ⟨some 51,.mov,[.t 0],none⟩,⟨some 52,.nilc,[.t 51],none⟩,⟨some 53,(.fad 4),[.t 52],none⟩,⟨some 54,(.load false 1),[.t 53],none⟩,⟨some 55,.mov,[.t 1],none⟩,⟨some 56,(.iad 1),[.t 54,.t 55],none⟩,⟨some 57,(.load false 1),[.t 56],none⟩,⟨some 8,.mov,[.t 57],none⟩]
def Z1t7 : List Z2a := [
  ⟨some 58,.mov,[.t 0],none⟩,⟨some 59,.nilc,[.t 58],none⟩,⟨some 60,(.fad 4),[.t 59],none⟩,⟨some 61,(.load false 1),[.t 60],none⟩,⟨some 62,.mov,[.t 1],none⟩,⟨some 63,(.iad 1),[.t 61,.t 62],none⟩,⟨some 64,(.load false 1),[.t 63],none⟩,⟨some 65,(.bin .add),[.t 64,.c (.int .i64 1)],none⟩,⟨some 66,(.iad 1),[.t 61,.t 62],none⟩,⟨none,(.store 1),[.t 66,.t 65],none⟩]
def Z1t8 : List Z2a := [
  ⟨some 9,(.alloc (.agg [(.bool false),(.int .i64 0),(.int .i64 0),(.slc 0 [] true),(.slc 0 [] true)])),[],none⟩]
def Z1t9 : List Z2a := [
  ⟨some 67,(.fad 0),[.t 6],none⟩,⟨some 68,(.load false 1),[.t 67],none⟩]
def Z1ta : List Z2a := [
  ⟨some 70,(.bin .eql),[.t 68,.c (.int .i64 10)],none⟩,⟨some 69,.mov,[.t 70],none⟩]
def Z1tb : List Z2a := [
  ⟨some 71,(.bin .eql),[.t 68,.c (.int .i64 11)],none⟩,⟨some 69,.mov,[.t 71],none⟩]
def Z1tc : List Z2a := [
  ⟨some 73,(.bin .eql),[.t 68,.c (.int .i64 12)],none⟩,⟨some 72,.mov,[.t 73],none⟩]
def Z1td : List Z2a := [
  ⟨some 75,(.bin .eql),[.t 68,.c (.int .i64 13)],none⟩,⟨some 74,.mov,[.t 75],none⟩]
def Z1te : List Z2a := [
  ⟨some 77,(.bin .eql),[.t 68,.c (.int .i64 7)],none⟩,⟨some 76,.mov,[.t 77],none⟩]
def Z1tf : List Z2a := [
  ⟨some 78,(.bin .eql),[.t 68,.c (.int .i64 8)],none⟩,⟨some 76,.mov,[.t 78],none⟩]
def Z1tg : List Z2a := [
  ⟨some 79,(.bin .eql),[.t 68,.c (.int .i64 16)],none⟩,⟨some 76,.mov,[.t 79],none⟩]
def Z1th : List Z2a := [
  ⟨some 80,(.bin .eql),[.t 68,.c (.int .i64 17)],none⟩,⟨some 76,.mov,[.t 80],none⟩]
def Z1ti : List Z2a := [
  ⟨some 82,(.bin .eql),[.t 68,.c (.int .i64 9)],none⟩,⟨some 81,.mov,[.t 82],none⟩]
def Z1tj : List Z2a := [
  ⟨some 83,(.fad 4),[.t 5],none⟩,⟨some 84,(.load false 1),[.t 83],none⟩,⟨some 85,.mov,[.t 8],none⟩,⟨some 86,(.iad 1),[.t 84,.t 85],none⟩,⟨some 87,(.load false 1),[.t 86],none⟩,⟨some 88,.mov,[.c (.int .i64 0)],none⟩]
def Z1tk : List Z2a := [
  ⟨some 89,(.bin .lss),[.t 88,.t 87],none⟩]
def Z1tl : List Z2a := [
  ⟨some 90,(.fad 1),[.t 6],none⟩,⟨some 91,(.load false 1),[.t 90],none⟩,⟨some 92,.lens,[.t 91],none⟩,⟨some 93,.mov,[.c (.int .i64 0)],none⟩]
def Z1tm : List Z2a := [
  ⟨some 94,(.bin .lss),[.t 93,.t 92],none⟩]
def Z1tn : List Z2a := [
  ⟨some 95,(.iad 1),[.t 91,.t 93],none⟩,⟨some 96,(.load false 1),[.t 95],none⟩,⟨some 11,.mov,[.t 96],none⟩]
def Z1to : List Z2a := [
  ⟨some 97,(.fad 4),[.t 9],none⟩,⟨some 98,(.loadg false 1),[.t 97,.t 9],none⟩,⟨some 99,.mov,[.t 0],none⟩,⟨some 100,.mov,[.t 11],none⟩,⟨some 101,(.callk Zf2 2),[.t 99,.t 100,.t 9],none⟩,⟨some 102,(.bsl 5),[.t 101],none⟩,⟨some 103,(.app 5 72),[.t 98,.t 102],none⟩,⟨some 104,(.fad 4),[.t 9],none⟩,⟨none,(.store 1),[.t 104,.t 103],none⟩]
def Z1tp : List Z2a := [
  ⟨some 105,(.bin .add),[.t 93,.c (.int .i64 1)],none⟩,⟨some 93,.mov,[.t 105],none⟩]
def Z1tq : Z2b := (.seq (.region Z1tm [0,4,6,9,87,88,91,92,93,94]) (.seq (.cond (.t 94) .skip (.exit 9)) (.seq (.block 10 (.seq (.region Z1tn [0,4,6,9,11,87,88,91,92,93]) (.region Z1to [0,4,6,9,87,88,91,92,93]))) (.region Z1tp [0,4,6,9,87,88,91,92,93]))))
def Z1tr : List Z2a := [
  ⟨some 106,(.bin .add),[.t 88,.c (.int .i64 1)],none⟩,⟨some 88,.mov,[.t 106],none⟩]
def Z1ts : Z2b := (.seq (.region Z1tk [0,4,6,9,87,88,89]) (.seq (.cond (.t 89) .skip (.exit 7)) (.seq (.block 8 (.seq (.region Z1tl [0,4,6,9,87,88,91,92,93]) (.block 9 (.loop Z1tq)))) (.region Z1tr [0,4,6,9,87,88]))))
def Z1tt : List Z2a := [
  ⟨some 107,(.fad 1),[.t 6],none⟩,⟨some 108,(.load false 1),[.t 107],none⟩,⟨some 109,.lens,[.t 108],none⟩,⟨some 110,.mov,[.c (.int .i64 0)],none⟩]
def Z1tu : List Z2a := [
  ⟨some 111,(.bin .lss),[.t 110,.t 109],none⟩]
def Z1tv : List Z2a := [
  ⟨some 112,(.iad 1),[.t 108,.t 110],none⟩,⟨some 113,(.load false 1),[.t 112],none⟩,⟨some 13,.mov,[.t 113],none⟩]
def Z1tw : List Z2a := [
  ⟨some 114,.mov,[.t 0],none⟩,⟨some 115,.nilc,[.t 114],none⟩,⟨some 116,(.fad 2),[.t 115],none⟩,⟨some 117,(.load false 1),[.t 116],none⟩,⟨some 118,.mov,[.t 13],none⟩,⟨some 119,(.iad 1),[.t 117,.t 118],none⟩,⟨some 120,(.load false 1),[.t 119],none⟩]
def Z1tx : List Z2a := [
  ⟨some 121,(.fad 4),[.t 9],none⟩,⟨some 122,(.loadg false 1),[.t 121,.t 9],none⟩,⟨some 123,.mov,[.t 0],none⟩,⟨some 124,.mov,[.t 13],none⟩,⟨some 125,(.callk Zf2 2),[.t 123,.t 124,.t 9],none⟩,⟨some 126,(.bsl 5),[.t 125],none⟩,⟨some 127,(.app 5 72),[.t 122,.t 126],none⟩,⟨some 128,(.fad 4),[.t 9],none⟩,⟨none,(.store 1),[.t 128,.t 127],none⟩]
def Z1ty : List Z2a := [
  ⟨some 129,(.bin .add),[.t 110,.c (.int .i64 1)],none⟩,⟨some 110,.mov,[.t 129],none⟩]
def Z1tz : Z2b := (.seq (.region Z1tu [0,4,9,108,109,110,111]) (.seq (.cond (.t 111) .skip (.exit 11)) (.seq (.block 12 (.seq (.region Z1tv [0,4,9,13,108,109,110]) (.seq (.region Z1tw [0,4,9,13,108,109,110,120]) (.cond (.t 120) (.region Z1tx [0,4,9,108,109,110]) .skip)))) (.region Z1ty [0,4,9,108,109,110]))))
def Z1u0 : List Z2a := [
  ⟨some 130,(.fad 1),[.t 5],none⟩,⟨some 131,(.load false 1),[.t 130],none⟩,⟨some 132,.mov,[.t 8],none⟩,⟨some 133,(.iad 1),[.t 131,.t 132],none⟩,⟨some 134,(.load false 1),[.t 133],none⟩,⟨some 135,(.fad 1),[.t 9],none⟩,⟨none,(.store 1),[.t 135,.t 134],none⟩]
def Z1u1 : List Z2a := [
  ⟨some 136,(.fad 4),[.t 9],none⟩,⟨some 137,(.loadg false 1),[.t 136,.t 9],none⟩,⟨some 138,.mov,[.t 0],none⟩,⟨some 139,(.fad 1),[.t 6],none⟩,⟨some 140,(.load false 1),[.t 139],none⟩,⟨some 141,(.fad 1),[.t 9],none⟩,⟨some 142,(.load false 1),[.t 141],none⟩,⟨some 143,(.iad 1),[.t 140,.t 142],none⟩,⟨some 144,(.load false 1),[.t 143],none⟩,⟨some 145,(.callk Zf2 2),[.t 138,.t 144,.t 9],none⟩,⟨some 146,(.bsl 5),[.t 145],none⟩,⟨some 147,(.app 5 72),[.t 137,.t 146],none⟩,⟨some 148,(.fad 4),[.t 9],none⟩,⟨none,(.store 1),[.t 148,.t 147],none⟩]
def Z1u2 : List Z2a := [
  ⟨some 149,(.fad 3),[.t 5],none⟩,⟨some 150,(.load false 1),[.t 149],none⟩,⟨some 151,.mov,[.t 8],none⟩,⟨some 152,(.iad 1),[.t 150,.t 151],none⟩,⟨some 153,(.load false 1),[.t 152],none⟩,⟨some 154,(.call Zfq),[.t 153],none⟩,⟨some 155,(.call Zfp),[.t 154],none⟩,⟨some 156,(.fad 3),[.t 9],none⟩,⟨none,(.store 1),[.t 156,.t 155],none⟩]
def Z1u3 : List Z2a := [
  ⟨some 157,(.fad 2),[.t 5],none⟩,⟨some 158,(.load false 1),[.t 157],none⟩,⟨some 159,.mov,[.t 8],none⟩,⟨some 160,(.iad 1),[.t 158,.t 159],none⟩,⟨some 161,(.load false 1),[.t 160],none⟩,⟨some 162,(.fad 2),[.t 9],none⟩,⟨none,(.store 1),[.t 162,.t 161],none⟩]
def Z1u4 : List Z2a := [
  ⟨some 163,(.fad 1),[.t 5],none⟩,⟨some 164,(.load false 1),[.t 163],none⟩,⟨some 165,.mov,[.t 8],none⟩,⟨some 166,(.iad 1),[.t 164,.t 165],none⟩,⟨some 167,(.load false 1),[.t 166],none⟩,⟨some 168,(.fad 1),[.t 9],none⟩,⟨none,(.store 1),[.t 168,.t 167],none⟩]
def Z1u5 : List Z2a := [
  ⟨some 169,(.fad 4),[.t 9],none⟩,⟨some 170,(.load false 1),[.t 169],none⟩,⟨some 171,(.call Zfr),[.t 170],none⟩,⟨some 172,(.fad 4),[.t 9],none⟩,⟨none,(.store 1),[.t 172,.t 171],none⟩]
def Z1u6 : List Z2a := [
  ⟨some 173,(.load true 5),[.t 9],none⟩,⟨none,(.store 5),[.t 4,.t 173],none⟩]
def Z1u7 : Z2y := ⟨174,(.seq (.region Z1t0 [0,1,4]) (.seq (.region Z1t1 [0,1,4,5,6]) (.seq (.region Z1t2 [0,1,4,5,6,7]) (.seq (.region Z1t3 [0,1,4,5,6,7]) (.seq (.seq (.region Z1t4 [0,1,4,5,6,49]) (.cond (.t 49) (.seq (.region Z1t5 [4]) .ret) .skip)) (.seq (.region Z1t6 [0,1,4,5,6,8]) (.seq (.region Z1t7 [0,4,5,6,8]) (.seq (.region Z1t8 [0,4,5,6,8,9]) (.seq (.seq (.region Z1t9 [0,4,5,6,8,9,68]) (.block 0 (.seq (.block 6 (.seq (.block 5 (.seq (.block 4 (.seq (.block 3 (.seq (.block 2 (.seq (.block 1 (.seq (.seq (.seq (.seq (.region Z1ta [0,4,5,6,8,9,68,69]) (.cond (.t 69) .skip (.region Z1tb [0,4,5,6,8,9,68,69]))) (.cond (.t 69) (.exit 1) .skip)) (.seq (.seq (.region Z1tc [0,4,5,6,8,9,68,72]) (.cond (.t 72) (.exit 2) .skip)) (.seq (.seq (.region Z1td [0,4,5,6,8,9,68,74]) (.cond (.t 74) (.exit 3) .skip)) (.seq (.seq (.seq (.region Z1te [4,5,8,9,68,76]) (.cond (.t 76) .skip (.seq (.region Z1tf [4,5,8,9,68,76]) (.cond (.t 76) .skip (.seq (.region Z1tg [4,5,8,9,68,76]) (.cond (.t 76) .skip (.region Z1th [4,5,8,9,68,76]))))))) (.cond (.t 76) (.exit 4) .skip)) (.seq (.region Z1ti [4,5,8,9,81]) (.cond (.t 81) (.exit 5) .skip)))))) (.exit 6))) (.seq (.seq (.region Z1tj [0,4,6,9,87,88]) (.block 7 (.loop Z1ts))) (.exit 0)))) (.seq (.seq (.region Z1tt [0,4,9,108,109,110]) (.block 11 (.loop Z1tz))) (.exit 0)))) (.seq (.seq (.region Z1u0 [0,4,6,9]) (.region Z1u1 [4,9])) (.exit 0)))) (.seq (.region Z1u2 [4,9]) (.exit 0)))) (.region Z1u3 [4,5,8,9]))) (.seq (.region Z1u4 [4,9]) (.exit 0))))) (.seq (.region Z1u5 [4,9]) (.seq (.region Z1u6 [4]) .ret))))))))))),[.cell 4 true 5]⟩
def Z1u8 : List Z2a := [
  ⟨some 4,.mov,[.c (.slc 0 [] true)],none⟩]
def Z1u9 : List Z2a := [
  ⟨some 9,.mov,[.t 1],none⟩,⟨some 10,(.bin .lss),[.t 9,.c (.int .i64 0)],none⟩]
def Z1ua : List Z2a := [
  ⟨some 11,(.mki 9),[.c (.str [99,97,110,110,111,116,32,98,101,32,110,101,103,97,116,105,118,101])],none⟩,⟨none,.bad,[],none⟩]
def Z1ub : List Z2a := [
  ⟨some 13,.mov,[.t 0],none⟩,⟨some 14,.lens,[.t 13],none⟩,⟨some 15,(.conv .u64),[.t 14],none⟩,⟨some 16,.mov,[.t 1],none⟩,⟨some 17,(.conv .u64),[.t 16],none⟩,⟨some 18,(.call Zg1),[.t 15,.t 17],none⟩,⟨some 12,.mov,[.t 18],none⟩,⟨some 19,(.ext 0),[.t 12],none⟩,⟨some 20,(.ext 1),[.t 12],none⟩,⟨some 5,.mov,[.t 19],none⟩,⟨some 6,.mov,[.t 20],none⟩]
def Z1uc : List Z2a := [
  ⟨some 21,.mov,[.t 5],none⟩,⟨some 22,(.bin .gtr),[.t 21,.c (.int .u64 0)],none⟩,⟨some 23,.mov,[.t 22],none⟩,⟨some 24,.mov,[.t 6],some (23,false)⟩,⟨some 25,(.bin .gtr),[.t 24,.c (.int .u64 9223372036854775807)],some (23,false)⟩,⟨some 26,.pick,[.t 23,.c (.bool true),.t 25],none⟩]
def Z1ud : List Z2a := [
  ⟨some 27,(.mki 9),[.c (.str [116,104,101,32,114,101,115,117,108,116,32,111,102,32,40,108,101,110,40,120,41,32,42,32,99,111,117,110,116,41,32,111,118,101,114,102,108,111,119,115])],none⟩,⟨none,.bad,[],none⟩]
def Z1ue : List Z2a := [
  ⟨some 28,.mov,[.t 6],none⟩,⟨some 29,(.conv .i64),[.t 28],none⟩,⟨some 30,(.mks 1 1 (.bool false)),[.t 29,.t 29],none⟩,⟨some 7,.mov,[.t 30],none⟩]
def Z1uf : List Z2a := [
  ⟨some 31,.mov,[.t 7],none⟩,⟨some 32,.mov,[.t 0],none⟩,⟨some 33,(.cpy 1),[.t 31,.t 32],none⟩,⟨some 8,.mov,[.t 33],none⟩]
def Z1ug : List Z2a := [
  ⟨some 34,.mov,[.t 8],none⟩,⟨some 35,.mov,[.t 7],none⟩,⟨some 36,.lens,[.t 35],none⟩,⟨some 37,(.bin .lss),[.t 34,.t 36],none⟩]
def Z1uh : List Z2a := [
  ⟨some 38,.mov,[.t 8],none⟩,⟨some 39,.mov,[.t 7],none⟩,⟨some 40,.mov,[.t 8],none⟩,⟨some 41,(.slc 1 true false false),[.t 39,.t 40],none⟩,⟨some 42,.mov,[.t 7],none⟩,⟨some 43,.mov,[.t 8],none⟩,⟨some 44,(.slc 1 false true false),[.t 42,.t 43],none⟩,⟨some 45,(.cpy 1),[.t 41,.t 44],none⟩,⟨some 46,(.bin .add),[.t 38,.t 45],none⟩,⟨some 8,.mov,[.t 46],none⟩]
def Z1ui : Z2b := (.seq (.seq (.region Z1ug [7,8,37]) (.cond (.t 37) .skip (.exit 0))) (.block 1 (.region Z1uh [7,8])))
def Z1uj : List Z2a := [
  ⟨some 47,.mov,[.t 7],none⟩,⟨some 4,.mov,[.t 47],none⟩]
def Z1uk : Z2y := ⟨48,(.seq (.region Z1u8 [0,1]) (.seq (.seq (.region Z1u9 [0,1,10]) (.cond (.t 10) (.region Z1ua [0,1]) .skip)) (.seq (.region Z1ub [0,5,6]) (.seq (.seq (.region Z1uc [0,6,26]) (.cond (.t 26) (.region Z1ud [0,6]) .skip)) (.seq (.region Z1ue [0,7]) (.seq (.region Z1uf [7,8]) (.seq (.block 0 (.loop Z1ui)) (.seq (.region Z1uj [4]) .ret)))))))),[.t 4]⟩
def Z1ul : List Z2a := [
  ⟨some 4,.mov,[.c (.int .u64 0)],none⟩,⟨some 5,.mov,[.c (.int .u64 0)],none⟩]
def Z1um : List Z2a := [
  ⟨some 11,.mov,[.t 0],none⟩,⟨some 12,(.conv .u32),[.t 11],none⟩,⟨some 13,.mov,[.t 1],none⟩,⟨some 14,(.conv .u32),[.t 13],none⟩,⟨some 15,(.call Zgf),[.t 12,.t 14],none⟩,⟨some 10,.mov,[.t 15],none⟩,⟨some 16,(.ext 0),[.t 10],none⟩,⟨some 17,(.ext 1),[.t 10],none⟩,⟨some 6,.mov,[.t 16],none⟩,⟨some 7,.mov,[.t 17],none⟩]
def Z1un : List Z2a := [
  ⟨some 18,.mov,[.t 6],none⟩,⟨some 19,(.conv .u64),[.t 18],none⟩,⟨some 20,.mov,[.t 7],none⟩,⟨some 21,(.conv .u64),[.t 20],none⟩,⟨some 4,.mov,[.t 19],none⟩,⟨some 5,.mov,[.t 21],none⟩]
def Z1uo : List Z2a := [
  ⟨some 23,.mov,[.t 0],none⟩,⟨some 24,.mov,[.t 1],none⟩,⟨some 25,(.call Zgg),[.t 23,.t 24],none⟩,⟨some 22,.mov,[.t 25],none⟩,⟨some 26,(.ext 0),[.t 22],none⟩,⟨some 27,(.ext 1),[.t 22],none⟩,⟨some 8,.mov,[.t 26],none⟩,⟨some 9,.mov,[.t 27],none⟩]
def Z1up : List Z2a := [
  ⟨some 28,.mov,[.t 8],none⟩,⟨some 29,.mov,[.t 9],none⟩,⟨some 4,.mov,[.t 28],none⟩,⟨some 5,.mov,[.t 29],none⟩]
def Z1uq : Z2y := ⟨30,(.seq (.region Z1ul [0,1]) (.seq (.cond (.c (.bool false)) (.seq (.region Z1um [6,7]) (.seq (.region Z1un [4,5]) .ret)) .skip) (.seq (.region Z1uo [8,9]) (.seq (.region Z1up [4,5]) .ret)))),[.t 4,.t 5]⟩
def Z1ur : List Z2a := [
  ⟨some 4,.mov,[.c (.int .u64 0)],none⟩,⟨some 5,.mov,[.c (.int .u64 0)],none⟩]
def Z1us : List Z2a := [
  ⟨some 14,.mov,[.t 0],none⟩,⟨some 15,(.bin .and),[.t 14,.c (.int .u64 4294967295)],none⟩,⟨some 6,.mov,[.t 15],none⟩]
def Z1ut : List Z2a := [
  ⟨some 16,.mov,[.t 0],none⟩,⟨some 17,(.bin .shr),[.t 16,.c (.int .u64 32)],none⟩,⟨some 7,.mov,[.t 17],none⟩]
def Z1uu : List Z2a := [
  ⟨some 18,.mov,[.t 1],none⟩,⟨some 19,(.bin .and),[.t 18,.c (.int .u64 4294967295)],none⟩,⟨some 8,.mov,[.t 19],none⟩]
def Z1uv : List Z2a := [
  ⟨some 20,.mov,[.t 1],none⟩,⟨some 21,(.bin .shr),[.t 20,.c (.int .u64 32)],none⟩,⟨some 9,.mov,[.t 21],none⟩]
def Z1uw : List Z2a := [
  ⟨some 22,.mov,[.t 6],none⟩,⟨some 23,.mov,[.t 8],none⟩,⟨some 24,(.bin .mul),[.t 22,.t 23],none⟩,⟨some 10,.mov,[.t 24],none⟩]
def Z1ux : List Z2a := [
  ⟨some 25,.mov,[.t 7],none⟩,⟨some 26,.mov,[.t 8],none⟩,⟨some 27,(.bin .mul),[.t 25,.t 26],none⟩,⟨some 28,.mov,[.t 10],none⟩,⟨some 29,(.bin .shr),[.t 28,.c (.int .u64 32)],none⟩,⟨some 30,(.bin .add),[.t 27,.t 29],none⟩,⟨some 11,.mov,[.t 30],none⟩]
def Z1uy : List Z2a := [
  ⟨some 31,.mov,[.t 11],none⟩,⟨some 32,(.bin .and),[.t 31,.c (.int .u64 4294967295)],none⟩,⟨some 12,.mov,[.t 32],none⟩]
def Z1uz : List Z2a := [
  ⟨some 33,.mov,[.t 11],none⟩,⟨some 34,(.bin .shr),[.t 33,.c (.int .u64 32)],none⟩,⟨some 13,.mov,[.t 34],none⟩]
def Z1v0 : List Z2a := [
  ⟨some 35,.mov,[.t 12],none⟩,⟨some 36,.mov,[.t 6],none⟩,⟨some 37,.mov,[.t 9],none⟩,⟨some 38,(.bin .mul),[.t 36,.t 37],none⟩,⟨some 39,(.bin .add),[.t 35,.t 38],none⟩,⟨some 12,.mov,[.t 39],none⟩]
def Z1v1 : List Z2a := [
  ⟨some 40,.mov,[.t 7],none⟩,⟨some 41,.mov,[.t 9],none⟩,⟨some 42,(.bin .mul),[.t 40,.t 41],none⟩,⟨some 43,.mov,[.t 13],none⟩,⟨some 44,(.bin .add),[.t 42,.t 43],none⟩,⟨some 45,.mov,[.t 12],none⟩,⟨some 46,(.bin .shr),[.t 45,.c (.int .u64 32)],none⟩,⟨some 47,(.bin .add),[.t 44,.t 46],none⟩,⟨some 4,.mov,[.t 47],none⟩]
def Z1v2 : List Z2a := [
  ⟨some 48,.mov,[.t 0],none⟩,⟨some 49,.mov,[.t 1],none⟩,⟨some 50,(.bin .mul),[.t 48,.t 49],none⟩,⟨some 5,.mov,[.t 50],none⟩]
def Z1v3 : Z2y := ⟨51,(.seq (.region Z1ur [0,1]) (.seq (.region Z1us [0,1,6]) (.seq (.region Z1ut [0,1,6,7]) (.seq (.region Z1uu [0,1,6,7,8]) (.seq (.region Z1uv [0,1,6,7,8,9]) (.seq (.region Z1uw [0,1,6,7,8,9,10]) (.seq (.region Z1ux [0,1,6,7,9,11]) (.seq (.region Z1uy [0,1,6,7,9,11,12]) (.seq (.region Z1uz [0,1,6,7,9,12,13]) (.seq (.region Z1v0 [0,1,7,9,12,13]) (.seq (.region Z1v1 [0,1,4]) (.seq (.region Z1v2 [4,5]) .ret)))))))))))),[.t 4,.t 5]⟩
def Zzo : List Z2a := [
  ⟨some 2,(.box 6),[.t 0],none⟩,⟨some 3,(.box 5),[.t 1],none⟩,⟨some 4,.mov,[.c (.bool false)],none⟩]
def Zzp : List Z2a := [
  ⟨some 5,(.fad 0),[.t 2],none⟩,⟨some 6,(.load false 1),[.t 5],none⟩]
def Zzq : List Z2a := [
  ⟨some 8,(.bin .eql),[.t 6,.c (.int .i64 0)],none⟩,⟨some 7,.mov,[.t 8],none⟩]
def Zzr : List Z2a := [
  ⟨some 9,(.fad 1),[.t 3],none⟩,⟨some 10,(.load false 1),[.t 9],none⟩,⟨some 11,(.bin .eql),[.t 10,.c (.int .i64 0)],none⟩,⟨some 12,.mov,[.t 11],none⟩,⟨some 13,(.fad 1),[.t 3],some (12,false)⟩,⟨some 14,(.load false 1),[.t 13],some (12,false)⟩,⟨some 15,(.bin .eql),[.t 14,.c (.int .i64 1)],some (12,false)⟩,⟨some 16,.pick,[.t 12,.c (.bool true),.t 15],none⟩,⟨some 4,.mov,[.t 16],none⟩]
def Zzs : List Z2a := [
  ⟨some 18,(.bin .eql),[.t 6,.c (.int .i64 1)],none⟩,⟨some 17,.mov,[.t 18],none⟩]
def Zzt : List Z2a := [
  ⟨some 19,(.fad 1),[.t 3],none⟩,⟨some 20,(.load false 1),[.t 19],none⟩,⟨some 21,(.call Zgb),[.t 20,.c (.int .i64 8)],none⟩,⟨some 4,.mov,[.t 21],none⟩]
def Zzu : List Z2a := [
  ⟨some 23,(.bin .eql),[.t 6,.c (.int .i64 2)],none⟩,⟨some 22,.mov,[.t 23],none⟩]
def Zzv : List Z2a := [
  ⟨some 24,(.fad 1),[.t 3],none⟩,⟨some 25,(.load false 1),[.t 24],none⟩,⟨some 26,(.call Zgb),[.t 25,.c (.int .i64 16)],none⟩,⟨some 4,.mov,[.t 26],none⟩]
def Zzw : List Z2a := [
  ⟨some 28,(.bin .eql),[.t 6,.c (.int .i64 3)],none⟩,⟨some 27,.mov,[.t 28],none⟩]
def Zzx : List Z2a := [
  ⟨some 29,(.bin .eql),[.t 6,.c (.int .i64 15)],none⟩,⟨some 27,.mov,[.t 29],none⟩]
def Zzy : List Z2a := [
  ⟨some 30,(.fad 1),[.t 3],none⟩,⟨some 31,(.load false 1),[.t 30],none⟩,⟨some 32,(.call Zgb),[.t 31,.c (.int .i64 32)],none⟩,⟨some 4,.mov,[.t 32],none⟩]
def Zzz : List Z2a := [
  ⟨some 34,(.bin .eql),[.t 6,.c (.int .i64 4)],none⟩,⟨some 33,.mov,[.t 34],none⟩]
def Z100 : List Z2a := [
  ⟨some 4,.mov,[.c (.bool true)],none⟩]
def Z101 : List Z2a := [
  ⟨some 36,(.bin .eql),[.t 6,.c (.int .i64 14)],none⟩,⟨some 35,.mov,[.t 36],none⟩]
def Z102 : List Z2a := [
  ⟨some 37,(.fad 1),[.t 3],none⟩,⟨some 38,(.load false 1),[.t 37],none⟩,⟨some 39,(.callp Zgc),[.t 38],none⟩,⟨some 40,(.fad 4),[.t 2],none⟩,⟨some 41,(.load false 1),[.t 40],none⟩,⟨some 42,(.bin .leq),[.t 39,.t 41],none⟩,⟨some 4,.mov,[.t 42],none⟩]
def Z103 : List Z2a := [
  ⟨some 44,(.bin .eql),[.t 6,.c (.int .i64 9)],none⟩,⟨some 43,.mov,[.t 44],none⟩]
def Z104 : List Z2a := [
  ⟨some 45,(.fad 1),[.t 3],none⟩,⟨some 46,(.load false 1),[.t 45],none⟩,⟨some 47,(.fad 2),[.t 3],none⟩,⟨some 48,(.load false 1),[.t 47],none⟩,⟨some 49,(.call Zgd),[.t 46,.t 48],none⟩,⟨some 4,.mov,[.t 49],none⟩]
def Z105 : List Z2a := [
  ⟨some 51,(.bin .eql),[.t 6,.c (.int .i64 13)],none⟩,⟨some 50,.mov,[.t 51],none⟩]
def Z106 : List Z2a := [
  ⟨some 52,(.fad 1),[.t 3],none⟩,⟨some 53,(.load false 1),[.t 52],none⟩,⟨some 54,(.bin .geq),[.t 53,.c (.int .i64 0)],none⟩,⟨some 55,.mov,[.t 54],none⟩,⟨some 56,(.fad 1),[.t 3],some (55,true)⟩,⟨some 57,(.load false 1),[.t 56],some (55,true)⟩,⟨some 58,(.fad 2),[.t 2],some (55,true)⟩,⟨some 59,(.load false 1),[.t 58],some (55,true)⟩,⟨some 60,.lens,[.t 59],some (55,true)⟩,⟨some 61,(.bin .lss),[.t 57,.t 60],some (55,true)⟩,⟨some 62,.pick,[.t 55,.t 61,.c (.bool false)],none⟩,⟨some 4,.mov,[.t 62],none⟩]
def Z107 : List Z2a := [
  ⟨some 63,(.fad 1),[.t 3],none⟩,⟨some 64,(.load false 1),[.t 63],none⟩,⟨some 65,(.bin .eql),[.t 64,.c (.int .i64 0)],none⟩,⟨some 4,.mov,[.t 65],none⟩]
def Z108 : Z2y := ⟨66,(.seq (.region Zzo [2,3]) (.seq (.seq (.region Zzp [2,3,6]) (.block 0 (.seq (.region Zzq [2,3,6,7]) (.cond (.t 7) (.seq (.region Zzr [4]) .ret) (.seq (.region Zzs [2,3,6,17]) (.cond (.t 17) (.seq (.region Zzt [4]) .ret) (.seq (.region Zzu [2,3,6,22]) (.cond (.t 22) (.seq (.region Zzv [4]) .ret) (.seq (.seq (.region Zzw [2,3,6,27]) (.cond (.t 27) .skip (.region Zzx [2,3,6,27]))) (.cond (.t 27) (.seq (.region Zzy [4]) .ret) (.seq (.region Zzz [2,3,6,33]) (.cond (.t 33) (.seq (.region Z100 [4]) .ret) (.seq (.region Z101 [2,3,6,35]) (.cond (.t 35) (.seq (.region Z102 [4]) .ret) (.seq (.region Z103 [2,3,6,43]) (.cond (.t 43) (.seq (.region Z104 [4]) .ret) (.seq (.region Z105 [2,3,50]) (.cond (.t 50) (.seq (.region Z106 [4]) .ret) .skip)))))))))))))))))) (.seq (.region Z107 [4]) .ret))),[.t 4]⟩
def Z11e : List Z2a := [
  ⟨some 4,.mov,[.c (.bool false)],none⟩]
def Z11f : List Z2a := [
  ⟨some 5,.mov,[.t 0],none⟩,⟨some 6,.mov,[.t 1],none⟩,⟨some 7,(.bin .sub),[.t 6,.c (.int .i64 1)],none⟩,⟨some 8,(.bin .shl),[.c (.int .i64 (-1)),.t 7],none⟩,⟨some 9,(.bin .geq),[.t 5,.t 8],none⟩,⟨some 10,.mov,[.t 9],none⟩,⟨some 11,.mov,[.t 0],some (10,true)⟩,⟨some 12,.mov,[.t 1],some (10,true)⟩,⟨some 13,(.bin .sub),[.t 12,.c (.int .i64 1)],some (10,true)⟩,⟨some 14,(.bin .shl),[.c (.int .i64 1),.t 13],some (10,true)⟩,⟨some 15,(.bin .sub),[.t 14,.c (.int .i64 1)],some (10,true)⟩,⟨some 16,(.bin .leq),[.t 11,.t 15],some (10,true)⟩,⟨some 17,.pick,[.t 10,.t 16,.c (.bool false)],none⟩,⟨some 4,.mov,[.t 17],none⟩]
def Z11g : Z2y := ⟨18,(.seq (.region Z11e [0,1]) (.seq (.region Z11f [4]) .ret)),[.t 4]⟩
def Z11h : List Z2a := [
  ⟨some 2,.mov,[.c (.int .i64 0)],none⟩]
def Z11i : List Z2a := [
  ⟨some 3,.mov,[.c (.int .i64 1)],none⟩]
def Z11j : List Z2a := [
  ⟨some 5,.mov,[.t 0],none⟩,⟨some 6,(.call Zgi),[.t 5],none⟩,⟨some 4,.mov,[.t 6],none⟩]
def Z11k : List Z2a := [
  ⟨some 8,.mov,[.t 4],none⟩,⟨some 9,(.bin .geq),[.t 8,.c (.int .u64 10000000000000000)],none⟩,⟨some 7,.mov,[.t 9],none⟩]
def Z11l : List Z2a := [
  ⟨some 11,.mov,[.t 4],none⟩,⟨some 12,(.bin .geq),[.t 11,.c (.int .u64 100000000)],none⟩,⟨some 10,.mov,[.t 12],none⟩]
def Z11m : List Z2a := [
  ⟨some 13,.mov,[.t 3],none⟩,⟨some 14,(.bin .add),[.t 13,.c (.int .i64 8)],none⟩,⟨some 3,.mov,[.t 14],none⟩]
def Z11n : List Z2a := [
  ⟨some 15,.mov,[.t 4],none⟩,⟨some 16,(.bin .quo),[.t 15,.c (.int .u64 100000000)],none⟩,⟨some 4,.mov,[.t 16],none⟩]
def Z11o : List Z2a := [
  ⟨some 17,.mov,[.t 3],none⟩,⟨some 18,(.bin .add),[.t 17,.c (.int .i64 8)],none⟩,⟨some 3,.mov,[.t 18],none⟩]
def Z11p : List Z2a := [
  ⟨some 19,.mov,[.t 4],none⟩,⟨some 20,(.bin .quo),[.t 19,.c (.int .u64 100000000)],none⟩,⟨some 4,.mov,[.t 20],none⟩]
def Z11q : List Z2a := [
  ⟨some 21,.mov,[.t 4],none⟩,⟨some 22,(.bin .geq),[.t 21,.c (.int .u64 10)],none⟩]
def Z11r : List Z2a := [
  ⟨some 23,.mov,[.t 3],none⟩,⟨some 24,(.bin .add),[.t 23,.c (.int .i64 1)],none⟩,⟨some 3,.mov,[.t 24],none⟩]
def Z11s : List Z2a := [
  ⟨some 25,.mov,[.t 4],none⟩,⟨some 26,(.bin .quo),[.t 25,.c (.int .u64 10)],none⟩,⟨some 4,.mov,[.t 26],none⟩]
def Z11t : Z2b := (.seq (.seq (.region Z11q [3,4,22]) (.cond (.t 22) .skip (.exit 4))) (.block 5 (.seq (.region Z11r [3,4]) (.region Z11s [3,4]))))
def Z11u : List Z2a := [
  ⟨some 27,.mov,[.t 3],none⟩,⟨some 2,.mov,[.t 27],none⟩]
def Z11v : Z2y := ⟨28,(.seq (.region Z11h [0]) (.seq (.region Z11i [0,3]) (.seq (.seq (.region Z11j [3,4]) (.block 0 (.seq (.block 3 (.seq (.block 2 (.seq (.block 1 (.seq (.seq (.seq (.region Z11k [3,4,7]) (.cond (.t 7) (.exit 1) .skip)) (.seq (.region Z11l [3,4,10]) (.cond (.t 10) (.exit 2) .skip))) (.exit 3))) (.seq (.region Z11m [3,4]) (.region Z11n [3,4])))) (.seq (.region Z11o [3,4]) (.region Z11p [3,4])))) (.seq (.block 4 (.loop Z11t)) (.exit 0))))) (.seq (.region Z11u [2]) .ret)))),[.t 2]⟩
def Z11w : List Z2a := [
  ⟨some 4,.mov,[.c (.bool false)],none⟩]
def Z11x : List Z2a := [
  ⟨some 5,.mov,[.t 0],none⟩,⟨some 6,(.bin .geq),[.t 5,.c (.int .i64 (-1099511627776))],none⟩,⟨some 7,.mov,[.t 6],none⟩,⟨some 8,.mov,[.t 0],some (7,true)⟩,⟨some 9,(.bin .leq),[.t 8,.c (.int .i64 1099511627776)],some (7,true)⟩,⟨some 10,.pick,[.t 7,.t 9,.c (.bool false)],none⟩,⟨some 11,.mov,[.t 10],none⟩,⟨some 12,.mov,[.t 1],some (11,true)⟩,⟨some 13,(.bin .geq),[.t 12,.c (.int .i64 0)],some (11,true)⟩,⟨some 14,.pick,[.t 11,.t 13,.c (.bool false)],none⟩,⟨some 15,.mov,[.t 14],none⟩,⟨some 16,.mov,[.t 1],some (15,true)⟩,⟨some 17,(.bin .leq),[.t 16,.c (.int .i64 999999999)],some (15,true)⟩,⟨some 18,.pick,[.t 15,.t 17,.c (.bool false)],none⟩,⟨some 4,.mov,[.t 18],none⟩]
def Z11y : Z2y := ⟨19,(.seq (.region Z11w [0,1]) (.seq (.region Z11x [4]) .ret)),[.t 4]⟩
def Z11z : List Z2a := [
  ⟨some 2,.mov,[.c (.int .i64 0)],none⟩]
def Z120 : List Z2a := [
  ⟨some 3,.mov,[.c (.int .i64 0)],none⟩]
def Z121 : List Z2a := [
  ⟨some 6,.mov,[.t 0],none⟩,⟨some 7,.lens,[.t 6],none⟩,⟨some 8,.mov,[.c (.int .i64 0)],none⟩]
def Z122 : List Z2a := [
  ⟨some 9,(.bin .lss),[.t 8,.t 7],none⟩]
def Z123 : List Z2a := [
  ⟨some 10,(.iad 1),[.t 6,.t 8],none⟩,⟨some 11,(.load false 1),[.t 10],none⟩,⟨some 5,.mov,[.t 11],none⟩]
def Z124 : List Z2a := [
  ⟨some 12,.mov,[.t 5],none⟩,⟨some 13,(.bin .shr),[.t 12,.c (.int .u64 6)],none⟩,⟨some 14,(.bin .neq),[.t 13,.c (.int .u8 2)],none⟩]
def Z125 : List Z2a := [
  ⟨some 15,.mov,[.t 3],none⟩,⟨some 16,(.bin .add),[.t 15,.c (.int .i64 1)],none⟩,⟨some 3,.mov,[.t 16],none⟩]
def Z126 : List Z2a := [
  ⟨some 17,(.bin .add),[.t 8,.c (.int .i64 1)],none⟩,⟨some 8,.mov,[.t 17],none⟩]
def Z127 : Z2b := (.seq (.region Z122 [3,6,7,8,9]) (.seq (.cond (.t 9) .skip (.exit 0)) (.seq (.block 1 (.seq (.region Z123 [3,5,6,7,8]) (.seq (.region Z124 [3,6,7,8,14]) (.cond (.t 14) (.region Z125 [3,6,7,8]) .skip)))) (.region Z126 [3,6,7,8]))))
def Z128 : List Z2a := [
  ⟨some 18,.mov,[.t 3],none⟩,⟨some 2,.mov,[.t 18],none⟩]
def Z129 : Z2y := ⟨19,(.seq (.region Z11z [0]) (.seq (.region Z120 [0,3]) (.seq (.seq (.region Z121 [3,6,7,8]) (.block 0 (.loop Z127))) (.seq (.region Z128 [2]) .ret)))),[.t 2]⟩
def Z12a : List Z2a := [
  ⟨some 2,.mov,[.c (.int .u64 0)],none⟩]
def Z12b : List Z2a := [
  ⟨some 3,.mov,[.t 0],none⟩,⟨some 4,(.bin .lss),[.t 3,.c (.int .i64 0)],none⟩]
def Z12c : List Z2a := [
  ⟨some 5,.mov,[.t 0],none⟩,⟨some 6,(.conv .u64),[.t 5],none⟩,⟨some 7,.uneg,[.t 6],none⟩,⟨some 2,.mov,[.t 7],none⟩]
def Z12d : List Z2a := [
  ⟨some 8,.mov,[.t 0],none⟩,⟨some 9,(.conv .u64),[.t 8],none⟩,⟨some 2,.mov,[.t 9],none⟩]
def Z12e : Z2y := ⟨10,(.seq (.region Z12a [0]) (.seq (.seq (.region Z12b [0,4]) (.cond (.t 4) (.seq (.region Z12c [2]) .ret) .skip)) (.seq (.region Z12d [2]) .ret))),[.t 2]⟩
end Go.Abs
namespace Go.Abs
open Go Go.Proofs
theorem Z1v4 : Z2z Try.prog [] Zdn = some Z1sk.erase := by kernel_rfl
theorem Z1v5 : Z2z Try.prog [] Zf1 = some Z1sz.erase := by kernel_rfl
theorem Z1v6 : Z2z Try.prog [(1, 13), (1, 10), (24, 100004), (24, 100001), (31, 100004), (31, 100001), (34, 100009), (34, 100001)] Zf2 = some Z1u7.erase := by kernel_rfl
theorem Z1v7 : Z2z Try.prog [] Zez = some Z1uk.erase := by kernel_rfl
theorem Z1v8 : Z2z Try.prog [] Zg1 = some Z1uq.erase := by kernel_rfl
theorem Z1v9 : Z2z Try.prog [] Zgg = some Z1v3.erase := by kernel_rfl
theorem Z12h : Z2z Try.prog [(14, 2)] Zft = some Z108.erase := by kernel_rfl
theorem Z12l : Z2z Try.prog [] Zgb = some Z11g.erase := by kernel_rfl
theorem Z12m : Z2z Try.prog [] Zgc = some Z11v.erase := by kernel_rfl
theorem Z12n : Z2z Try.prog [] Zgd = some Z11y.erase := by kernel_rfl
theorem Z12o : Z2z Try.prog [] Zge = some Z129.erase := by kernel_rfl
theorem Z12p : Z2z Try.prog [] Zgi = some Z12e.erase := by kernel_rfl
end Go.Abs
namespace Go.Abs
open Go Go.Proofs
set_option linter.unusedVariables false
set_option linter.unusedSimpArgs false
set_option maxHeartbeats 4000000
attribute [local irreducible] AWp aops KP
def cRow (k : Int) (c : Col) : List Nat → Nat → List Int → List Int
  | [], _, out => out
  | to :: ks, j, out => cRow k c ks (j + 1) (out.set to (askF k c j : Nat))
def cAll : List Nd → List Col → List Int → List Int
  | n :: l, c :: cs, out => cAll l cs (cRow n.t.kind c n.kids 0 out)
  | _, _, out => out
def Z1va (l : List Nd) (cols : List Col) (n : Int) : List Int := cAll l cols ((List.replicate l.length 0).set 0 n)
theorem Z1vb (k : Int) (c : Col) : ∀ (ks : List Nat) (j : Nat) (out : List Int), (cRow k c ks j out).length = out.length
  | [], _, _ => rfl
  | to :: ks, j, out => by rw [cRow, Z1vb k c ks, List.length_set]
structure Z1vc (l : List Nd) : Prop where
  len : l.length ≤ 1000
  num : ∀ n ∈ l, n.kids.length ≤ 1000
  lt : ∀ n ∈ l, ∀ x ∈ n.kids, x < l.length
theorem Z1vd (l : List Nd) (hK : Z1vc l) (h0 : 0 < l.length) (cols : List Col) (hc : cols.length = l.length) (hS : ∀ c ∈ cols, c.Sm) (n : Int) (f g : Bool) (σ : Zc) :
    Z1q Try.prog Zdn [.slc 8 (l.map encN) f, .slc 5 (cols.map encC) g, .int .i64 n] σ fun r σ' => r = .slc 1 ((Z1va l cols n).map (.int .i64)) false ∧ σ' = σ := by
  obtain ⟨hl1, hk1, hk2⟩ := hK
  have hll : (l.map encN).length = l.length := List.length_map ..
  have hcl : (cols.map encC).length = cols.length := List.length_map ..
  refine Z8t rfl Z1v4 (Nat.le_of_ble_eq_true rfl) ?_
  (repeat (first | refine st_q rfl rfl rfl ?_ | (refine Z8y ?_; (repeat (first | refine Z9v rfl ?_ | refine Z9w ?_)); refine Z9u ?_) | refine awp_seq ?_ | refine Zbm (fun _ _ => rfl) ?_))
  rw [hll]
  refine Z9l rfl (Kfi rfl) (by omega) (by omega) (by omega) (by omega) fun b hb => ?_
  (repeat (first | refine st_q rfl rfl rfl ?_ | (refine Z8y ?_; (repeat (first | refine Z9v rfl ?_ | refine Z9w ?_)); refine Z9u ?_) | refine awp_seq ?_ | refine Zbm (fun _ _ => rfl) ?_))
  rw [hll]
  (rw [decide_eq_true (p := (0 : Int) < (l.length : Int)) (by omega)])
  (repeat (first | refine st_q rfl rfl rfl ?_ | refine Zbm (fun _ _ => rfl) ?_ | refine Kc1 rfl ?_))
  have hr0 : (List.replicate ((l.length : Nat) : Int).toNat (Z0.int .i64 0)) = (List.replicate l.length (0 : Int)).map (.int .i64) := by rw [List.map_replicate, Int.toNat_natCast]
  rw [hr0]
  refine Z94 rfl ⟨by omega, by omega⟩ ?_
  have hx0 : ((List.replicate l.length (0 : Int)).map (Z0.int .i64))[0 + (0 : Int).toNat]? = some (.int .i64 0) := by
    rw [List.getElem?_map, List.getElem?_replicate, if_pos (by simpa using h0)]; rfl
  refine Z9a rfl Z8z hx0 (by decide) (Kfi rfl) (fun _ => ⟨rfl, rfl⟩) Z9b ?_
  (refine Z8y ?_; (repeat (first | refine Z9v rfl ?_ | refine Z9w ?_)); refine Z9u ?_)
  have e0 : ((List.replicate l.length (0 : Int)).map (Z0.int .i64)).set (0 + (0 : Int).toNat) (Z1r (.int .i64 0) 0 (Z0.int .i64 n).cells) = ((List.replicate l.length 0).set 0 n).map (.int .i64) := by rw [List.map_set]; rfl
  rw [e0]
  have hlen0 : ((List.replicate l.length (0 : Int)).set 0 n).length = l.length := by rw [List.length_set, List.length_replicate]
  have hX : cAll l cols ((List.replicate l.length 0).set 0 n) = Z1va l cols n := rfl
  generalize (List.replicate l.length (0 : Int)).set 0 n = out0 at hlen0 hX ⊢
  generalize Z1va l cols n = X at hX ⊢
  (repeat (first | refine st_q rfl rfl rfl ?_ | (refine Z8y ?_; (repeat (first | refine Z9v rfl ?_ | refine Z9w ?_)); refine Z9u ?_) | refine awp_seq ?_ | refine Zbm (fun _ _ => rfl) ?_ | refine Z8h ?_))
  rw [hll, hcl, hc, if_neg (by omega), Int.toNat_natCast]
  refine Zaa (fun m F σ' => ∃ (i : Nat) (xs : List Int), F = fset 0 (some (.slc 8 (l.map encN) f)) (fset 1 (some (.slc 5 (cols.map encC) g)) (fset 7 (some (.arr 1 b 0 l.length)) (fset 24 (some (.int .i64 (l.length : Nat))) (fset 25 (some (.int .i64 i)) Z27)))) ∧
    (b, Zb.cells 1 (xs.map (.int .i64))) :: σ = σ' ∧ i ≤ l.length ∧ xs.length = l.length ∧ cAll (l.drop i) (cols.drop i) xs = X ∧ m = l.length - i) (n := l.length)
    ⟨0, out0, rfl, rfl, by omega, hlen0, hX, by omega⟩ ?_
  rintro m F σ' ⟨i, xs, rfl, rfl, hi, hxl, hXi, rfl⟩
  (repeat (first | refine st_q rfl rfl rfl ?_ | (refine Z8y ?_; (repeat (first | refine Z9v rfl ?_ | refine Z9w ?_)); refine Z9u ?_) | refine awp_seq ?_ | refine Zbm (fun _ _ => rfl) ?_))
  refine Za3 (p := (i : Int) < (l.length : Nat)) rfl (fun h3 => ?_) (fun h3 => ?_)
  · have hil : i < l.length := by omega
    have hic : i < cols.length := by omega
    have hgN := Zxw (f := encN) hil
    have hgC := Zxw (f := encC) hic
    have hkl := hk1 _ (List.getElem_mem hil)
    have hkx := hk2 _ (List.getElem_mem hil)
    have hSm := hS _ (List.getElem_mem hic)
    rw [List.drop_eq_getElem_cons hil, List.drop_eq_getElem_cons hic, cAll] at hXi
    generalize l[i] = nd at hgN hkl hkx hXi
    generalize cols[i] = c at hgC hSm hXi
    have hkn : (ints nd.kids).length = nd.kids.length := List.length_map ..
    have hAs := fun j σ => Z1s2 nd.t.kind j (Zm2 nd) rfl rfl (Z1rx nd) c hSm σ
    generalize hY : cRow nd.t.kind c nd.kids 0 xs = Y at hXi
    have hYl : Y.length = l.length := by rw [← hY, Z1vb, hxl]
    (repeat (first | refine st_q rfl rfl rfl ?_ | (refine Z8y ?_; (repeat (first | refine Z9v rfl ?_ | refine Z9w ?_)); refine Z9u ?_) | refine awp_seq ?_ | refine Zbm (fun _ _ => rfl) ?_ | refine Z8h ?_ | refine Zbn (fun _ _ => rfl) ?_))
    refine Z93 rfl (by omega) hgN ?_
    rw [encN, Zm2] at hgN ⊢
    (repeat (first | refine st_q rfl rfl rfl ?_ | (refine Z8y ?_; (repeat (first | refine Z9v rfl ?_ | refine Z9w ?_)); refine Z9u ?_) | refine Z8h ?_))
    rw [hkn]
    refine Zaa (fun m F σ' => ∃ (j : Nat) (zs : List Int), F = fset 0 (some (.slc 8 (l.map encN) f)) (fset 1 (some (.slc 5 (cols.map encC) g)) (fset 7 (some (.arr 1 b 0 l.length)) (fset 8 (some (.int .i64 i)) (fset 24 (some (.int .i64 (l.length : Nat))) (fset 25 (some (.int .i64 i)) (fset 32 (some (.slc 1 (ints nd.kids) true)) (fset 33 (some (.int .i64 (nd.kids.length : Nat))) (fset 34 (some (.int .i64 j)) Z27)))))))) ∧
      (b, Zb.cells 1 (zs.map (.int .i64))) :: σ = σ' ∧ j ≤ nd.kids.length ∧ zs.length = l.length ∧ cRow nd.t.kind c (nd.kids.drop j) j zs = Y ∧ m = nd.kids.length - j) (n := nd.kids.length)
      ⟨0, xs, rfl, rfl, by omega, hxl, hY, by omega⟩ ?_
    rintro m F σ' ⟨j, zs, rfl, rfl, hj, hzl, hYj, rfl⟩
    (repeat (first | refine st_q rfl rfl rfl ?_ | (refine Z8y ?_; (repeat (first | refine Z9v rfl ?_ | refine Z9w ?_)); refine Z9u ?_) | refine awp_seq ?_ | refine Zbm (fun _ _ => rfl) ?_))
    refine Za3 (p := (j : Int) < (nd.kids.length : Nat)) rfl (fun h4 => ?_) (fun h4 => ?_)
    · have hjl : j < nd.kids.length := by omega
      have hx : (ints nd.kids)[((j : Nat) : Int).toNat]? = some (.int .i64 ((nd.kids[j] : Nat) : Int)) := by rw [Int.toNat_natCast, ints, List.getElem?_map, List.getElem?_eq_getElem hjl]; rfl
      have hxlt := hkx _ (List.getElem_mem hjl)
      rw [List.drop_eq_getElem_cons hjl, cRow] at hYj
      generalize nd.kids[j] = x at hx hxlt hYj
      (repeat (first | refine st_q rfl rfl rfl ?_ | refine awp_seq ?_ | refine Zbm (fun _ _ => rfl) ?_ | refine Z8h ?_ | refine Zbn (fun _ _ => rfl) ?_))
      refine Z93 rfl (by omega) hx ?_
      (repeat (first | refine st_q rfl rfl rfl ?_ | refine Z8v rfl (st_q rfl rfl rfl ?_) | (refine Z8y ?_; (repeat (first | refine Z9v rfl ?_ | refine Z9w ?_)); refine Z9u ?_) | refine awp_seq ?_ | refine Zbm (fun _ _ => rfl) ?_))
      (rw [decide_eq_true (p := (x : Int) ≥ 0) (by omega)])
      skip
      (rw [decide_eq_true (p := (x : Int) < (l.length : Nat)) (by omega)])
      (repeat (first | refine st_q rfl rfl rfl ?_ | refine Zbm (fun _ _ => rfl) ?_ | refine Kc1 rfl ?_))
      refine Z93 rfl (by omega) hgN ?_
      (repeat refine st_q rfl rfl rfl ?_)
      refine Z93 rfl (by omega) hgC ?_
      (repeat (refine st_q rfl rfl rfl ?_))
      refine Z9t rfl (hAs _ _) ?_
      have hzx : (zs.map (Z0.int .i64))[0 + (x : Int).toNat]? = some (.int .i64 zs[x]) := by
        rw [Nat.zero_add, Int.toNat_natCast, List.getElem?_map, List.getElem?_eq_getElem (by omega)]; rfl
      refine Z94 rfl ⟨by omega, by omega⟩ ?_
      refine Z9a rfl Z8z hzx (by decide) (Kfi rfl) (fun _ => ⟨rfl, rfl⟩) Z9b ?_
      have e1 : (zs.map (Z0.int .i64)).set (0 + (x : Int).toNat) (Z1r (.int .i64 zs[x]) 0 (Z0.int .i64 (askF nd.t.kind c (j : Int) : Nat)).cells) = (zs.set x (askF nd.t.kind c (j : Int) : Nat)).map (.int .i64) := by rw [Nat.zero_add, Int.toNat_natCast, List.map_set]; rfl
      rw [e1]
      (refine Z8y ?_; (repeat (first | refine Z9v rfl ?_ | refine Z9w ?_)); refine Z9u ?_)
      skip
      refine Zbp ?_
      (repeat (refine st_q rfl rfl rfl ?_))
      rw [Kwr j (by omega)]
      (refine Z8y ?_; (repeat (first | refine Z9v rfl ?_ | refine Z9w ?_)); refine Z9u ?_)
      exact ⟨_, nd.kids.length - (j + 1), HSub.refl _, ⟨j + 1, _, rfl, rfl, by omega, by rw [List.length_set, hzl], hYj, rfl⟩, by omega⟩
    · rw [List.drop_of_length_le (by omega), cRow] at hYj
      subst hYj
      (repeat refine Zbo (fun _ _ => rfl) ?_)
      refine Zbp ?_
      (repeat (refine st_q rfl rfl rfl ?_))
      rw [Kwr i (by omega)]
      (refine Z8y ?_; (repeat (first | refine Z9v rfl ?_ | refine Z9w ?_)); refine Z9u ?_)
      exact ⟨_, l.length - (i + 1), HSub.refl _, ⟨i + 1, _, rfl, rfl, by omega, hYl, hXi, rfl⟩, by omega⟩
  · have e : cAll (l.drop i) (cols.drop i) xs = xs := by rw [List.drop_of_length_le (by omega)]; rfl
    rw [e] at hXi
    subst hXi
    refine Zbo (fun _ _ => rfl) ?_
    refine Zb1 (d := 7) (xs := xs.map (.int .i64)) (by rw [List.length_map, hxl]; rfl) ?_
    (refine Z9y (keep := [7]) ?_; ((repeat (first | refine Z9v rfl ?_ | refine Z9w ?_)); refine Z9u ?_))
    (repeat (first | refine st_q rfl rfl rfl ?_ | (refine Z8y ?_; (repeat (first | refine Z9v rfl ?_ | refine Z9w ?_)); refine Z9u ?_) | refine awp_seq ?_ | refine Zbm (fun _ _ => rfl) ?_))
    refine Z8d ?_
    exact Kar rfl ⟨rfl, rfl⟩
end Go.Abs
namespace Go.Abs
open Go Go.Proofs
set_option linter.unusedVariables false
set_option linter.unusedSimpArgs false
set_option maxHeartbeats 4000000
attribute [local irreducible] AWp aops KP
theorem wu64 (n : Int) : IntKind.wrap .u64 n = n % 18446744073709551616 := by simp [IntKind.wrap, IntKind.bits, IntKind.signed]
theorem Z12q (i n : Int) (σ : Zc) : Z1q Try.prog Zgd [.int .i64 i, .int .i64 n] σ fun r σ' => r = .bool (Zmd i n) ∧ σ' = σ := by
  refine Z8t rfl Z12n (Nat.le_of_ble_eq_true rfl) ?_
  (repeat (first | refine st_q rfl rfl rfl ?_ | (refine Z8y ?_; (repeat (first | refine Z9v rfl ?_ | refine Z9w ?_)); refine Z9u ?_) | refine awp_seq ?_ | refine Zbm (fun _ _ => rfl) ?_))
  by_cases h1 : -1099511627776 ≤ i
  · (rw [decide_eq_true (p := -1099511627776 ≤ i) (by omega)])
    (repeat (first | refine st_q rfl rfl rfl ?_ | refine Z8v rfl (st_q rfl rfl rfl ?_)))
    by_cases h2 : i ≤ 1099511627776
    · (rw [decide_eq_true (p := i ≤ 1099511627776) (by omega)])
      (repeat (first | refine st_q rfl rfl rfl ?_ | refine Z8v rfl (st_q rfl rfl rfl ?_)))
      by_cases h3 : 0 ≤ n
      · (rw [decide_eq_true (p := 0 ≤ n) (by omega)])
        (repeat (first | refine st_q rfl rfl rfl ?_ | refine Z8v rfl (st_q rfl rfl rfl ?_) | (refine Z8y ?_; (repeat (first | refine Z9v rfl ?_ | refine Z9w ?_)); refine Z9u ?_)))
        refine Z8d ?_
        refine ares rfl (HSub.refl _) ⟨?_, rfl⟩
        simp only [Zmd, Z8m]
        by_cases h4 : n < 1000000000
        · simp [h1, h2, h3, h4] <;> omega
        · simp [h1, h2, h3, h4] <;> omega
      · (rw [decide_eq_false (p := 0 ≤ n) (by omega)])
        (repeat (first | refine st_q rfl rfl rfl ?_ | refine Z8w rfl ?_ | (refine Z8y ?_; (repeat (first | refine Z9v rfl ?_ | refine Z9w ?_)); refine Z9u ?_)))
        refine Z8d ?_
        exact Kar rfl ⟨by simp [Zmd, Z8m, h3], rfl⟩
    · (rw [decide_eq_false (p := i ≤ 1099511627776) (by omega)])
      (repeat (first | refine st_q rfl rfl rfl ?_ | refine Z8w rfl ?_ | (refine Z8y ?_; (repeat (first | refine Z9v rfl ?_ | refine Z9w ?_)); refine Z9u ?_)))
      refine Z8d ?_
      exact Kar rfl ⟨by simp [Zmd, Z8m, h2], rfl⟩
  · (rw [decide_eq_false (p := -1099511627776 ≤ i) (by omega)])
    (repeat (first | refine st_q rfl rfl rfl ?_ | refine Z8w rfl ?_ | (refine Z8y ?_; (repeat (first | refine Z9v rfl ?_ | refine Z9w ?_)); refine Z9u ?_)))
    refine Z8d ?_
    exact Kar rfl ⟨by simp [Zmd, Z8m, h1], rfl⟩
theorem Z12r (i : Int) (h0 : -9223372036854775808 ≤ i) (h1 : i ≤ 9223372036854775807) (σ : Zc) : Z1q Try.prog Zgi [.int .i64 i] σ fun r σ' => r = .int .u64 (i.natAbs : Int) ∧ σ' = σ := by
  refine Z8t rfl Z12p (Nat.le_of_ble_eq_true rfl) ?_
  (repeat (first | refine st_q rfl rfl rfl ?_ | (refine Z8y ?_; (repeat (first | refine Z9v rfl ?_ | refine Z9w ?_)); refine Z9u ?_) | refine awp_seq ?_ | refine Zbm (fun _ _ => rfl) ?_))
  by_cases h : i < 0
  · (rw [decide_eq_true (p := i < 0) (by omega)])
    (repeat (first | refine st_q rfl rfl rfl ?_ | (refine Z8y ?_; (repeat (first | refine Z9v rfl ?_ | refine Z9w ?_)); refine Z9u ?_) | refine awp_seq ?_ | refine Zbm (fun _ _ => rfl) ?_ | refine Kc1 rfl ?_))
    rw [wu64 i, wu64]
    skip
    refine Z8d ?_
    exact Kar rfl ⟨by simp only [Z8m]; congr 1; omega, rfl⟩
  · (rw [decide_eq_false (p := i < 0) (by omega)])
    (repeat (first | refine st_q rfl rfl rfl ?_ | (refine Z8y ?_; (repeat (first | refine Z9v rfl ?_ | refine Z9w ?_)); refine Z9u ?_) | refine awp_seq ?_ | refine Zbm (fun _ _ => rfl) ?_ | refine Zbn (fun _ _ => rfl) ?_ | refine Kc2 rfl ?_))
    rw [wu64]
    skip
    refine Z8d ?_
    exact Kar rfl ⟨by simp only [Z8m]; congr 1; omega, rfl⟩
theorem digN10 {u : Nat} (h : 10 ≤ u) : digN u = digN (u / 10) + 1 := by rw [digN, dif_neg (by omega)]
theorem Z12s {u : Nat} (h : 100000000 ≤ u) : digN u = digN (u / 100000000) + 8 := by
  rw [digN10 (u := u) (by omega), digN10 (u := u / 10) (by omega), digN10 (u := u / 10 / 10) (by omega), digN10 (u := u / 10 / 10 / 10) (by omega), digN10 (u := u / 10 / 10 / 10 / 10) (by omega),
    digN10 (u := u / 10 / 10 / 10 / 10 / 10) (by omega), digN10 (u := u / 10 / 10 / 10 / 10 / 10 / 10) (by omega), digN10 (u := u / 10 / 10 / 10 / 10 / 10 / 10 / 10) (by omega)]
  have e : u / 10 / 10 / 10 / 10 / 10 / 10 / 10 / 10 = u / 100000000 := by omega
  rw [e]
theorem Z12t (i : Int) (h0 : -9223372036854775808 ≤ i) (h1 : i ≤ 9223372036854775807) (σ : Zc) : Z1q Try.prog Zgc [.int .i64 i] σ fun r σ' => r = .int .i64 (digN i.natAbs : Int) ∧ σ' = σ := by
  refine Z8t rfl Z12m (Nat.le_of_ble_eq_true rfl) ?_
  (repeat (first | refine st_q rfl rfl rfl ?_ | (refine Z8y ?_; (repeat (first | refine Z9v rfl ?_ | refine Z9w ?_)); refine Z9u ?_) | refine awp_seq ?_ | refine Zbm (fun _ _ => rfl) ?_))
  (first | refine Z9t rfl ((Z12r i h0 h1) _) ?_ | refine Z8v rfl (Z9t rfl ((Z12r i h0 h1) _) ?_) | refine Zbw rfl (Z12r i h0 h1) ?_ | refine Z8v rfl (Zbw rfl (Z12r i h0 h1) ?_))
  have hu : i.natAbs ≤ 9223372036854775808 := by omega
  generalize i.natAbs = u at hu
  have h20 := Zmj (u := u) (by omega)
  have div8 : ∀ x : Nat, x ≤ 9223372036854775808 → IntKind.wrap .u64 ((x : Int).tdiv 100000000) = ((x / 100000000 : Nat) : Int) := fun x hx => by
    rw [Int.tdiv_eq_ediv_of_nonneg (by omega), wu64]; omega
  have loop : ∀ (a v : Nat) (R : Z87), v ≤ 9223372036854775808 → a + digN v = digN u + 1 → (∀ F τ, R .normal F τ = AWp Try.prog Z11v.n (.exit 0) (Z8g 0 (Z8e Try.prog Z11v.n (Z11v.code.snd 3) (ARet Z11v.res fun r σ' => r = .int .i64 (digN u : Int) ∧ σ' = σ))) F τ) →
      AWp Try.prog Z11v.n (.loop Z11t) (Z8g 4 R) (fset 3 (some (.int .i64 (a : Int))) (fset 4 (some (.int .u64 (v : Int))) Z27)) σ := by
    intro a v R hv hav hR
    refine Zaa (fun m F σ' => ∃ (a v : Nat), F = fset 3 (some (.int .i64 (a : Int))) (fset 4 (some (.int .u64 (v : Int))) Z27) ∧ σ = σ' ∧ v ≤ 9223372036854775808 ∧ a + digN v = digN u + 1 ∧ m = v) (n := v) ⟨a, v, rfl, rfl, hv, hav, rfl⟩ ?_
    rintro v F σ' ⟨a, m, rfl, rfl, hv, hav, rfl⟩
    (repeat (first | refine st_q rfl rfl rfl ?_ | (refine Z8y ?_; (repeat (first | refine Z9v rfl ?_ | refine Z9w ?_)); refine Z9u ?_) | refine awp_seq ?_ | refine Zbm (fun _ _ => rfl) ?_))
    refine Za3 (p := (10 : Int) ≤ (v : Int)) rfl (fun h3 => ?_) (fun h3 => ?_)
    · rw [digN10 (by omega)] at hav
      refine Zbn (fun _ _ => rfl) ?_
      (refine Z9y (keep := [3, 4]) ?_; ((repeat (first | refine Z9v rfl ?_ | refine Z9w ?_)); refine Z9u ?_))
      refine Z8h ?_
      refine awp_seq ?_
      refine Zbm (fun _ _ => rfl) ?_
      (repeat (refine st_q rfl rfl rfl ?_))
      rw [Kwr a (by omega)]
      (refine Z8y ?_; (repeat (first | refine Z9v rfl ?_ | refine Z9w ?_)); refine Z9u ?_)
      refine awp_region ?_
      (repeat (refine st_q rfl rfl rfl ?_))
      rw [show IntKind.wrap .u64 ((v : Int).tdiv 10) = ((v / 10 : Nat) : Int) by rw [Int.tdiv_eq_ediv_of_nonneg (by omega), wu64]; omega]
      refine Z8y ?_
      refine Zac (keep := [3, 4]) ?_
      ((repeat (first | refine Z9v rfl ?_ | refine Z9w ?_)); refine Z9u ?_)
      exact ⟨_, v / 10, HSub.refl _, ⟨a + 1, v / 10, rfl, rfl, by omega, by omega, rfl⟩, by omega⟩
    · have hd : digN v = 1 := by rw [digN, dif_pos (by omega)]
      have ha : a = digN u := by omega
      subst ha
      refine Z8c ?_
      show Z8g 4 R (.exit 4) _ _
      simp only [Z8g, if_true]
      rw [hR]
      (repeat (first | refine st_q rfl rfl rfl ?_ | (refine Z8y ?_; (repeat (first | refine Z9v rfl ?_ | refine Z9w ?_)); refine Z9u ?_) | refine awp_seq ?_ | refine Zbm (fun _ _ => rfl) ?_ | refine Zbo (fun _ _ => rfl) ?_))
      (refine Z8d ?_; exact Kar rfl ⟨rfl, rfl⟩)
  (repeat (first | refine st_q rfl rfl rfl ?_ | (refine Z8y ?_; (repeat (first | refine Z9v rfl ?_ | refine Z9w ?_)); refine Z9u ?_) | refine awp_seq ?_ | refine Zbm (fun _ _ => rfl) ?_ | refine Z8h ?_))
  by_cases q1 : 10000000000000000 ≤ u
  · (rw [decide_eq_true (p := (10000000000000000 : Int) ≤ (u : Int)) (by omega)])
    (repeat (first | refine st_q rfl rfl rfl ?_ | (refine Z8y ?_; (repeat (first | refine Z9v rfl ?_ | refine Z9w ?_)); refine Z9u ?_) | refine awp_seq ?_ | refine Zbm (fun _ _ => rfl) ?_ | refine Z8h ?_ | refine Zbo (fun _ _ => rfl) ?_ | refine Kc1 rfl ?_))
    rw [div8 u hu, div8 (u / 100000000) (by omega), show IntKind.wrap .i64 (IntKind.wrap .i64 (1 + 8) + 8) = ((17 : Nat) : Int) by decide]
    exact loop 17 (u / 100000000 / 100000000) _ (by omega) (by rw [Z12s (u := u) (by omega), Z12s (u := u / 100000000) (by omega)]; omega) (fun _ _ => rfl)
  · (rw [decide_eq_false (p := (10000000000000000 : Int) ≤ (u : Int)) (by omega)])
    (repeat (first | refine st_q rfl rfl rfl ?_ | (refine Z8y ?_; (repeat (first | refine Z9v rfl ?_ | refine Z9w ?_)); refine Z9u ?_) | refine awp_seq ?_ | refine Zbm (fun _ _ => rfl) ?_ | refine Zbn (fun _ _ => rfl) ?_ | refine Kc2 rfl ?_))
    by_cases q2 : 100000000 ≤ u
    · (rw [decide_eq_true (p := (100000000 : Int) ≤ (u : Int)) (by omega)])
      (repeat (first | refine st_q rfl rfl rfl ?_ | (refine Z8y ?_; (repeat (first | refine Z9v rfl ?_ | refine Z9w ?_)); refine Z9u ?_) | refine awp_seq ?_ | refine Zbm (fun _ _ => rfl) ?_ | refine Z8h ?_ | refine Zbo (fun _ _ => rfl) ?_ | refine Kc1 rfl ?_))
      rw [div8 u hu, show IntKind.wrap .i64 (1 + 8) = ((9 : Nat) : Int) by decide]
      exact loop 9 (u / 100000000) _ (by omega) (by rw [Z12s (u := u) (by omega)]; omega) (fun _ _ => rfl)
    · (rw [decide_eq_false (p := (100000000 : Int) ≤ (u : Int)) (by omega)])
      (repeat (first | refine awp_seq ?_ | refine Z8h ?_ | refine Zbn (fun _ _ => rfl) ?_ | refine Zbo (fun _ _ => rfl) ?_ | refine Kc2 rfl ?_))
      (refine Z9y (keep := [3, 4]) ?_; ((repeat (first | refine Z9v rfl ?_ | refine Z9w ?_)); refine Z9u ?_))
      change AWp _ _ (.loop Z11t) _ (fset 3 (some (.int .i64 ((1 : Nat) : Int))) (fset 4 (some (.int .u64 (u : Int))) Z27)) _
      exact loop 1 u _ (by omega) (by omega) (fun _ _ => rfl)
theorem Z12u (b : List UInt8) (f : Bool) (hb : b.length ≤ 9223372036854775807) (σ : Zc) : Z1q Try.prog Zge [.slc 1 (bytes b) f] σ fun r σ' => r = .int .i64 (Zmc b : Int) ∧ σ' = σ := by
  refine Z8t rfl Z12o (Nat.le_of_ble_eq_true rfl) ?_
  (repeat (first | refine st_q rfl rfl rfl ?_ | (refine Z8y ?_; (repeat (first | refine Z9v rfl ?_ | refine Z9w ?_)); refine Z9u ?_) | refine awp_seq ?_ | refine Zbm (fun _ _ => rfl) ?_ | refine Z8h ?_))
  rw [Zam]
  refine Zaa (fun m F σ' => ∃ (i : Nat), F = fset 3 (some (.int .i64 (Zmc (b.take i) : Int))) (fset 6 (some (.slc 1 (bytes b) f)) (fset 7 (some (.int .i64 (b.length : Int))) (fset 8 (some (.int .i64 (i : Int))) Z27))) ∧ σ = σ' ∧ i ≤ b.length ∧ m = b.length - i) (n := b.length)
    ⟨0, rfl, rfl, by omega, rfl⟩ ?_
  rintro m F σ' ⟨i, rfl, rfl, hi, rfl⟩
  (repeat (first | refine st_q rfl rfl rfl ?_ | (refine Z8y ?_; (repeat (first | refine Z9v rfl ?_ | refine Z9w ?_)); refine Z9u ?_) | refine awp_seq ?_ | refine Zbm (fun _ _ => rfl) ?_))
  refine Za3 (p := (i : Int) < (b.length : Int)) rfl (fun h3 => ?_) (fun h3 => ?_)
  · obtain ⟨c, hc⟩ : ∃ c, b[i]? = some c := ⟨_, List.getElem?_eq_getElem (by omega)⟩
    have hx : (bytes b)[(i : Int).toNat]? = some (Zx c) := by rw [Zao, Int.toNat_natCast, hc]; rfl
    have hst := Zml hc
    have hsl := Zmk (b.take (i + 1))
    rw [List.length_take] at hsl
    (repeat (first | refine awp_seq ?_ | refine Zbm (fun _ _ => rfl) ?_ | refine Z8h ?_ | refine Zbn (fun _ _ => rfl) ?_))
    refine Z93 rfl (by omega) hx ?_
    (repeat (first | refine st_q rfl rfl rfl ?_ | (refine Z8y ?_; (repeat (first | refine Z9v rfl ?_ | refine Z9w ?_)); refine Z9u ?_) | refine awp_seq ?_ | refine Zbm (fun _ _ => rfl) ?_))
    have e6 : Int.fdiv (c.toNat : Int) (2 ^ (Nat.min ((6 : Int).toNat) IntKind.u8.bits)) = ((c.toNat / 64 : Nat) : Int) := by
      show Int.fdiv (c.toNat : Int) 64 = _
      rw [Int.fdiv_eq_ediv_of_nonneg _ (by omega)]; omega
    rw [e6]
    have next : ∀ x : Int, x = (Zmc (b.take (i + 1)) : Int) → AWp Try.prog Z129.n (.region Z126 [3, 6, 7, 8]) (Za9 (fun m F σ' => ∃ (i : Nat), F = fset 3 (some (.int .i64 (Zmc (b.take i) : Int))) (fset 6 (some (.slc 1 (bytes b) f)) (fset 7 (some (.int .i64 (b.length : Int))) (fset 8 (some (.int .i64 (i : Int))) Z27))) ∧ σ = σ' ∧ i ≤ b.length ∧ m = b.length - i) (b.length - i)
        (Z8g 0 (Z8e Try.prog Z129.n (Z129.code.snd 3) (ARet Z129.res fun r σ' => r = .int .i64 (Zmc b : Int) ∧ σ' = σ))))
        (fset 3 (some (.int .i64 x)) (fset 6 (some (.slc 1 (bytes b) f)) (fset 7 (some (.int .i64 (b.length : Int))) (fset 8 (some (.int .i64 (i : Int))) Z27)))) σ := by
      rintro x rfl
      refine Zbp ?_
      (repeat (refine st_q rfl rfl rfl ?_))
      rw [Kwr i (by omega)]
      (repeat (refine st_q rfl rfl rfl ?_))
      (refine Z8y ?_; (repeat (first | refine Z9v rfl ?_ | refine Z9w ?_)); refine Z9u ?_)
      exact ⟨_, b.length - (i + 1), HSub.refl _, ⟨i + 1, rfl, rfl, by omega, rfl⟩, by omega⟩
    refine Za3 (p := ((c.toNat / 64 : Nat) : Int) ≠ 2) rfl (fun h4 => ?_) (fun h4 => ?_)
    · refine Zbm (fun _ _ => rfl) ?_
      (repeat (refine st_q rfl rfl rfl ?_))
      (refine Z8y ?_; (repeat (first | refine Z9v rfl ?_ | refine Z9w ?_)); refine Z9u ?_)
      refine next _ ?_
      rw [hst, if_pos (by omega)]
      rw [hst, if_pos (by omega)] at hsl
      rw [w64 _ (by omega) (by omega)]; rfl
    · refine Zbn (fun _ _ => rfl) ?_
      (refine Z9y (keep := [3, 6, 7, 8]) ?_; ((repeat (first | refine Z9v rfl ?_ | refine Z9w ?_)); refine Z9u ?_))
      refine next _ ?_
      rw [hst, if_neg (by omega)]; rfl
  · (repeat (first | refine st_q rfl rfl rfl ?_ | (refine Z8y ?_; (repeat (first | refine Z9v rfl ?_ | refine Z9w ?_)); refine Z9u ?_) | refine awp_seq ?_ | refine Zbm (fun _ _ => rfl) ?_ | refine Zbo (fun _ _ => rfl) ?_))
    have hie : i = b.length := by omega
    subst hie
    refine Z8d ?_
    exact Kar rfl ⟨by rw [List.take_length]; rfl, rfl⟩
theorem Z12v (v : Int) (k : Int) (lo hi : Int) (hlo : IntKind.wrap .i64 (-1 * 2 ^ (Nat.min (IntKind.wrap .i64 (k - 1)).toNat IntKind.i64.bits)) = lo) (hhi : IntKind.wrap .i64 (IntKind.wrap .i64 (1 * 2 ^ (Nat.min (IntKind.wrap .i64 (k - 1)).toNat IntKind.i64.bits)) - 1) = hi) (hk : 0 ≤ IntKind.wrap .i64 (k - 1)) (σ : Zc) :
    Z1q Try.prog Zgb [.int .i64 v, .int .i64 k] σ fun r σ' => r = .bool (decide (lo ≤ v ∧ v ≤ hi)) ∧ σ' = σ := by
  refine Z8t rfl Z12l (Nat.le_of_ble_eq_true rfl) ?_
  (repeat (first | refine st_q rfl rfl rfl ?_ | (refine Z8y ?_; (repeat (first | refine Z9v rfl ?_ | refine Z9w ?_)); refine Z9u ?_) | refine awp_seq ?_ | refine Zbm (fun _ _ => rfl) ?_))
  refine Z95 rfl hk ?_
  (repeat refine st_q rfl rfl rfl ?_)
  rw [hlo]
  by_cases h1 : lo ≤ v
  · (rw [decide_eq_true (p := lo ≤ v) (by omega)])
    (repeat refine Z8v rfl (st_q rfl rfl rfl ?_))
    refine Z8v rfl (Z95 rfl hk ?_)
    (repeat (first | refine st_q rfl rfl rfl ?_ | refine Z8v rfl (st_q rfl rfl rfl ?_) | (refine Z8y ?_; (repeat (first | refine Z9v rfl ?_ | refine Z9w ?_)); refine Z9u ?_)))
    rw [hhi]
    (refine Z8d ?_; exact Kar rfl ⟨(by simp [h1, Z8m]), rfl⟩)
  · (rw [decide_eq_false (p := lo ≤ v) (by omega)])
    (repeat (first | refine st_q rfl rfl rfl ?_ | refine Z8w rfl ?_ | (refine Z8y ?_; (repeat (first | refine Z9v rfl ?_ | refine Z9w ?_)); refine Z9u ?_)))
    (refine Z8d ?_; exact Kar rfl ⟨(by simp [h1, Z8m]), rfl⟩)
theorem Z12w (v : Int) (σ : Zc) : Z1q Try.prog Zgb [.int .i64 v, .int .i64 8] σ fun r σ' => r = .bool (decide (-128 ≤ v ∧ v ≤ 127)) ∧ σ' = σ := Z12v v 8 _ _ (by decide) (by decide) (by decide) σ
theorem Z12x (v : Int) (σ : Zc) : Z1q Try.prog Zgb [.int .i64 v, .int .i64 16] σ fun r σ' => r = .bool (decide (-32768 ≤ v ∧ v ≤ 32767)) ∧ σ' = σ := Z12v v 16 _ _ (by decide) (by decide) (by decide) σ
theorem Z12y (v : Int) (σ : Zc) : Z1q Try.prog Zgb [.int .i64 v, .int .i64 32] σ fun r σ' => r = .bool (decide (-2147483648 ≤ v ∧ v ≤ 2147483647)) ∧ σ' = σ := Z12v v 32 _ _ (by decide) (by decide) (by decide) σ
def numI (k : Int) (kids : Nat) (prec i n : Int) : Bool :=
  if k = 0 then decide (i = 0 ∨ i = 1)
  else if k = 1 then decide (-128 ≤ i ∧ i ≤ 127)
  else if k = 2 then decide (-32768 ≤ i ∧ i ≤ 32767)
  else if k = 3 ∨ k = 15 then decide (-2147483648 ≤ i ∧ i ≤ 2147483647)
  else if k = 4 then true
  else if k = 14 then decide ((digN i.natAbs : Int) ≤ prec)
  else if k = 9 then Zmd i n
  else if k = 13 then decide (0 ≤ i ∧ i < kids)
  else decide (i = 0)
theorem Z12z (k : Int) (kids : Nat) (prec i n : Int) : Zme k kids prec i n = if n ≠ 0 ∧ k ≠ 9 then false else numI k kids prec i n := rfl
theorem Z130 (t : Ty) (v : Vl) (h0 : -9223372036854775808 ≤ v.i ∧ v.i ≤ 9223372036854775807) (σ : Zc) : Z1q Try.prog Zft [encT t, encV v] σ fun r σ' => r = .bool (numI t.kind t.kids.length t.prec v.i v.n) ∧ σ' = σ := by
  obtain ⟨k, ns, ks, l, p, s⟩ := t
  obtain ⟨nu, i, n, b, vks⟩ := v
  simp only [encT, encV, Ty.kind, Ty.kids, Ty.prec, Vl.i, Vl.n] at *
  refine Z8t rfl Z12h (Nat.le_of_ble_eq_true rfl) ?_
  refine Z9z ?_
  refine Z9j rfl (Kfi rfl) fun b1 hb1 => ?_
  refine Z9j rfl (Kfi rfl) fun b2 hb2 => ?_
  (repeat (refine st_q rfl rfl rfl ?_))
  (refine Z8y ?_; (repeat (first | refine Z9v rfl ?_ | refine Z9w ?_)); refine Z9u ?_)
  refine Zb3 (d := 3) (cs := [.bool nu, .int .i64 i, .int .i64 n, .slc 1 (bytes b) false, .slc 5 (Zm5 vks) false]) rfl ?_
  refine Zb3 (d := 2) (cs := [.int .i64 k, .slc 1 (ns.map .str) false, .slc 6 (Zln ks) false, .int .i64 l, .int .i64 p, .int .i64 s]) rfl ?_
  by_cases k0 : k = 0
  · subst k0
    (repeat (first | refine st_q rfl rfl rfl ?_ | (refine Z8y ?_; (repeat (first | refine Z9v rfl ?_ | refine Z9w ?_)); refine Z9u ?_) | refine awp_seq ?_ | refine Zbm (fun _ _ => rfl) ?_ | refine Z8h ?_ | refine Kc1 rfl ?_))
    by_cases q : i = 0
    · (rw [decide_eq_true (p := i = 0) (by omega)])
      (repeat (first | refine st_q rfl rfl rfl ?_ | refine Z8w rfl ?_ | (refine Z8y ?_; (repeat (first | refine Z9v rfl ?_ | refine Z9w ?_)); refine Z9u ?_)))
      (refine Z8d ?_; exact Kar rfl ⟨(by simp [numI, q, Z8m]), rfl⟩)
    · (rw [decide_eq_false (p := i = 0) (by omega)])
      (repeat (first | refine st_q rfl rfl rfl ?_ | refine Z8v rfl (st_q rfl rfl rfl ?_) | (refine Z8y ?_; (repeat (first | refine Z9v rfl ?_ | refine Z9w ?_)); refine Z9u ?_)))
      (refine Z8d ?_; exact Kar rfl ⟨(by simp [numI, q, Z8m]), rfl⟩)
  by_cases k1 : k = 1
  · subst k1
    (repeat (first | refine st_q rfl rfl rfl ?_ | (refine Z8y ?_; (repeat (first | refine Z9v rfl ?_ | refine Z9w ?_)); refine Z9u ?_) | refine awp_seq ?_ | refine Zbm (fun _ _ => rfl) ?_ | refine Z8h ?_ | refine Kc1 rfl ?_ | refine Kc2 rfl ?_))
    (first | refine Z9t rfl ((Z12w i) _) ?_ | refine Z8v rfl (Z9t rfl ((Z12w i) _) ?_) | refine Zbw rfl (Z12w i) ?_ | refine Z8v rfl (Zbw rfl (Z12w i) ?_))
    (repeat (first | refine st_q rfl rfl rfl ?_ | (refine Z8y ?_; (repeat (first | refine Z9v rfl ?_ | refine Z9w ?_)); refine Z9u ?_)))
    (refine Z8d ?_; exact Kar rfl ⟨(by simp [numI, Z8m]), rfl⟩)
  by_cases k2 : k = 2
  · subst k2
    (repeat (first | refine st_q rfl rfl rfl ?_ | (refine Z8y ?_; (repeat (first | refine Z9v rfl ?_ | refine Z9w ?_)); refine Z9u ?_) | refine awp_seq ?_ | refine Zbm (fun _ _ => rfl) ?_ | refine Z8h ?_ | refine Kc1 rfl ?_ | refine Kc2 rfl ?_))
    (first | refine Z9t rfl ((Z12x i) _) ?_ | refine Z8v rfl (Z9t rfl ((Z12x i) _) ?_) | refine Zbw rfl (Z12x i) ?_ | refine Z8v rfl (Zbw rfl (Z12x i) ?_))
    (repeat (first | refine st_q rfl rfl rfl ?_ | (refine Z8y ?_; (repeat (first | refine Z9v rfl ?_ | refine Z9w ?_)); refine Z9u ?_)))
    (refine Z8d ?_; exact Kar rfl ⟨(by simp [numI, Z8m]), rfl⟩)
  by_cases k3 : k = 3
  · subst k3
    (repeat (first | refine st_q rfl rfl rfl ?_ | (refine Z8y ?_; (repeat (first | refine Z9v rfl ?_ | refine Z9w ?_)); refine Z9u ?_) | refine awp_seq ?_ | refine Zbm (fun _ _ => rfl) ?_ | refine Z8h ?_ | refine Zbn (fun _ _ => rfl) ?_ | refine Kc1 rfl ?_ | refine Kc2 rfl ?_))
    (first | refine Z9t rfl ((Z12y i) _) ?_ | refine Z8v rfl (Z9t rfl ((Z12y i) _) ?_) | refine Zbw rfl (Z12y i) ?_ | refine Z8v rfl (Zbw rfl (Z12y i) ?_))
    (repeat (first | refine st_q rfl rfl rfl ?_ | (refine Z8y ?_; (repeat (first | refine Z9v rfl ?_ | refine Z9w ?_)); refine Z9u ?_)))
    (refine Z8d ?_; exact Kar rfl ⟨(by simp [numI, Z8m]), rfl⟩)
  by_cases k15 : k = 15
  · subst k15
    (repeat (first | refine st_q rfl rfl rfl ?_ | (refine Z8y ?_; (repeat (first | refine Z9v rfl ?_ | refine Z9w ?_)); refine Z9u ?_) | refine awp_seq ?_ | refine Zbm (fun _ _ => rfl) ?_ | refine Z8h ?_ | refine Kc1 rfl ?_ | refine Kc2 rfl ?_))
    (first | refine Z9t rfl ((Z12y i) _) ?_ | refine Z8v rfl (Z9t rfl ((Z12y i) _) ?_) | refine Zbw rfl (Z12y i) ?_ | refine Z8v rfl (Zbw rfl (Z12y i) ?_))
    (repeat (first | refine st_q rfl rfl rfl ?_ | (refine Z8y ?_; (repeat (first | refine Z9v rfl ?_ | refine Z9w ?_)); refine Z9u ?_)))
    (refine Z8d ?_; exact Kar rfl ⟨(by simp [numI, Z8m]), rfl⟩)
  by_cases k4 : k = 4
  · subst k4
    (repeat (first | refine st_q rfl rfl rfl ?_ | (refine Z8y ?_; (repeat (first | refine Z9v rfl ?_ | refine Z9w ?_)); refine Z9u ?_) | refine awp_seq ?_ | refine Zbm (fun _ _ => rfl) ?_ | refine Z8h ?_ | refine Kc1 rfl ?_ | refine Kc2 rfl ?_))
    (refine Z8d ?_; exact Kar rfl ⟨(by simp [numI, Z8m]), rfl⟩)
  by_cases k14 : k = 14
  · subst k14
    (repeat (first | refine st_q rfl rfl rfl ?_ | (refine Z8y ?_; (repeat (first | refine Z9v rfl ?_ | refine Z9w ?_)); refine Z9u ?_) | refine awp_seq ?_ | refine Zbm (fun _ _ => rfl) ?_ | refine Z8h ?_ | refine Kc1 rfl ?_ | refine Kc2 rfl ?_))
    (first | refine Z9t rfl ((Z12t i h0.1 h0.2) _) ?_ | refine Z8v rfl (Z9t rfl ((Z12t i h0.1 h0.2) _) ?_) | refine Zbw rfl (Z12t i h0.1 h0.2) ?_ | refine Z8v rfl (Zbw rfl (Z12t i h0.1 h0.2) ?_))
    (repeat (first | refine st_q rfl rfl rfl ?_ | (refine Z8y ?_; (repeat (first | refine Z9v rfl ?_ | refine Z9w ?_)); refine Z9u ?_)))
    (refine Z8d ?_; exact Kar rfl ⟨(by simp [numI, Z8m]), rfl⟩)
  by_cases k9 : k = 9
  · subst k9
    (repeat (first | refine st_q rfl rfl rfl ?_ | (refine Z8y ?_; (repeat (first | refine Z9v rfl ?_ | refine Z9w ?_)); refine Z9u ?_) | refine awp_seq ?_ | refine Zbm (fun _ _ => rfl) ?_ | refine Z8h ?_ | refine Kc1 rfl ?_ | refine Kc2 rfl ?_))
    (first | refine Z9t rfl ((Z12q i n) _) ?_ | refine Z8v rfl (Z9t rfl ((Z12q i n) _) ?_) | refine Zbw rfl (Z12q i n) ?_ | refine Z8v rfl (Zbw rfl (Z12q i n) ?_))
    (repeat (first | refine st_q rfl rfl rfl ?_ | (refine Z8y ?_; (repeat (first | refine Z9v rfl ?_ | refine Z9w ?_)); refine Z9u ?_)))
    (refine Z8d ?_; exact Kar rfl ⟨(by simp [numI, Z8m]), rfl⟩)
  by_cases k13 : k = 13
  · subst k13
    (repeat (first | refine st_q rfl rfl rfl ?_ | (refine Z8y ?_; (repeat (first | refine Z9v rfl ?_ | refine Z9w ?_)); refine Z9u ?_) | refine awp_seq ?_ | refine Zbm (fun _ _ => rfl) ?_ | refine Z8h ?_ | refine Kc1 rfl ?_ | refine Kc2 rfl ?_))
    by_cases q : 0 ≤ i
    · (rw [decide_eq_true (p := 0 ≤ i) (by omega)])
      (repeat (first | refine st_q rfl rfl rfl ?_ | refine Z8v rfl (st_q rfl rfl rfl ?_) | (refine Z8y ?_; (repeat (first | refine Z9v rfl ?_ | refine Z9w ?_)); refine Z9u ?_)))
      rw [Zlr]
      (refine Z8d ?_; exact Kar rfl ⟨(by simp [numI, q, Z8m]), rfl⟩)
    · (rw [decide_eq_false (p := 0 ≤ i) (by omega)])
      (repeat (first | refine st_q rfl rfl rfl ?_ | refine Z8w rfl ?_ | (refine Z8y ?_; (repeat (first | refine Z9v rfl ?_ | refine Z9w ?_)); refine Z9u ?_)))
      (refine Z8d ?_; exact Kar rfl ⟨(by simp [numI, q, Z8m]), rfl⟩)
  (repeat (first | refine st_q rfl rfl rfl ?_ | (refine Z8y ?_; (repeat (first | refine Z9v rfl ?_ | refine Z9w ?_)); refine Z9u ?_) | refine awp_seq ?_ | refine Zbm (fun _ _ => rfl) ?_ | refine Z8h ?_))
  (rw [decide_eq_false (p := k = 0) (by omega)])
  (repeat (first | refine st_q rfl rfl rfl ?_ | (refine Z8y ?_; (repeat (first | refine Z9v rfl ?_ | refine Z9w ?_)); refine Z9u ?_) | refine awp_seq ?_ | refine Zbm (fun _ _ => rfl) ?_ | refine Kc2 rfl ?_))
  (rw [decide_eq_false (p := k = 1) (by omega)])
  (repeat (first | refine st_q rfl rfl rfl ?_ | (refine Z8y ?_; (repeat (first | refine Z9v rfl ?_ | refine Z9w ?_)); refine Z9u ?_) | refine awp_seq ?_ | refine Zbm (fun _ _ => rfl) ?_ | refine Kc2 rfl ?_))
  (rw [decide_eq_false (p := k = 2) (by omega)])
  (repeat (first | refine st_q rfl rfl rfl ?_ | (refine Z8y ?_; (repeat (first | refine Z9v rfl ?_ | refine Z9w ?_)); refine Z9u ?_) | refine awp_seq ?_ | refine Zbm (fun _ _ => rfl) ?_ | refine Kc2 rfl ?_))
  (rw [decide_eq_false (p := k = 3) (by omega)])
  (repeat (first | refine st_q rfl rfl rfl ?_ | (refine Z8y ?_; (repeat (first | refine Z9v rfl ?_ | refine Z9w ?_)); refine Z9u ?_) | refine Zbm (fun _ _ => rfl) ?_ | refine Kc2 rfl ?_))
  (rw [decide_eq_false (p := k = 15) (by omega)])
  (repeat (first | refine st_q rfl rfl rfl ?_ | (refine Z8y ?_; (repeat (first | refine Z9v rfl ?_ | refine Z9w ?_)); refine Z9u ?_) | refine awp_seq ?_ | refine Zbm (fun _ _ => rfl) ?_ | refine Kc2 rfl ?_))
  (rw [decide_eq_false (p := k = 4) (by omega)])
  (repeat (first | refine st_q rfl rfl rfl ?_ | (refine Z8y ?_; (repeat (first | refine Z9v rfl ?_ | refine Z9w ?_)); refine Z9u ?_) | refine awp_seq ?_ | refine Zbm (fun _ _ => rfl) ?_ | refine Kc2 rfl ?_))
  (rw [decide_eq_false (p := k = 14) (by omega)])
  (repeat (first | refine st_q rfl rfl rfl ?_ | (refine Z8y ?_; (repeat (first | refine Z9v rfl ?_ | refine Z9w ?_)); refine Z9u ?_) | refine awp_seq ?_ | refine Zbm (fun _ _ => rfl) ?_ | refine Kc2 rfl ?_))
  (rw [decide_eq_false (p := k = 9) (by omega)])
  (repeat (first | refine st_q rfl rfl rfl ?_ | (refine Z8y ?_; (repeat (first | refine Z9v rfl ?_ | refine Z9w ?_)); refine Z9u ?_) | refine awp_seq ?_ | refine Zbm (fun _ _ => rfl) ?_ | refine Kc2 rfl ?_))
  (rw [decide_eq_false (p := k = 13) (by omega)])
  (repeat (first | refine st_q rfl rfl rfl ?_ | (refine Z8y ?_; (repeat (first | refine Z9v rfl ?_ | refine Z9w ?_)); refine Z9u ?_) | refine awp_seq ?_ | refine Zbm (fun _ _ => rfl) ?_ | refine Zbn (fun _ _ => rfl) ?_ | refine Kc2 rfl ?_))
  (refine Z8d ?_; exact Kar rfl ⟨(by simp [numI, Z8m, k0, k1, k2, k3, k15, k4, k14, k9, k13]), rfl⟩)
end Go.Abs
namespace Go.Abs
open Go Go.Proofs
set_option linter.unusedVariables false
set_option linter.unusedSimpArgs false
set_option maxHeartbeats 4000000
section
variable {P : Program} {l : List Z2a} {F : Z26} {σ : Zc} {Q : Z26 → Zc → Prop}
theorem Z1ve {d : Nat} {args : List Zw} {s b off n : Nat} {x : Z0} {xs ys : List Z0} (h1 : evs F args = some [.arr s b off n, x]) (hg : Zd σ b = some (.cells 1 xs)) (hy : Z1m σ 1 x = some ys) (hle : off + n ≤ xs.length)
    {σ' : Zc} (hs : Ze σ b (.cells 1 (xs.take off ++ ys.take (Nat.min ys.length n) ++ xs.drop (off + Nat.min ys.length n))) = σ') (h : aops P l (fset d (some (.int .i64 (Nat.min ys.length n : Nat))) F) σ' Q) : aops P (⟨some d, .cpy 1, args, none⟩ :: l) F σ Q := by
  subst hs
  exact ⟨_, h1, xs, ys, hg, hy, hle, h⟩
theorem Z1vf {d sz : Nat} {lo hi mx : Bool} {args : List Zw} {b off len : Nat} {rest : List Z0} {a e c : Int} {v : Z0} (h1 : evs F args = some (.arr sz b off len :: rest)) (hb : bnds len lo hi mx rest = some (a, e, c)) (h0 : 0 ≤ a ∧ a ≤ e ∧ e ≤ c ∧ c ≤ len)
    (hv : (if a = 0 then some (.arr sz b off e.toNat) else if a < e then some (.arr sz b (off + a.toNat) (e - a).toNat) else some (.slc sz [] false)) = some v)
    (h : aops P l (fset d (some v) F) σ Q) : aops P (⟨some d, .slc sz lo hi mx, args, none⟩ :: l) F σ Q :=
  st_q h1 (by simp only [Z1p, asub, hb, Option.bind_some]; rw [if_pos ⟨h0, trivial⟩]; exact hv) rfl h
end
attribute [local irreducible] AWp aops KP
theorem andM (n : Nat) (h : n < 4294967296) : intBits .and .u64 (n : Int) 4294967295 = (n : Int) := by
  show IntKind.wrap .u64 ((BitVec.ofInt 64 (n : Int) &&& BitVec.ofInt 64 4294967295).toNat : Int) = _
  have e1 : (BitVec.ofInt 64 4294967295).toNat = 2 ^ 32 - 1 := by decide
  rw [BitVec.toNat_and, BitVec.ofInt_natCast, BitVec.toNat_ofNat, e1, Nat.and_two_pow_sub_one_eq_mod, wu64]
  omega
theorem shrM (n : Nat) (h : n < 4294967296) : Int.fdiv (n : Int) (2 ^ (Nat.min (32 : Int).toNat (IntKind.bits .u64))) = 0 := by
  have e : (2 : Int) ^ (Nat.min (32 : Int).toNat (IntKind.bits .u64)) = 4294967296 := by decide
  rw [e, Int.fdiv_eq_ediv_of_nonneg _ (by omega)]
  omega
theorem Z1vg (n : Nat) (h : n < 4294967296) (σ : Zc) : Z1q Try.prog Zgg [.int .u64 1, .int .u64 (n : Int)] σ fun r σ' => r = .tup [.int .u64 0, .int .u64 (n : Int)] ∧ σ' = σ := by
  have e1 : intBits .and .u64 1 4294967295 = 1 := andM 1 (by omega)
  have e2 := shrM 1 (by omega)
  have e3 := andM n h
  have e4 := shrM n h
  have e5 := shrM 0 (by omega)
  have u : ∀ x : Int, 0 ≤ x → x < 18446744073709551616 → IntKind.wrap .u64 x = x := fun x h1 h2 => by rw [wu64]; omega
  have a0 : intBits .and .u64 0 4294967295 = 0 := andM 0 (by omega)
  refine Z8t rfl Z1v9 (Nat.le_of_ble_eq_true rfl) ?_
  refine Z9z ?_
  (repeat (refine st_q rfl rfl rfl ?_))
  (refine Z8y ?_; (repeat (first | refine Z9v rfl ?_ | refine Z9w ?_)); refine Z9u ?_)
  refine Z9z ?_
  (repeat (refine st_q rfl rfl rfl ?_))
  rw [e1]
  (refine Z8y ?_; (repeat (first | refine Z9v rfl ?_ | refine Z9w ?_)); refine Z9u ?_)
  refine Z9z ?_
  (repeat (refine st_q rfl rfl rfl ?_))
  rw [show Int.fdiv 1 (2 ^ (Nat.min (32 : Int).toNat (IntKind.bits .u64))) = 0 from e2]
  (refine Z8y ?_; (repeat (first | refine Z9v rfl ?_ | refine Z9w ?_)); refine Z9u ?_)
  refine Z9z ?_
  (repeat (refine st_q rfl rfl rfl ?_))
  rw [e3]
  (refine Z8y ?_; (repeat (first | refine Z9v rfl ?_ | refine Z9w ?_)); refine Z9u ?_)
  refine Z9z ?_
  (repeat (refine st_q rfl rfl rfl ?_))
  rw [e4]
  (refine Z8y ?_; (repeat (first | refine Z9v rfl ?_ | refine Z9w ?_)); refine Z9u ?_)
  refine Z9z ?_
  (repeat (refine st_q rfl rfl rfl ?_))
  rw [u (1 * (n : Int)) (by omega) (by omega), Int.one_mul]
  (refine Z8y ?_; (repeat (first | refine Z9v rfl ?_ | refine Z9w ?_)); refine Z9u ?_)
  refine Z9z ?_
  (repeat (refine st_q rfl rfl rfl ?_))
  rw [e4, Int.zero_mul, u 0 (by omega) (by omega), u (0 + 0) (by omega) (by omega)]
  (refine Z8y ?_; (repeat (first | refine Z9v rfl ?_ | refine Z9w ?_)); refine Z9u ?_)
  refine Z9z ?_
  (repeat (refine st_q rfl rfl rfl ?_))
  rw [show intBits .and .u64 (0 + 0) 4294967295 = 0 from a0]
  (refine Z8y ?_; (repeat (first | refine Z9v rfl ?_ | refine Z9w ?_)); refine Z9u ?_)
  refine Z9z ?_
  (repeat (refine st_q rfl rfl rfl ?_))
  rw [show Int.fdiv (0 + 0) (2 ^ (Nat.min (32 : Int).toNat (IntKind.bits .u64))) = 0 from e5]
  (refine Z8y ?_; (repeat (first | refine Z9v rfl ?_ | refine Z9w ?_)); refine Z9u ?_)
  refine Z9z ?_
  (repeat (refine st_q rfl rfl rfl ?_))
  rw [Int.mul_zero, u 0 (by omega) (by omega), u (0 + 0) (by omega) (by omega)]
  (refine Z8y ?_; (repeat (first | refine Z9v rfl ?_ | refine Z9w ?_)); refine Z9u ?_)
  refine Z9z ?_
  (repeat (refine st_q rfl rfl rfl ?_))
  rw [show Int.fdiv (0 + 0) (2 ^ (Nat.min (32 : Int).toNat (IntKind.bits .u64))) = 0 from e5, Int.mul_zero, u 0 (by omega) (by omega), u (0 + 0) (by omega) (by omega), u (0 + 0 + 0) (by omega) (by omega)]
  (refine Z8y ?_; (repeat (first | refine Z9v rfl ?_ | refine Z9w ?_)); refine Z9u ?_)
  refine Z9z ?_
  (repeat (refine st_q rfl rfl rfl ?_))
  rw [u (1 * (n : Int)) (by omega) (by omega), Int.one_mul]
  (refine Z8y ?_; (repeat (first | refine Z9v rfl ?_ | refine Z9w ?_)); refine Z9u ?_)
  refine Z8d ?_
  exact Kar rfl ⟨rfl, rfl⟩
theorem c_Mul (n : Nat) (h : n < 4294967296) (σ : Zc) : Z1q Try.prog Zg1 [.int .u64 1, .int .u64 (n : Int)] σ fun r σ' => r = .tup [.int .u64 0, .int .u64 (n : Int)] ∧ σ' = σ := by
  refine Z8t rfl Z1v8 (Nat.le_of_ble_eq_true rfl) ?_
  (repeat (first | refine st_q rfl rfl rfl ?_ | (refine Z8y ?_; (repeat (first | refine Z9v rfl ?_ | refine Z9w ?_)); refine Z9u ?_) | refine awp_seq ?_ | refine Zbm (fun _ _ => rfl) ?_ | refine Zbn (fun _ _ => rfl) ?_ | refine Kc2 rfl ?_))
  refine Z9t rfl (Z1vg n h _) ?_
  (repeat (first | refine st_q rfl rfl rfl ?_ | (refine Z8y ?_; (repeat (first | refine Z9v rfl ?_ | refine Z9w ?_)); refine Z9u ?_) | refine awp_seq ?_ | refine Zbm (fun _ _ => rfl) ?_))
  refine Z8d ?_
  exact Kar rfl ⟨rfl, rfl⟩
def trues (k n : Nat) : List Z0 := List.replicate k (.bool true) ++ List.replicate (n - k) (.bool false)
theorem Z1vh {k n : Nat} (h : k ≤ n) : (trues k n).length = n := by
  rw [trues, List.length_append, List.length_replicate, List.length_replicate]; omega
theorem Z1vi {k m n : Nat} (h : k + m ≤ n) (hm : m ≤ k) : (trues k n).take k ++ ((trues k n).take k).take m ++ (trues k n).drop (k + m) = trues (k + m) n := by
  have e1 : (trues k n).take k = List.replicate k (.bool true) := by
    rw [trues, List.take_append_of_le_length (by rw [List.length_replicate]; omega), List.take_of_length_le (by rw [List.length_replicate]; omega)]
  have e2 : (trues k n).drop (k + m) = List.replicate (n - (k + m)) (.bool false) := by
    rw [trues, List.drop_append, List.drop_eq_nil_of_le (by rw [List.length_replicate]; omega), List.length_replicate, List.drop_replicate, List.nil_append]
    congr 1
    omega
  rw [e1, e2, List.take_replicate, List.replicate_append_replicate, trues]
  congr 2
  omega
theorem Z1vj (n : Nat) (h1 : 1 ≤ n) (hn : n ≤ 1000000) (f : Bool) (σ : Zc) : Z1q Try.prog Zez [.slc 1 [.bool true] f, .int .i64 (n : Int)] σ fun r σ' => r = .slc 1 (List.replicate n (.bool true)) false ∧ σ' = σ := by
  refine Z8t rfl Z1v7 (Nat.le_of_ble_eq_true rfl) ?_
  (repeat (first | refine st_q rfl rfl rfl ?_ | (refine Z8y ?_; (repeat (first | refine Z9v rfl ?_ | refine Z9w ?_)); refine Z9u ?_) | refine awp_seq ?_ | refine Zbm (fun _ _ => rfl) ?_ | refine Zbn (fun _ _ => rfl) ?_ | refine Kc2 rfl ?_))
  (rw [decide_eq_false (p := (n : Int) < 0) (by omega)])
  skip
  rw [show IntKind.wrap .u64 (n : Int) = (n : Int) by rw [wu64]; omega, show IntKind.wrap .u64 (([Z0.bool true].length : Nat) : Int) = 1 by rw [wu64]; rfl]
  refine Z9t rfl (c_Mul n (by omega) _) ?_
  (repeat (first | refine st_q rfl rfl rfl ?_ | refine Z8v rfl (st_q rfl rfl rfl ?_) | (refine Z8y ?_; (repeat (first | refine Z9v rfl ?_ | refine Z9w ?_)); refine Z9u ?_) | refine awp_seq ?_ | refine Zbm (fun _ _ => rfl) ?_))
  (rw [decide_eq_false (p := (9223372036854775807 : Int) < (n : Int)) (by omega)])
  (repeat (first | refine st_q rfl rfl rfl ?_ | refine awp_seq ?_ | refine Zbm (fun _ _ => rfl) ?_ | refine Zbn (fun _ _ => rfl) ?_ | refine Kc2 rfl ?_))
  rw [w64 _ (by omega) (by omega)]
  refine Z9l rfl (Kfi rfl) (by omega) (by omega) (by omega) (by omega) fun b hb => ?_
  rw [Int.toNat_natCast]
  (repeat (first | refine st_q rfl rfl rfl ?_ | (refine Z8y ?_; (repeat (first | refine Z9v rfl ?_ | refine Z9w ?_)); refine Z9u ?_) | refine awp_seq ?_ | refine Zbm (fun _ _ => rfl) ?_))
  have hr0 : List.replicate n (Z0.bool false) = trues 0 n := by rw [trues]; simp
  rw [hr0]
  have hl0 := Z1vh (Nat.zero_le n)
  have hmin : Nat.min ([Z0.bool true]).length n = 1 := by
    show min 1 n = 1
    omega
  refine Z1ve (ys := [.bool true]) rfl Z8z rfl (by rw [hl0]; omega) Z9b ?_
  have e0 : (trues 0 n).take 0 ++ [Z0.bool true].take (Nat.min ([Z0.bool true]).length n) ++ (trues 0 n).drop (0 + Nat.min ([Z0.bool true]).length n) = trues 1 n := by
    rw [hmin, trues, trues]
    simp [List.drop_replicate]
  rw [e0, hmin]
  (repeat (first | refine st_q rfl rfl rfl ?_ | (refine Z8y ?_; (repeat (first | refine Z9v rfl ?_ | refine Z9w ?_)); refine Z9u ?_) | refine awp_seq ?_ | refine Z8h ?_))
  refine Zaa (fun m F σ' => ∃ k : Nat, F = fset 7 (some (.arr 1 b 0 n)) (fset 8 (some (.int .i64 (k : Nat))) Z27) ∧ (b, Zb.cells 1 (trues k n)) :: σ = σ' ∧ 1 ≤ k ∧ k ≤ n ∧ m = n - k) (n := n - 1)
    ⟨1, rfl, rfl, by omega, by omega, rfl⟩ ?_
  rintro m F σ' ⟨k, rfl, rfl, hk1, hk2, rfl⟩
  have hlk := Z1vh hk2
  (repeat (first | refine st_q rfl rfl rfl ?_ | (refine Z8y ?_; (repeat (first | refine Z9v rfl ?_ | refine Z9w ?_)); refine Z9u ?_) | refine awp_seq ?_ | refine Zbm (fun _ _ => rfl) ?_))
  refine Za3 (p := (k : Int) < (n : Nat)) rfl (fun h5 => ?_) (fun h5 => ?_)
  · have hkn : k < n := by omega
    refine Zbn (fun _ _ => rfl) ?_
    refine Z8h ?_
    refine awp_region ?_
    (repeat (refine st_q rfl rfl rfl ?_))
    refine Z1vf (a := (k : Int)) (e := (n : Int)) (c := (n : Int)) rfl rfl ⟨by omega, by omega, by omega, by omega⟩ (by rw [if_neg (by omega), if_pos (by omega)]) ?_
    (repeat (refine st_q rfl rfl rfl ?_))
    refine Z1vf (a := 0) (e := (k : Int)) (c := (n : Int)) rfl rfl ⟨by omega, by omega, by omega, by omega⟩ (by rw [if_pos rfl]) ?_
    rw [Int.toNat_natCast, show ((n : Int) - (k : Int)).toNat = n - k by omega]
    have hy : Z1m ((b, Zb.cells 1 (trues k n)) :: σ) 1 (.arr 1 b 0 k) = some ((trues k n).take k) := by
      simp only [Z1m, Z8z]
      rw [if_pos ⟨trivial, by omega⟩]; rfl
    have hm : Nat.min ((trues k n).take k).length (n - k) = min k (n - k) := by
      rw [List.length_take, hlk]
      show min _ _ = _
      omega
    refine Z1ve rfl Z8z hy (by omega) Z9b ?_
    rw [hm, show 0 + k = k by omega, Z1vi (k := k) (m := min k (n - k)) (by omega) (by omega)]
    (repeat (refine st_q rfl rfl rfl ?_))
    rw [show IntKind.wrap .i64 ((k : Int) + ((min k (n - k) : Nat) : Int)) = ((k + min k (n - k) : Nat) : Int) by rw [w64 _ (by omega) (by omega)]; omega]
    refine Z8y ?_
    refine Zac (keep := [7, 8]) ?_
    ((repeat (first | refine Z9v rfl ?_ | refine Z9w ?_)); refine Z9u ?_)
    exact ⟨_, n - (k + min k (n - k)), HSub.refl _, ⟨k + min k (n - k), rfl, rfl, by omega, by omega, rfl⟩, by omega⟩
  · obtain rfl : k = n := by omega
    refine Zbo (fun _ _ => rfl) ?_
    refine Zb1 (d := 7) (xs := trues k k) (by rw [hlk]; rfl) ?_
    have et : trues k k = List.replicate k (.bool true) := by rw [trues]; simp
    rw [et]
    (refine Z9y (keep := [7]) ?_; ((repeat (first | refine Z9v rfl ?_ | refine Z9w ?_)); refine Z9u ?_))
    (repeat (first | refine st_q rfl rfl rfl ?_ | (refine Z8y ?_; (repeat (first | refine Z9v rfl ?_ | refine Z9w ?_)); refine Z9u ?_) | refine awp_seq ?_ | refine Zbm (fun _ _ => rfl) ?_))
    refine Z8d ?_
    exact Kar rfl ⟨rfl, rfl⟩
def Whole (l : List Nd) (keep : List Bool) : Prop := ∀ (i : Nat) (n : Nd), l[i]? = some n → ∀ x ∈ n.kids, (keep.getD x false = true → keep.getD i false = true) ∧ (keep.getD i false = true → keep.getD x false = true ∨ n.t.kind = 12)
theorem Z1vk (l : List Nd) (hK : Z1vc l) (keep : List Bool) (hkl : keep.length = l.length) (hw : Whole l keep) (f g : Bool) (σ : Zc) :
    Z1q Try.prog Zf1 [.slc 8 (l.map encN) f, .slc 1 (keep.map .bool) g] σ fun r σ' => r = .bool true ∧ σ' = σ := by
  obtain ⟨hl1, hk1, hk2⟩ := hK
  have hll : (l.map encN).length = l.length := List.length_map ..
  refine Z8t rfl Z1v5 (Nat.le_of_ble_eq_true rfl) ?_
  (repeat (first | refine st_q rfl rfl rfl ?_ | (refine Z8y ?_; (repeat (first | refine Z9v rfl ?_ | refine Z9w ?_)); refine Z9u ?_) | refine awp_seq ?_ | refine Zbm (fun _ _ => rfl) ?_ | refine Z8h ?_))
  rw [hll]
  refine Zaa (fun m F σ' => ∃ (i : Nat), F = fset 0 (some (.slc 8 (l.map encN) f)) (fset 1 (some (.slc 1 (keep.map .bool) g)) (fset 9 (some (.int .i64 (l.length : Nat))) (fset 10 (some (.int .i64 i)) Z27))) ∧ σ = σ' ∧ i ≤ l.length ∧ m = l.length - i) (n := l.length)
    ⟨0, rfl, rfl, by omega, by omega⟩ ?_
  rintro m F σ' ⟨i, rfl, rfl, hi, rfl⟩
  (repeat (first | refine st_q rfl rfl rfl ?_ | (refine Z8y ?_; (repeat (first | refine Z9v rfl ?_ | refine Z9w ?_)); refine Z9u ?_) | refine awp_seq ?_ | refine Zbm (fun _ _ => rfl) ?_))
  refine Za3 (p := (i : Int) < (l.length : Nat)) rfl (fun h3 => ?_) (fun h3 => ?_)
  · have hil : i < l.length := by omega
    have hgN := Zxw (f := encN) hil
    have hkk := hk1 _ (List.getElem_mem hil)
    have hkx := hk2 _ (List.getElem_mem hil)
    have hwi := hw i l[i] (List.getElem?_eq_getElem hil)
    have hgi := Zxw (f := Z0.bool) (show i < keep.length by omega)
    have hdi : keep.getD i false = keep[i] := by rw [List.getD_eq_getElem?_getD, List.getElem?_eq_getElem (by omega)]; rfl
    rw [hdi] at hwi
    generalize keep[i] = ki at hgi hwi
    generalize l[i] = nd at hgN hkk hkx hwi
    have hkn : (ints nd.kids).length = nd.kids.length := List.length_map ..
    rw [encN, Zm2] at hgN
    (repeat (first | refine st_q rfl rfl rfl ?_ | (refine Z8y ?_; (repeat (first | refine Z9v rfl ?_ | refine Z9w ?_)); refine Z9u ?_) | refine awp_seq ?_ | refine Zbm (fun _ _ => rfl) ?_ | refine Z8h ?_ | refine Zbn (fun _ _ => rfl) ?_))
    refine Z93 rfl (by omega) hgN ?_
    (repeat (first | refine st_q rfl rfl rfl ?_ | (refine Z8y ?_; (repeat (first | refine Z9v rfl ?_ | refine Z9w ?_)); refine Z9u ?_) | refine Z8h ?_))
    rw [hkn]
    refine Zaa (fun m F σ' => ∃ (j : Nat), F = fset 0 (some (.slc 8 (l.map encN) f)) (fset 1 (some (.slc 1 (keep.map .bool) g)) (fset 5 (some (.int .i64 i)) (fset 9 (some (.int .i64 (l.length : Nat))) (fset 10 (some (.int .i64 i)) (fset 17 (some (.slc 1 (ints nd.kids) true)) (fset 18 (some (.int .i64 (nd.kids.length : Nat))) (fset 19 (some (.int .i64 j)) Z27))))))) ∧ σ = σ' ∧ j ≤ nd.kids.length ∧ m = nd.kids.length - j) (n := nd.kids.length)
      ⟨0, rfl, rfl, by omega, by omega⟩ ?_
    rintro m F σ' ⟨j, rfl, rfl, hj, rfl⟩
    (repeat (first | refine st_q rfl rfl rfl ?_ | (refine Z8y ?_; (repeat (first | refine Z9v rfl ?_ | refine Z9w ?_)); refine Z9u ?_) | refine awp_seq ?_ | refine Zbm (fun _ _ => rfl) ?_))
    refine Za3 (p := (j : Int) < (nd.kids.length : Nat)) rfl (fun h4 => ?_) (fun h4 => ?_)
    · have hjl : j < nd.kids.length := by omega
      have hx : (ints nd.kids)[((j : Nat) : Int).toNat]? = some (.int .i64 ((nd.kids[j] : Nat) : Int)) := by rw [Int.toNat_natCast, ints, List.getElem?_map, List.getElem?_eq_getElem hjl]; rfl
      have hxlt := hkx _ (List.getElem_mem hjl)
      have hwx := hwi _ (List.getElem_mem hjl)
      generalize nd.kids[j] = x at hx hxlt hwx
      have hgx := Zxw (f := Z0.bool) (show x < keep.length by omega)
      have hdx : keep.getD x false = keep[x] := by rw [List.getD_eq_getElem?_getD, List.getElem?_eq_getElem (by omega)]; rfl
      rw [hdx] at hwx
      generalize keep[x] = kx at hgx hwx
      have next : ∀ (Q : Z87), AWp Try.prog Z1sz.n (.region Z1su [0, 1, 5, 9, 10, 17, 18, 19]) (Za9 (fun m F σ' => ∃ (j : Nat), F = fset 0 (some (.slc 8 (l.map encN) f)) (fset 1 (some (.slc 1 (keep.map .bool) g)) (fset 5 (some (.int .i64 i)) (fset 9 (some (.int .i64 (l.length : Nat))) (fset 10 (some (.int .i64 i)) (fset 17 (some (.slc 1 (ints nd.kids) true)) (fset 18 (some (.int .i64 (nd.kids.length : Nat))) (fset 19 (some (.int .i64 j)) Z27))))))) ∧ σ = σ' ∧ j ≤ nd.kids.length ∧ m = nd.kids.length - j) (nd.kids.length - j) Q)
          (fset 0 (some (.slc 8 (l.map encN) f)) (fset 1 (some (.slc 1 (keep.map .bool) g)) (fset 5 (some (.int .i64 i)) (fset 9 (some (.int .i64 (l.length : Nat))) (fset 10 (some (.int .i64 i)) (fset 17 (some (.slc 1 (ints nd.kids) true)) (fset 18 (some (.int .i64 (nd.kids.length : Nat))) (fset 19 (some (.int .i64 j)) Z27)))))))) σ := by
        intro Q
        refine Zbp ?_
        (repeat (refine st_q rfl rfl rfl ?_))
        rw [Kwr j (by omega)]
        (refine Z8y ?_; (repeat (first | refine Z9v rfl ?_ | refine Z9w ?_)); refine Z9u ?_)
        exact ⟨_, nd.kids.length - (j + 1), HSub.refl _, ⟨j + 1, rfl, rfl, by omega, rfl⟩, by omega⟩
      (repeat (first | refine awp_seq ?_ | refine Zbm (fun _ _ => rfl) ?_ | refine Z8h ?_ | refine Zbn (fun _ _ => rfl) ?_))
      refine Z93 rfl (by omega) hx ?_
      (repeat (first | refine st_q rfl rfl rfl ?_ | (refine Z8y ?_; (repeat (first | refine Z9v rfl ?_ | refine Z9w ?_)); refine Z9u ?_) | refine awp_seq ?_ | refine Zbm (fun _ _ => rfl) ?_))
      refine Z93 rfl (by omega) hgx ?_
      cases kx with
      | true =>
        rw [hwx.1 rfl] at hgi
        (repeat (first | refine st_q rfl rfl rfl ?_ | refine Z8v rfl (st_q rfl rfl rfl ?_)))
        refine Z8v rfl (Z93 rfl (by omega) hgi ?_)
        (repeat (first | refine st_q rfl rfl rfl ?_ | refine Z8v rfl (st_q rfl rfl rfl ?_)))
        refine Z8v rfl (Z93 rfl (by omega) hgi ?_)
        (repeat refine Z8v rfl (st_q rfl rfl rfl ?_))
        refine Z8v rfl (Z93 rfl (by omega) hgx ?_)
        (repeat (first | refine st_q rfl rfl rfl ?_ | refine Z8v rfl (st_q rfl rfl rfl ?_) | refine Z8w rfl ?_))
        (refine Z8y ?_; (repeat (first | refine Z9v rfl ?_ | refine Z9w ?_)); refine Z9u ?_)
        refine Kc2 rfl ?_
        refine Zbn (fun _ _ => rfl) ?_
        (refine Z9y (keep := [0, 1, 5, 9, 10, 17, 18, 19]) ?_; ((repeat (first | refine Z9v rfl ?_ | refine Z9w ?_)); refine Z9u ?_))
        exact next _
      | false =>
        cases ki with
        | false =>
          (repeat (first | refine st_q rfl rfl rfl ?_ | refine Z8v rfl (st_q rfl rfl rfl ?_) | refine Z8w rfl ?_))
          refine Z8v rfl (Z93 rfl (by omega) hgi ?_)
          (repeat (first | refine st_q rfl rfl rfl ?_ | refine Z8v rfl (st_q rfl rfl rfl ?_) | refine Z8w rfl ?_))
          (refine Z8y ?_; (repeat (first | refine Z9v rfl ?_ | refine Z9w ?_)); refine Z9u ?_)
          refine Kc2 rfl ?_
          refine Zbn (fun _ _ => rfl) ?_
          (refine Z9y (keep := [0, 1, 5, 9, 10, 17, 18, 19]) ?_; ((repeat (first | refine Z9v rfl ?_ | refine Z9w ?_)); refine Z9u ?_))
          exact next _
        | true =>
          have hk12 : nd.t.kind = 12 := by
            rcases hwx.2 rfl with h | h
            · cases h
            · exact h
          (repeat (first | refine st_q rfl rfl rfl ?_ | refine Z8v rfl (st_q rfl rfl rfl ?_) | refine Z8w rfl ?_))
          refine Z8v rfl (Z93 rfl (by omega) hgi ?_)
          (repeat refine Z8v rfl (st_q rfl rfl rfl ?_))
          refine Z8v rfl (Z93 rfl (by omega) hgx ?_)
          (repeat refine Z8v rfl (st_q rfl rfl rfl ?_))
          refine Z8v rfl (Z93 rfl (by omega) hgN ?_)
          (repeat (first | refine st_q rfl rfl rfl ?_ | refine Z8v rfl (st_q rfl rfl rfl ?_)))
          (rw [decide_eq_false (p := nd.t.kind ≠ 12) (by omega)])
          skip
          (refine Z8y ?_; (repeat (first | refine Z9v rfl ?_ | refine Z9w ?_)); refine Z9u ?_)
          refine Kc2 rfl ?_
          refine Zbn (fun _ _ => rfl) ?_
          (refine Z9y (keep := [0, 1, 5, 9, 10, 17, 18, 19]) ?_; ((repeat (first | refine Z9v rfl ?_ | refine Z9w ?_)); refine Z9u ?_))
          exact next _
    · (repeat refine Zbo (fun _ _ => rfl) ?_)
      refine Zbp ?_
      (repeat (refine st_q rfl rfl rfl ?_))
      rw [Kwr i (by omega)]
      (refine Z8y ?_; (repeat (first | refine Z9v rfl ?_ | refine Z9w ?_)); refine Z9u ?_)
      exact ⟨_, l.length - (i + 1), HSub.refl _, ⟨i + 1, rfl, rfl, by omega, rfl⟩, by omega⟩
  · (repeat (first | refine st_q rfl rfl rfl ?_ | (refine Z8y ?_; (repeat (first | refine Z9v rfl ?_ | refine Z9w ?_)); refine Z9u ?_) | refine awp_seq ?_ | refine Zbm (fun _ _ => rfl) ?_ | refine Zbo (fun _ _ => rfl) ?_))
    refine Z8d ?_
    exact Kar rfl ⟨rfl, rfl⟩
end Go.Abs
namespace Go.Abs
open Go Go.Proofs
set_option linter.unusedVariables false
set_option linter.unusedSimpArgs false
mutual
def prV (l : List Nd) (keep : List Bool) (a : Nat) : Vl → Vl
  | .mk nu i n b ks => .mk nu i n b (prL l keep a i 0 ks)
def prL (l : List Nd) (keep : List Bool) (a : Nat) (i : Int) (j : Nat) : List Vl → List Vl
  | [] => []
  | v :: vs => if keep.getD (kidC l a (Zyh l a) i j) false = true then prV l keep (kidC l a (Zyh l a) i j) v :: prL l keep a i (j + 1) vs else prL l keep a i (j + 1) vs
end
structure Stand (l : List Nd) (keep : List Bool) (s : Tk) (P : Nat → Col) : Prop where
  sz : s.sz l.length
  at_ : ∀ c, c < l.length → keep.getD c false = true → s.at_.getD c 0 = (P c).here.length
  he : ∀ c, c < l.length → keep.getD c false = true → s.he.getD c 0 = (P c).here.count true
  good : ∀ c, c < l.length → keep.getD c false = true → (P c).Good (Zyh l c)
theorem Stand.congr {l : List Nd} {keep : List Bool} {s : Tk} {P P' : Nat → Col} (h : Stand l keep s P) (e : ∀ c, P c = P' c) : Stand l keep s P' := by
  rw [show P' = P from funext fun c => (e c).symm]; exact h
theorem Z22a {α : Type} (A B : List α) (x : α) : (A ++ (x :: B))[A.length]? = some x := by
  rw [List.getElem?_append_right (Nat.le_refl _), Nat.sub_self]; rfl
theorem Z22b (xs : List Nat) (a c y : Nat) (ha : a < xs.length) : (xs.set a y).getD c 0 = if c = a then y else xs.getD c 0 := by
  rw [List.getD_eq_getElem?_getD, List.getD_eq_getElem?_getD]
  by_cases h : c = a
  · subst h; rw [List.getElem?_set_self ha, if_pos rfl]; rfl
  · rw [List.getElem?_set_ne (fun e => h e.symm), if_neg h]
theorem Stand.null {l : List Nd} {keep : List Bool} {s : Tk} {P : Nat → Col} (h : Stand l keep s P) {a : Nat} (ha : a < l.length) (hk : keep.getD a false = true) : Stand l keep ⟨s.at_.set a (s.at_.getD a 0 + 1), s.he⟩ (fun c => appC (P c) (if c = a then Zyg false col0 else col0)) := by
  obtain ⟨⟨s1, s2⟩, h1, h2, h3⟩ := h
  refine ⟨⟨by rw [List.length_set]; exact s1, s2⟩, fun c hc hkc => ?_, fun c hc hkc => ?_, fun c hc hkc => ?_⟩
  · show (s.at_.set a _).getD c 0 = _
    rw [Z22b _ _ _ _ (by omega)]
    by_cases e : c = a
    · subst e; rw [if_pos rfl, if_pos rfl, h1 c hc hkc]; simp [appC, Zyg, col0]
    · rw [if_neg e, if_neg e, Z1ln]; exact h1 c hc hkc
  · show s.he.getD c 0 = _
    by_cases e : c = a
    · subst e; rw [if_pos rfl, h2 c hc hkc]; simp [appC, Zyg, col0]
    · rw [if_neg e, Z1ln]; exact h2 c hc hkc
  · by_cases e : c = a
    · subst e
      simp only [if_true]
      exact Z1p7 (h3 c hc hkc) (Z1k0 (Z1k2 _))
    · simp only [if_neg e, Z1ln]; exact h3 c hc hkc
theorem Stand.own {l : List Nd} {keep : List Bool} {s : Tk} {P : Nat → Col} (h : Stand l keep s P) {a : Nat} (ha : a < l.length) (hk : keep.getD a false = true) (v : Vl) :
    Stand l keep ⟨s.at_.set a (s.at_.getD a 0 + 1), s.he.set a (s.he.getD a 0 + 1)⟩ (fun c => appC (P c) (if c = a then addC (Zyh l a) v col0 else col0)) := by
  obtain ⟨⟨s1, s2⟩, h1, h2, h3⟩ := h
  have hc1 : ∀ k, (addC k v col0).here.length = 1 := fun k => by
    unfold addC Zyf Zye Zyg
    (repeat' split) <;> rfl
  refine ⟨⟨by rw [List.length_set]; exact s1, by rw [List.length_set]; exact s2⟩, fun c hc hkc => ?_, fun c hc hkc => ?_, fun c hc hkc => ?_⟩
  · show (s.at_.set a _).getD c 0 = _
    rw [Z22b _ _ _ _ (by omega)]
    by_cases e : c = a
    · subst e; rw [if_pos rfl, if_pos rfl, h1 c hc hkc]; simp [appC, hc1]
    · rw [if_neg e, if_neg e, Z1ln]; exact h1 c hc hkc
  · show (s.he.set a _).getD c 0 = _
    rw [Z22b _ _ _ _ (by omega)]
    by_cases e : c = a
    · subst e; rw [if_pos rfl, if_pos rfl, h2 c hc hkc]; simp [appC, Z1p9]
    · rw [if_neg e, if_neg e, Z1ln]; exact h2 c hc hkc
  · by_cases e : c = a
    · subst e
      simp only [if_true]
      exact Z1p7 (h3 c hc hkc) (Z1k1 (Z1k2 _))
    · simp only [if_neg e, Z1ln]; exact h3 c hc hkc
def Holds (l : List Nd) (keep : List Bool) (cols : List Col) (P D : Nat → Col) : Prop := ∀ c, c < l.length → keep.getD c false = true → ∃ Q, cols.getD c col0 = appC (appC (P c) (D c)) Q
theorem Holds.first {l : List Nd} {keep : List Bool} {cols : List Col} {P D E : Nat → Col} (h : Holds l keep cols P (fun c => appC (D c) (E c))) : Holds l keep cols P D := fun c hc hk => by
  obtain ⟨Q, hQ⟩ := h c hc hk
  exact ⟨appC (E c) Q, by rw [hQ, Z1lp, Z1lp, Z1lp]⟩
theorem Holds.rest {l : List Nd} {keep : List Bool} {cols : List Col} {P D E : Nat → Col} (h : Holds l keep cols P (fun c => appC (D c) (E c))) : Holds l keep cols (fun c => appC (P c) (D c)) E := fun c hc hk => by
  obtain ⟨Q, hQ⟩ := h c hc hk
  exact ⟨Q, by rw [hQ, Z1lp, Z1lp, Z1lp, Z1lp]⟩
def Z22c (l : List Nd) (keep : List Bool) (cols : List Col) (v : Vl) : Prop := ∀ (a : Nat) (n : Nd), l[a]? = some n → n.t.Ok → vchk n.t v = 0 → keep.getD a false = true → ∀ (s : Tk) (P : Nat → Col), Stand l keep s P → Holds l keep cols P (fun c => pcon l a c v) →
  ∃ s', takeT cols keep n.t a s = some (prV l keep a v, s') ∧ Stand l keep s' (fun c => appC (P c) (pcon l a c v))
structure KidI (l : List Nd) (keep : List Bool) (cols : List Col) (a : Nat) (n : Nd) (i : Int) (j : Nat) (v : Vl) : Prop where
  ok : Z22c l keep cols v
  ex : ∃ q, l[a + 1 + cntL (n.t.kids.take (Zmf n.t.kind i j))]? = some q ∧ n.t.kids[Zmf n.t.kind i j]? = some q.t ∧ q.t.Ok ∧ vchk q.t v = 0 ∧ kidC l a (Zyh l a) i j = a + 1 + cntL (n.t.kids.take (Zmf n.t.kind i j)) ∧
    (n.t.kind ≠ 12 → keep.getD (a + 1 + cntL (n.t.kids.take (Zmf n.t.kind i j))) false = true)
theorem Z22d {l : List Nd} {keep : List Bool} {cols : List Col} {a : Nat} {n : Nd} {i : Int} (hk : n.t.kind = 10) {u : Ty} (hu : n.t.kids = [u]) : ∀ (vs : List Vl) (j : Nat), (∀ m v, vs[m]? = some v → KidI l keep cols a n i (j + m) v) → ∀ (s : Tk) (P : Nat → Col), Stand l keep s P → Holds l keep cols P (fun c => pconL l a c i j vs) →
    ∃ s', iterO (takeL cols keep n.t.kids (a + 1)) vs.length s = some (prL l keep a i j vs, s') ∧ Stand l keep s' (fun c => appC (P c) (pconL l a c i j vs))
  | [], j, _, s, P, hs, _ => ⟨s, rfl, hs.congr fun c => by rw [pconL, Z1ln]⟩
  | v :: vs, j, hv, s, P, hs, hH => by
    have hK := hv 0 v rfl
    rw [Nat.add_zero] at hK
    obtain ⟨hok, q, q1, q2, q3, q4, q5, q6⟩ := hK
    have hka : Zmf n.t.kind i j = 0 := by simp [Zmf, hk]
    rw [hka] at q1 q2 q5 q6
    rw [hu] at q1 q2 q5 q6
    simp only [List.take_zero, cntL, Nat.add_zero, List.getElem?_cons_zero, Option.some.injEq] at q1 q2 q5 q6
    have hkp := q6 (by omega)
    simp only [pconL] at hH ⊢
    rw [q5] at hH ⊢
    obtain ⟨s1, t1, t2⟩ := hok (a + 1) q q1 q3 q4 hkp s P hs hH.first
    obtain ⟨s2, t3, t4⟩ := Z22d hk hu vs (j + 1) (fun m w hw => by have := hv (m + 1) w (by simpa using hw); rw [show j + 1 + m = j + (m + 1) by omega]; exact this) s1 _ t2 hH.rest
    refine ⟨s2, ?_, t4.congr fun c => by rw [Z1lp]⟩
    have hone : takeL cols keep n.t.kids (a + 1) s = some ([prV l keep (a + 1) v], s1) := by
      rw [hu, takeL, q2, t1]
      simp only [takeL]
    rw [List.length_cons, iterO, hone]
    simp only
    rw [t3, prL, q5, if_pos hkp]
    rfl
theorem Z22e {l : List Nd} {keep : List Bool} {cols : List Col} {a : Nat} {n : Nd} {i : Int} (hk : n.t.kind = 11) {u w : Ty} (hu : n.t.kids = [u, w]) : ∀ (m : Nat) (vs : List Vl) (j : Nat), vs.length = 2 * m → j % 2 = 0 → (∀ m v, vs[m]? = some v → KidI l keep cols a n i (j + m) v) → ∀ (s : Tk) (P : Nat → Col), Stand l keep s P → Holds l keep cols P (fun c => pconL l a c i j vs) →
    ∃ s', iterO (takeL cols keep n.t.kids (a + 1)) m s = some (prL l keep a i j vs, s') ∧ Stand l keep s' (fun c => appC (P c) (pconL l a c i j vs))
  | 0, vs, j, hl, _, _, s, P, hs, _ => by
    obtain rfl : vs = [] := List.length_eq_zero_iff.1 hl
    exact ⟨s, rfl, hs.congr fun c => by rw [pconL, Z1ln]⟩
  | m + 1, vs, j, hl, hj, hv, s, P, hs, hH => by
    match vs, hl with
    | v0 :: v1 :: vs, hl =>
    have hK0 := hv 0 v0 rfl
    have hK1 := hv 1 v1 rfl
    rw [Nat.add_zero] at hK0
    obtain ⟨hok0, q, q1, q2, q3, q4, q5, q6⟩ := hK0
    obtain ⟨hok1, p, p1, p2, p3, p4, p5, p6⟩ := hK1
    have hka0 : Zmf n.t.kind i j = 0 := by simp [Zmf, hk]; exact hj
    have hka1 : Zmf n.t.kind i (j + 1) = 1 := by simp [Zmf, hk]; omega
    rw [hka0] at q1 q2 q5 q6
    rw [hka1] at p1 p2 p5 p6
    rw [hu] at q1 q2 q5 q6 p1 p2 p5 p6
    simp only [List.take_zero, List.take_succ_cons, cntL, Nat.add_zero, List.getElem?_cons_zero, List.getElem?_cons_succ, Option.some.injEq] at q1 q2 q5 q6 p1 p2 p5 p6
    have hkp0 := q6 (by omega)
    have hkp1 := p6 (by omega)
    simp only [pconL] at hH ⊢
    rw [q5, p5] at hH ⊢
    obtain ⟨s1, t1, t2⟩ := hok0 (a + 1) q q1 q3 q4 hkp0 s P hs hH.first
    obtain ⟨s2, t3, t4⟩ := hok1 _ p p1 p3 p4 hkp1 s1 _ t2 hH.rest.first
    obtain ⟨s3, t5, t6⟩ := Z22e hk hu m vs (j + 1 + 1) (by simp at hl; omega) (by omega) (fun m w hw => by have := hv (m + 2) w (by simpa using hw); rw [show j + 1 + 1 + m = j + (m + 2) by omega]; exact this) s2 _ t4 hH.rest.rest
    refine ⟨s3, ?_, t6.congr fun c => by rw [Z1lp, Z1lp]⟩
    rw [iterO]
    have htwo : takeL cols keep n.t.kids (a + 1) s = some ([prV l keep (a + 1) v0, prV l keep (a + 1 + cnt u) v1], s2) := by
      rw [hu, takeL]
      rw [show takeT cols keep u (a + 1) s = some (prV l keep (a + 1) v0, s1) by rw [q2]; exact t1]
      simp only
      rw [takeL]
      rw [show takeT cols keep w (a + 1 + cnt u) s1 = some (prV l keep (a + 1 + cnt u) v1, s2) by rw [p2]; exact t3]
      simp only [takeL]
    rw [htwo]
    simp only
    rw [t5, prL, q5, if_pos hkp0, prL, p5, if_pos hkp1]
    rfl
theorem Z22f {l : List Nd} {keep : List Bool} {cols : List Col} {a : Nat} {n : Nd} {i : Int} (hk : n.t.kind = 12) : ∀ (ts : List Ty) (vs : List Vl) (j : Nat), n.t.kids.drop j = ts → ts.length = vs.length → (∀ m v, vs[m]? = some v → KidI l keep cols a n i (j + m) v) → ∀ (s : Tk) (P : Nat → Col), Stand l keep s P → Holds l keep cols P (fun c => pconL l a c i j vs) →
    (∀ x, keep.getD x false = false → ∀ m v, vs[m]? = some v → a + 1 + cntL (n.t.kids.take (j + m)) = x → ∀ c, c < l.length → keep.getD c false = true → pcon l x c v = col0) →
    ∃ s', takeS cols keep ts (a + 1 + cntL (n.t.kids.take j)) s = some (prL l keep a i j vs, s') ∧ Stand l keep s' (fun c => appC (P c) (pconL l a c i j vs))
  | [], vs, j, _, hl, _, s, P, hs, _, _ => by
    obtain rfl : vs = [] := List.length_eq_zero_iff.1 hl.symm
    exact ⟨s, rfl, hs.congr fun c => by rw [pconL, Z1ln]⟩
  | t :: ts, vs, j, hd, hl, hv, s, P, hs, hH, hz => by
    match vs, hl with
    | v :: vs, hl =>
    have hK := hv 0 v rfl
    rw [Nat.add_zero] at hK
    obtain ⟨hok, q, q1, q2, q3, q4, q5, q6⟩ := hK
    have hka : Zmf n.t.kind i j = j := by simp [Zmf, hk]
    rw [hka] at q1 q2 q5 q6
    have hjt : n.t.kids[j]? = some t := by
      have := congrArg (fun l => l[0]?) hd
      simp only [List.getElem?_drop, Nat.add_zero, List.getElem?_cons_zero] at this
      exact this
    have hqt : q.t = t := by rw [q2] at hjt; exact Option.some.inj hjt
    have hd' : n.t.kids.drop (j + 1) = ts := by
      rw [← List.drop_drop, hd]; rfl
    have hcs := Z1q8 n.t.kids j t hjt
    have hx : a + 1 + cntL (n.t.kids.take j) + cnt t = a + 1 + cntL (n.t.kids.take (j + 1)) := by omega
    have hrec := Z22f hk ts vs (j + 1) hd' (by simpa using hl) (fun m w hw => by have := hv (m + 1) w (by simpa using hw); rw [show j + 1 + m = j + (m + 1) by omega]; exact this)
    simp only [pconL] at hH ⊢
    rw [q5] at hH ⊢
    rw [takeS, hx]
    by_cases hkp : keep.getD (a + 1 + cntL (n.t.kids.take j)) false = true
    · rw [if_pos hkp]
      obtain ⟨s1, t1, t2⟩ := hok _ q q1 q3 q4 hkp s P hs hH.first
      obtain ⟨s2, t3, t4⟩ := hrec s1 _ t2 hH.rest fun x hxk m w hw e => hz x hxk (m + 1) w (by simpa using hw) (by rw [show j + (m + 1) = j + 1 + m by omega]; exact e)
      refine ⟨s2, ?_, t4.congr fun c => by rw [Z1lp]⟩
      rw [← hqt, t1]
      simp only
      rw [t3, prL, q5, if_pos hkp]
    · rw [if_neg hkp]
      have hz0 : ∀ c, c < l.length → keep.getD c false = true → pcon l (a + 1 + cntL (n.t.kids.take j)) c v = col0 := hz _ (by simpa using hkp) 0 v rfl rfl
      have hH2 : Holds l keep cols P (fun c => pconL l a c i (j + 1) vs) := fun c hc hkc => by
        obtain ⟨Q, hQ⟩ := hH c hc hkc
        simp only at hQ
        rw [hz0 c hc hkc, Z1lo] at hQ
        exact ⟨Q, hQ⟩
      obtain ⟨s2, t3, t4⟩ := hrec s P hs hH2 fun x hxk m w hw e => hz x hxk (m + 1) w (by simpa using hw) (by rw [show j + (m + 1) = j + 1 + m by omega]; exact e)
      refine ⟨s2, ?_, ?_⟩
      · rw [t3, prL, q5, if_neg hkp]
      · obtain ⟨w0, w1, w2, w3⟩ := t4
        refine ⟨w0, fun c hc hkc => ?_, fun c hc hkc => ?_, fun c hc hkc => ?_⟩
        · rw [hz0 c hc hkc, Z1lo]; exact w1 c hc hkc
        · rw [hz0 c hc hkc, Z1lo]; exact w2 c hc hkc
        · simp only [hz0 c hc hkc, Z1lo]; exact w3 c hc hkc
end Go.Abs
namespace Go.Abs
open Go Go.Proofs
set_option linter.unusedVariables false
set_option linter.unusedSimpArgs false
set_option maxHeartbeats 4000000
section
variable {P : Program} {l : List Z2a} {F : Z26} {σ τ : Zc} {Q : Z26 → Zc → Prop}
theorem Z1vl {d : Nat} {ag : Bool} {sz : Nat} {args : List Zw} {b i o s : Nat} {w : Z0} {xs : List Z0} {x v : Z0} (h1 : evs F args = some [.ptr b i o, w]) (hw : Z22 w = some b) (hg : Zd σ b = some (.cells s xs)) (hx : xs[i]? = some x) (hp : Z19 ag sz (x.cells.drop o) = some v)
    (h : aops P l (fset d (some v) F) σ Q) : aops P (⟨some d, .loadg ag sz, args, none⟩ :: l) F σ Q :=
  st_q h1 (by simp [Z1p, Z1pl, hw, Z1l, hg, hx, hp]) rfl h
theorem Z1vm {d n : Nat} {f : FuncId} {args : List Zw} {vs : List Z0} {v : Z0} (h1 : evs F args = some vs) (hc : Z1q P f (vs.take n) σ fun r σ' => r = v ∧ σ' = τ) (hk : Z23 (vs.drop n) σ τ) (h : aops P l (fset d (some v) F) τ Q) : aops P (⟨some d, .callk f n, args, none⟩ :: l) F σ Q := by
  refine ⟨_, h1, ⟨v, τ, hk, h⟩, hc.mono fun r σ' ⟨e1, e2⟩ => ?_⟩
  subst e1 e2
  exact ⟨hk, h⟩
end
attribute [local irreducible] AWp aops KP
theorem Z1vn {σ : Zc} {a b : Nat} {x : Zb} (h : a ≠ b) : Zd (Ze σ b x) a = Zd σ a := by
  induction σ with
  | nil => rfl
  | cons p σ ih =>
    obtain ⟨k, y⟩ := p
    simp only [Ze]
    split
    · rename_i e
      subst e
      simp only [Zd, if_neg (fun e : k = a => h e.symm)]
    · simp only [Zd, ih]
theorem Z1vo {σ : Zc} {a b : Nat} {x y : Zb} (h : a ≠ b) : Ze (Ze σ a x) b y = Ze (Ze σ b y) a x := by
  induction σ with
  | nil => rfl
  | cons p σ ih =>
    obtain ⟨k, z⟩ := p
    by_cases e1 : k = a
    · subst e1
      simp [Ze, h]
    · by_cases e2 : k = b
      · subst e2
        simp [Ze, e1]
      · simp only [Ze, if_neg e1, if_neg e2, ih]
def HS (H : Zc) (ba bh : Nat) (s : Tk) : Zc := Ze (Ze H ba (.cells 1 (ints s.at_))) bh (.cells 1 (ints s.he))
theorem HS_HS {H : Zc} {ba bh : Nat} (h : ba ≠ bh) (s s' : Tk) : HS (HS H ba bh s) ba bh s' = HS H ba bh s' := by
  unfold HS
  rw [Z1vo (a := bh) (b := ba) (fun e => h e.symm), Zaj, Zaj]
theorem HS_a {H : Zc} {ba bh : Nat} {x : Zb} (h : ba ≠ bh) (hx : Zd H ba = some x) (s : Tk) : Zd (HS H ba bh s) ba = some (.cells 1 (ints s.at_)) := by
  unfold HS
  rw [Z1vn h]
  exact Z5k hx
theorem HS_h {H : Zc} {ba bh : Nat} {x : Zb} (h : ba ≠ bh) (hx : Zd H bh = some x) (s : Tk) : Zd (HS H ba bh s) bh = some (.cells 1 (ints s.he)) := by
  unfold HS
  exact Z5k (by rw [Z1vn (fun e => h e.symm)]; exact hx)
theorem Z1vp {H : Zc} {ba bh k : Nat} {x : Zb} (h1 : k ≠ ba) (h2 : k ≠ bh) (s : Tk) : HS ((k, x) :: H) ba bh s = (k, x) :: HS H ba bh s := by
  unfold HS
  rw [Z9c h1 rfl, Z9c h2 rfl]
theorem Z1vq {β H : Zc} {ba bh : Nat} (h1 : ba ∉ Zh β) (h2 : bh ∉ Zh β) (s : Tk) : HS (β ++ H) ba bh s = β ++ HS H ba bh s := by
  unfold HS
  rw [Zai h1, Zai h2]
theorem Z1vr {H : Zc} {ba bh : Nat} (s : Tk) : Zh (HS H ba bh s) = Zh H := by
  unfold HS
  rw [Zn, Zn]
theorem Z1vs {l : List Nat} {i : Nat} (h : i < l.length) : (ints l)[0 + ((i : Nat) : Int).toNat]? = some (.int .i64 ((l.getD i 0 : Nat) : Int)) := by
  rw [Nat.zero_add, Int.toNat_natCast, ints, List.getElem?_map, List.getD_eq_getElem?_getD, List.getElem?_eq_getElem h]; rfl
theorem Z1vt {l : List Nat} {i m : Nat} (x : Z0) (hx : x = .int .i64 ((l.getD i 0 : Nat) : Int)) : (ints l).set (0 + ((i : Nat) : Int).toNat) (Z1r x 0 (Z0.int .i64 ((m : Nat) : Int)).cells) = ints (l.set i m) := by
  subst hx
  rw [Nat.zero_add, Int.toNat_natCast, ints, ints, List.map_set]; rfl
def Z1vu (l : List Nd) (cols : List Col) (keep : List Bool) (g h : Bool) (ba bh : Nat) : List Z0 := [.slc 8 (l.map encN) true, .slc 5 (cols.map encC) g, .slc 1 (keep.map .bool) h, .arr 1 ba 0 l.length, .arr 1 bh 0 l.length]
structure ColsT (l : List Nd) (cols : List Col) (keep : List Bool) : Prop where
  len : cols.length = l.length
  sm : ∀ i c, cols[i]? = some c → keep.getD i false = true → c.Sm
  text : ∀ i c, cols[i]? = some c → keep.getD i false = true → ∀ b ∈ c.texts, b.length ≤ 4096
  lens : ∀ i c, cols[i]? = some c → keep.getD i false = true → ∀ v ∈ c.lens, v ≤ 16384
def valC (i m : Int) (bv kv : Z0) : Z0 := .agg [.bool false, .int .i64 i, .int .i64 m, bv, kv]
def zeroV : Z0 := .agg [.bool false, .int .i64 0, .int .i64 0, .slc 0 [] true, .slc 0 [] true]
theorem valE {i m : Int} {bv : Z0} {xs : List Z0} {f : Bool} (h : bv.one = true) : (Z0.agg [.bool false, .int .i64 i, .int .i64 m, bv, .slc 5 xs f]).elem 5 := by
  refine ⟨rfl, fun c hc => ?_⟩
  simp only [Z0.cells, List.mem_cons, List.not_mem_nil, or_false] at hc
  rcases hc with rfl | rfl | rfl | rfl | rfl
  · rfl
  · rfl
  · rfl
  · exact h
  · rfl
theorem Z1vv {l : List Nd} (hT : TreeN l) (hK : Z1vc l) {cols : List Col} {keep : List Bool} (hC : ColsT l cols keep) (hkl : keep.length = l.length) (hWh : Whole l keep) (g h : Bool) (ba bh : Nat) (hab : ba ≠ bh) :
    ∀ (t : Ty) (a : Nat) (nd : Nd), l[a]? = some nd → nd.t = t → keep.getD a false = true → ∀ (s s' : Tk) (v : Vl), s.sz l.length → takeT cols keep t a s = some (v, s') → ∀ (H : Zc), Zd H ba = some (.cells 1 (ints s.at_)) → Zd H bh = some (.cells 1 (ints s.he)) →
      Z1q Try.prog Zf2 [.iptr (Z1vu l cols keep g h ba bh), .int .i64 (a : Int)] H fun r H' => r = encV v ∧ H' = HS H ba bh s' := by
  refine Ty.ind fun k ns ks le pr sc ih a nd hnd hndt hka s s' v hsz htk H hHa hHh => ?_
  have hal : a < l.length := (List.getElem?_eq_some_iff.1 hnd).1
  have hac : a < cols.length := by rw [hC.len]; exact hal
  have hN := hT.nok a nd hnd
  obtain ⟨c, hc⟩ : ∃ c, cols[a]? = some c := ⟨_, List.getElem?_eq_getElem hac⟩
  have hcm := List.mem_of_getElem? hc
  have hsm := hC.sm a c hc hka
  have hcD : cols.getD a col0 = c := by rw [List.getD_eq_getElem?_getD, hc]; rfl
  have hgN : (l.map encN)[((a : Nat) : Int).toNat]? = some (encN nd) := by rw [Int.toNat_natCast, List.getElem?_map, hnd]; rfl
  have hgC : (cols.map encC)[((a : Nat) : Int).toNat]? = some (encC c) := by rw [Int.toNat_natCast, List.getElem?_map, hc]; rfl
  have hk : nd.t.kind = k := by rw [hndt]; rfl
  have hks : nd.t.kids = ks := by rw [hndt]; rfl
  have hkal := hK.num nd (List.mem_of_getElem? hnd)
  have hkn : (ints nd.kids).length = nd.kids.length := List.length_map ..
  have hkl2 : nd.kids.length = ks.length := by rw [hN.len, hks]
  have hkidx : ∀ (j : Nat) (u : Ty), ks[j]? = some u → ∃ m, (ints nd.kids)[((j : Nat) : Int).toNat]? = some (.int .i64 ((a + 1 + cntL (ks.take j) : Nat) : Int)) ∧ l[a + 1 + cntL (ks.take j)]? = some m ∧ m.t = u ∧ (a + 1 + cntL (ks.take j)) ∈ nd.kids := by
    intro j u hu
    have hjl : j < nd.kids.length := by rw [hkl2]; exact (List.getElem?_eq_some_iff.1 hu).1
    obtain ⟨u', m, e1, e2, e3, e4, _⟩ := hN.kids j _ (List.getElem?_eq_getElem hjl)
    rw [hks, hu] at e1
    cases e1
    rw [hks] at e2
    refine ⟨m, ?_, by rw [← e2]; exact e3, e4, by rw [← e2]; exact List.getElem_mem hjl⟩
    rw [Int.toNat_natCast, ints, List.getElem?_map, List.getElem?_eq_getElem hjl, e2]; rfl
  have hla : a < s.at_.length := by rw [hsz.1]; exact hal
  have hlh : a < s.he.length := by rw [hsz.2]; exact hal
  rw [takeT, hcD] at htk
  generalize hi : s.at_.getD a 0 = i at htk
  generalize hj : s.he.getD a 0 = j at htk
  obtain ⟨hb, hhb⟩ : ∃ hb, c.here[i]? = some hb := by
    cases e : c.here[i]? with
    | none => rw [e] at htk; cases htk
    | some hb => exact ⟨hb, rfl⟩
  have hil : i < c.here.length := (List.getElem?_eq_some_iff.1 hhb).1
  have hi1 := hsm.here
  have hgx : (c.here.map Z0.bool)[((i : Nat) : Int).toNat]? = some (.bool hb) := by rw [Int.toNat_natCast, List.getElem?_map, hhb]; rfl
  rw [hhb] at htk
  refine Z8t rfl Z1v6 (Nat.le_of_ble_eq_true rfl) ?_
  refine Z9z ?_
  refine Z9k (by simp [Z0.cells, Z0.one]) fun b4 hb4 => ?_
  (refine Z8y ?_; (repeat (first | refine Z9v rfl ?_ | refine Z9w ?_)); refine Z9u ?_)
  have h4a : b4 ≠ ba := fun e => by subst e; exact hb4 (by have := Zk hHa; exact List.mem_map_of_mem (f := (·.1)) this)
  have h4h : b4 ≠ bh := fun e => by subst e; exact hb4 (by have := Zk hHh; exact List.mem_map_of_mem (f := (·.1)) this)
  refine Z9z ?_
  (repeat (refine st_q rfl rfl rfl ?_))
  refine Z93 rfl (by omega) hgC ?_
  (repeat (refine st_q rfl rfl rfl ?_))
  refine Z93 rfl (by omega) hgN ?_
  (repeat (refine st_q rfl rfl rfl ?_))
  refine Z9k (by simp [Z0.cells, Z0.one]) fun b5 hb5 => ?_
  refine Z9k (by simp [Z0.cells, Z0.one]) fun b6 hb6 => ?_
  have h65 : b6 ≠ b5 := fun e => hb6 (by rw [e]; simp [Zh])
  refine Z9a rfl (Z90 h65 Z8z) rfl (by decide) (Kfi rfl) (fun h => by cases h) (Z9c h65 Z9b) ?_
  refine Z9a rfl Z8z rfl (by decide) (Kfi rfl) (fun h => by cases h) Z9b ?_
  (refine Z8y ?_; (repeat (first | refine Z9v rfl ?_ | refine Z9w ?_)); refine Z9u ?_)
  refine Zb3 (d := 6) (cs := Zm2 nd) rfl ?_
  refine Zb3 (d := 5) (cs := Zxu c) rfl ?_
  (refine Z9y (keep := [0, 1, 4, 5, 6]) ?_; ((repeat (first | refine Z9v rfl ?_ | refine Z9w ?_)); refine Z9u ?_))
  rw [show (Z0.agg [.bool false, .int .i64 0, .int .i64 0, .slc 0 [] true, .slc 0 [] true]).cells.length = 5 from rfl]
  have hxa := Z1vs hla
  have hxh := Z1vs hlh
  rw [hi] at hxa
  rw [hj] at hxh
  refine Z9z ?_
  (repeat (refine st_q rfl rfl rfl ?_))
  refine Z94 rfl ⟨by omega, by omega⟩ ?_
  refine Z92 rfl (Z90 h4a hHa) hxa rfl ?_
  (repeat (refine st_q rfl rfl rfl ?_))
  (refine Z8y ?_; (repeat (first | refine Z9v rfl ?_ | refine Z9w ?_)); refine Z9u ?_)
  refine Z9z ?_
  (repeat (refine st_q rfl rfl rfl ?_))
  refine Z94 rfl ⟨by omega, by omega⟩ ?_
  refine Z92 rfl (Z90 h4a hHa) hxa rfl ?_
  (repeat (refine st_q rfl rfl rfl ?_))
  rw [Kwr i (by omega)]
  refine Z94 rfl ⟨by omega, by omega⟩ ?_
  refine Z9a rfl (Z90 h4a hHa) hxa (by decide) (Kfi rfl) (fun _ => ⟨rfl, rfl⟩) (Z9c h4a rfl) ?_
  rw [Z1vt _ (by rw [hi])]
  (refine Z8y ?_; (repeat (first | refine Z9v rfl ?_ | refine Z9w ?_)); refine Z9u ?_)
  (refine Z9y (keep := [0, 1, 4, 5, 6, 7]) ?_; ((repeat (first | refine Z9v rfl ?_ | refine Z9w ?_)); refine Z9u ?_))
  refine awp_seq ?_
  refine awp_seq ?_
  refine Zbm (fun _ _ => rfl) ?_
  (repeat (refine st_q rfl rfl rfl ?_))
  refine Z93 rfl (by omega) hgx ?_
  (repeat (refine st_q rfl rfl rfl ?_))
  (refine Z8y ?_; (repeat (first | refine Z9v rfl ?_ | refine Z9w ?_)); refine Z9u ?_)
  cases hb with
  | false =>
    simp only [Option.some.injEq, Prod.mk.injEq] at htk
    obtain ⟨rfl, rfl⟩ := htk
    refine Kc1 rfl ?_
    refine Z9z ?_
    (repeat (refine st_q rfl rfl rfl ?_))
    (first | refine Z9a rfl Z8z rfl (by decide) (Kfi rfl) (fun h => by cases h) Z9b ?_ | refine Z8v rfl (Z9a rfl Z8z rfl (by decide) (Kfi rfl) (fun h => by cases h) Z9b ?_))
    (refine Z8y ?_; (repeat (first | refine Z9v rfl ?_ | refine Z9w ?_)); refine Z9u ?_)
    refine Z8d ?_
    refine Zau (vs := [.agg [.bool true, .int .i64 0, .int .i64 0, .slc 0 [] true, .slc 0 [] true]]) (Zy4 rfl Z8z rfl) ?_ (HSub.tail _ _) ⟨rfl, ?_⟩
    · rw [nullV, encV]
      (repeat (first | exact VRle.refl _ | exact Zc5 | refine Zc6 rfl rfl ?_ | refine Zc7 rfl ?_ | refine Zc4 ?_ ?_))
    · unfold HS
      exact (Z1pm (by rw [Z1vn (fun e => hab e.symm)]; exact hHh)).symm
  | true =>
  refine Kc2 rfl ?_
  refine Zbn (fun _ _ => rfl) ?_
  (refine Z9y (keep := [0, 1, 4, 5, 6]) ?_; ((repeat (first | refine Z9v rfl ?_ | refine Z9w ?_)); refine Z9u ?_))
  simp only at htk
  by_cases hji : i < j
  · rw [if_pos hji] at htk; cases htk
  rw [if_neg hji] at htk
  have hHh1 : Zd (Ze H ba (.cells 1 (ints (s.at_.set a (i + 1))))) bh = some (.cells 1 (ints s.he)) := by rw [Z1vn (fun e => hab e.symm)]; exact hHh
  refine Z9z ?_
  (repeat (refine st_q rfl rfl rfl ?_))
  refine Z94 rfl ⟨by omega, by omega⟩ ?_
  refine Z92 rfl (Z90 h4h hHh1) hxh rfl ?_
  (repeat (refine st_q rfl rfl rfl ?_))
  (refine Z8y ?_; (repeat (first | refine Z9v rfl ?_ | refine Z9w ?_)); refine Z9u ?_)
  refine Z9z ?_
  (repeat (refine st_q rfl rfl rfl ?_))
  refine Z94 rfl ⟨by omega, by omega⟩ ?_
  refine Z92 rfl (Z90 h4h hHh1) hxh rfl ?_
  (repeat (refine st_q rfl rfl rfl ?_))
  rw [Kwr j (by omega)]
  refine Z94 rfl ⟨by omega, by omega⟩ ?_
  refine Z9a rfl (Z90 h4h hHh1) hxh (by decide) (Kfi rfl) (fun _ => ⟨rfl, rfl⟩) (Z9c h4h rfl) ?_
  rw [Z1vt _ (by rw [hj])]
  (refine Z8y ?_; (repeat (first | refine Z9v rfl ?_ | refine Z9w ?_)); refine Z9u ?_)
  (refine Z9y (keep := [0, 4, 5, 6, 8]) ?_; ((repeat (first | refine Z9v rfl ?_ | refine Z9w ?_)); refine Z9u ?_))
  have hHS2 : Ze (Ze H ba (.cells 1 (ints (s.at_.set a (i + 1))))) bh (.cells 1 (ints (s.he.set a (j + 1)))) = HS H ba bh ⟨s.at_.set a (i + 1), s.he.set a (j + 1)⟩ := rfl
  rw [hHS2]
  have hsz2 : (⟨s.at_.set a (i + 1), s.he.set a (j + 1)⟩ : Tk).sz l.length := ⟨by rw [List.length_set]; exact hsz.1, by rw [List.length_set]; exact hsz.2⟩
  generalize (⟨s.at_.set a (i + 1), s.he.set a (j + 1)⟩ : Tk) = s2 at htk hsz2 ⊢
  refine Z9z ?_
  refine Z9k (by simp [Z0.cells, Z0.one]) fun b9 hb9 => ?_
  (refine Z8y ?_; (repeat (first | refine Z9v rfl ?_ | refine Z9w ?_)); refine Z9u ?_)
  have h94 : b9 ≠ b4 := fun e => hb9 (by rw [e]; simp [Zh])
  have h9H : b9 ∉ Zh H := fun hm => hb9 (by rw [Zj, Z1vr]; exact List.mem_cons_of_mem _ hm)
  have h9a : b9 ≠ ba := fun e => by subst e; exact h9H (by have := Zk hHa; exact List.mem_map_of_mem (f := (·.1)) this)
  have h9h : b9 ≠ bh := fun e => by subst e; exact h9H (by have := Zk hHh; exact List.mem_map_of_mem (f := (·.1)) this)
  rw [show (Z0.agg [.bool false, .int .i64 0, .int .i64 0, .slc 0 [] true, .slc 0 [] true]).cells.length = 5 from rfl]
  -- what is behind all ways
  have fin : ∀ (s3 : Tk) (kv : Z0) (xs : List Vl) (β : Zc) (i m : Int) (bv : Z0), Zbr 5 kv (Zm5 xs) β → b9 ∉ Zh β → VRle [.agg [.bool false, .int .i64 i, .int .i64 m, bv, .slc 5 (Zm5 xs) true]] [encV v] → bv.one = true → s' = s3 →
      AWp Try.prog Z1u7.n (Z1u7.code.snd 9) (ARet Z1u7.res fun r H' => r = encV v ∧ H' = HS H ba bh s') (fset 4 (some (.ptr b4 0 0)) (fset 9 (some (.ptr b9 0 0)) Z27))
        (β ++ ((b9, .cells 5 [.agg [.bool false, .int .i64 i, .int .i64 m, bv, kv]]) :: (b4, .cells 5 [.agg [.bool false, .int .i64 0, .int .i64 0, .slc 0 [] true, .slc 0 [] true]]) :: HS H ba bh s3)) := by
    intro s3 kv xs β i m bv ho hnb hv hbv e
    subst e
    refine Z9z ?_
    (repeat (refine st_q rfl rfl rfl ?_))
    refine Z92 rfl (by rw [Zah hnb]; exact Z8z) rfl rfl ?_
    refine Z9t rfl (Zud ho _) ?_
    (repeat (refine st_q rfl rfl rfl ?_))
    refine Z9a rfl Z8z rfl (by decide) (Kfi rfl) (fun h => by cases h) Z9b ?_
    (refine Z8y ?_; (repeat (first | refine Z9v rfl ?_ | refine Z9w ?_)); refine Z9u ?_)
    refine Z9z ?_
    refine Z92 rfl Z8z rfl rfl ?_
    refine Z9a rfl (Z90 h94 Z8z) rfl (by decide) (valE hbv) (fun h => by cases h) (Z9c h94 Z9b) ?_
    (refine Z8y ?_; (repeat (first | refine Z9v rfl ?_ | refine Z9w ?_)); refine Z9u ?_)
    refine Z8d ?_
    exact Zau (vs := [.agg [.bool false, .int .i64 i, .int .i64 m, bv, .slc 5 (Zm5 xs) true]]) (Zy4 rfl (Z90 h94 Z8z) rfl) hv (HSub.of_sublist ((List.sublist_cons_self _ _).trans (List.sublist_cons_self _ _))) ⟨rfl, rfl⟩
  have h9n : b9 ∉ Zh ([] : Zc) := by simp [Zh]
  -- a call in the midst
  have call : ∀ (u : Ty), u ∈ ks → ∀ (x : Nat) (m : Nd), l[x]? = some m → m.t = u → keep.getD x false = true → ∀ (st s1 : Tk) (vj : Vl), st.sz l.length → takeT cols keep u x st = some (vj, s1) → ∀ (β : Zc) (V : Zb), ba ∉ Zh β → bh ∉ Zh β →
      Z1q Try.prog Zf2 [.iptr (Z1vu l cols keep g h ba bh), .int .i64 (x : Int)] (β ++ ((b9, V) :: (b4, .cells 5 [.agg [.bool false, .int .i64 0, .int .i64 0, .slc 0 [] true, .slc 0 [] true]]) :: HS H ba bh st)) fun r H' => r = .agg (Zm6 vj) ∧ H' = β ++ ((b9, V) :: (b4, .cells 5 [.agg [.bool false, .int .i64 0, .int .i64 0, .slc 0 [] true, .slc 0 [] true]]) :: HS H ba bh s1) := by
    intro u hu x m hm hmt hkx st s1 vj hst ht β V h1 h2
    have := ih u hu x m hm hmt hkx st s1 vj hst ht (β ++ ((b9, V) :: (b4, .cells 5 [.agg [.bool false, .int .i64 0, .int .i64 0, .slc 0 [] true, .slc 0 [] true]]) :: HS H ba bh st))
      (by rw [Zah h1]; exact Z90 h9a (Z90 h4a (HS_a hab hHa st)))
      (by rw [Zah h2]; exact Z90 h9h (Z90 h4h (HS_h hab hHh st)))
    rw [Z1vq h1 h2, Z1vp h9a h9h, Z1vp h4a h4h, HS_HS hab, Zm7] at this
    exact this
  have kept : ∀ (r x : Z0) (β : Zc) (V : Zb) (σ1 σ2 : Zc), b9 ∉ Zh β → Z23 (([r, x, .ptr b9 0 0] : List Z0).drop 2) (β ++ ((b9, V) :: σ1)) (β ++ ((b9, V) :: σ2)) := by
    intro r x β V σ1 σ2 hn v hv b hb
    simp only [List.drop_succ_cons, List.drop_zero, List.mem_singleton] at hv
    subst hv
    simp only [Z22, Option.some.injEq] at hb
    subst hb
    rw [Zah hn, Zah hn, Z8z, Z8z]
  have fresh' : ∀ (b' : Nat) (β : Zc) (V : Zb) (st : Tk), b' ∉ Zh (β ++ ((b9, V) :: (b4, .cells 5 [.agg [.bool false, .int .i64 0, .int .i64 0, .slc 0 [] true, .slc 0 [] true]]) :: HS H ba bh st)) → b' ≠ b9 ∧ b' ≠ ba ∧ b' ≠ bh := by
    intro b' β V st hb'
    refine ⟨fun e => hb' (by rw [e]; simp [Zh]), fun e => hb' ?_, fun e => hb' ?_⟩
    · subst e
      have := Zk hHa
      have h1 : b' ∈ Zh (HS H b' bh st) := by rw [Z1vr]; exact List.mem_map_of_mem (f := (·.1)) this
      simp only [Zh, List.map_append, List.map_cons, List.mem_append, List.mem_cons] at h1 ⊢
      exact .inr (.inr (.inr h1))
    · subst e
      have := Zk hHh
      have h1 : b' ∈ Zh (HS H ba b' st) := by rw [Z1vr]; exact List.mem_map_of_mem (f := (·.1)) this
      simp only [Zh, List.map_append, List.map_cons, List.mem_append, List.mem_cons] at h1 ⊢
      exact .inr (.inr (.inr h1))
  have heA : ∀ (us : List Vl) (vj : Vl), Zm5 us ++ [Z0.agg (Zm6 vj)] = Zm5 (us ++ [vj]) := fun us vj => by rw [Zm8, Zm8, List.map_append, ← Zm7]; rfl
  have nk : ∀ (b' k : Nat) (x : Zb), b' ≠ k → k ∉ Zh [(b', x)] := fun b' k x h hm => by simp only [Zh, List.map_cons, List.map_nil, List.mem_singleton] at hm; exact h hm.symm
  refine awp_seq ?_
  refine awp_seq ?_
  refine Zbm (fun _ _ => rfl) ?_
  (repeat (refine st_q rfl rfl rfl ?_))
  rw [hk]
  (refine Z8y ?_; (repeat (first | refine Z9v rfl ?_ | refine Z9w ?_)); refine Z9u ?_)
  have hil2 : ∀ {α : Type} (f : α → Z0) (xs : List α) (y : α), xs[j]? = some y → (xs.map f)[((j : Nat) : Int).toNat]? = some (f y) := fun f xs y hy => by rw [Int.toNat_natCast, List.getElem?_map, hy]; rfl
  have hvle : ∀ (i m : Int) (xs : List Vl), VRle [.agg [.bool false, .int .i64 i, .int .i64 m, .slc 0 [] true, .slc 5 (Zm5 xs) true]] [encV (.mk false i m [] xs)] := fun i m xs => by
    rw [encV]
    refine VRle.agg (by simp [Z0.one]) ?_
    refine VRle.cons (VRle.refl _) (VRle.cons (VRle.refl _) (VRle.cons (VRle.refl _) (VRle.cons ?_ (VRle.cons ?_ (VRle.refl _)))))
    · rw [show bytes [] = [] from rfl]; exact VRle.nilF _ _
    · exact VRle.full
  by_cases k10 : k = 10 ∨ k = 11
  · rw [if_pos k10] at htk
    obtain ⟨n, hn⟩ : ∃ n, c.lens[j]? = some n := by
      cases e : c.lens[j]? with
      | none => rw [e] at htk; cases htk
      | some n => exact ⟨n, rfl⟩
    rw [hn] at htk
    have hn2 := hC.lens a c hc hka n (List.mem_of_getElem? hn)
    have hgl := hil2 (Z0.int .i64) c.lens n hn
    obtain ⟨VS, hts⟩ : ∃ VS, iterO (takeL cols keep ks (a + 1)) n.toNat s2 = some (VS, s') ∧ v = .mk false 0 0 [] VS := by
      simp only at htk
      split at htk
      · cases htk
      · rename_i vs s0 h0
        simp only [Option.some.injEq, Prod.mk.injEq] at htk
        obtain ⟨e1, rfl⟩ := htk
        exact ⟨vs, h0, e1.symm⟩
    obtain ⟨hts, rfl⟩ := hts
    have hks1000 : ks.length ≤ 1000 := by omega
    have hmul : ∀ i : Nat, i ≤ 16384 → i * ks.length ≤ 16384000 := fun i hi => Nat.le_trans (Nat.mul_le_mul hi hks1000) (by decide)
    obtain ⟨I, hI⟩ : ∃ I : Nat → Z26 → Zc → Prop, I = fun m F σ' => ∃ (i' : Nat) (st : Tk) (us : List Vl) (kv : Z0) (β : Zc), F = fset 0 (some (.iptr (Z1vu l cols keep g h ba bh))) (fset 4 (some (.ptr b4 0 0)) (fset 6 (some (.iptr (Zm2 nd))) (fset 9 (some (.ptr b9 0 0)) (fset 87 (some (.int .i64 n)) (fset 88 (some (.int .i64 (i' : Nat))) Z27))))) ∧
      β ++ ((b9, Zb.cells 5 [.agg [.bool false, .int .i64 0, .int .i64 0, .slc 0 [] true, kv]]) :: (b4, .cells 5 [.agg [.bool false, .int .i64 0, .int .i64 0, .slc 0 [] true, .slc 0 [] true]]) :: HS H ba bh st) = σ' ∧ Zbr 5 kv (Zm5 us) β ∧ b9 ∉ Zh β ∧ ba ∉ Zh β ∧ bh ∉ Zh β ∧ st.sz l.length ∧ i' ≤ n.toNat ∧ us.length ≤ i' * ks.length ∧ (∃ ws, iterO (takeL cols keep ks (a + 1)) (n.toNat - i') st = some (ws, s') ∧ us ++ ws = VS) ∧ m = n.toNat - i' := ⟨_, rfl⟩
    have loop : AWp Try.prog Z1u7.n (.loop Z1ts) (Z8g 7 (Z8e Try.prog Z1u7.n (.exit 0) (Z8g 2 (Z8e Try.prog Z1u7.n (.seq (.seq (.region Z1tt [0, 4, 9, 108, 109, 110]) (.block 11 (.loop Z1tz))) (.exit 0)) (Z8g 3 (Z8e Try.prog Z1u7.n (.seq (.seq (.region Z1u0 [0, 4, 6, 9]) (.region Z1u1 [4, 9])) (.exit 0)) (Z8g 4 (Z8e Try.prog Z1u7.n (.seq (.region Z1u2 [4, 9]) (.exit 0)) (Z8g 5 (Z8e Try.prog Z1u7.n (.region Z1u3 [4, 5, 8, 9]) (Z8g 6 (Z8e Try.prog Z1u7.n (.seq (.region Z1u4 [4, 9]) (.exit 0)) (Z8g 0 (Z8e Try.prog Z1u7.n (Z1u7.code.snd 9) (ARet Z1u7.res fun r H' => r = encV (.mk false 0 0 [] VS) ∧ H' = HS H ba bh s')))))))))))))))
        (fset 0 (some (.iptr (Z1vu l cols keep g h ba bh))) (fset 4 (some (.ptr b4 0 0)) (fset 6 (some (.iptr (Zm2 nd))) (fset 9 (some (.ptr b9 0 0)) (fset 87 (some (.int .i64 n)) (fset 88 (some (.int .i64 0)) Z27))))))
        ((b9, Zb.cells 5 [.agg [.bool false, .int .i64 0, .int .i64 0, .slc 0 [] true, .slc 0 [] true]]) :: (b4, .cells 5 [.agg [.bool false, .int .i64 0, .int .i64 0, .slc 0 [] true, .slc 0 [] true]]) :: HS H ba bh s2) := by
      refine Zaa I (n := n.toNat) (by
        rw [hI]
        exact ⟨0, s2, [], .slc 0 [] true, [], rfl, rfl, Zbr.nil 5 0, by simp [Zh], by simp [Zh], by simp [Zh], hsz2, by omega, by simp, ⟨VS, hts, rfl⟩, by omega⟩) ?_
      intro m0 F σ' hIm
      rw [hI] at hIm
      obtain ⟨i', st, us, kv, β, rfl, rfl, ho, hnb, hna, hnh, hst, hi', hus, ⟨ws, hw, hVS⟩, rfl⟩ := hIm
      (repeat (first | refine st_q rfl rfl rfl ?_ | (refine Z8y ?_; (repeat (first | refine Z9v rfl ?_ | refine Z9w ?_)); refine Z9u ?_) | refine awp_seq ?_ | refine Zbm (fun _ _ => rfl) ?_))
      refine Za3 (p := (i' : Int) < n) rfl (fun h5 => ?_) (fun h5 => ?_)
      · have hrest : n.toNat - i' = (n.toNat - (i' + 1)) + 1 := by omega
        rw [hrest, iterO] at hw
        split at hw
        · cases hw
        rename_i u1 sE hL
        split at hw
        · cases hw
        rename_i u2 s3 hR
        simp only [Option.some.injEq, Prod.mk.injEq] at hw
        obtain ⟨rfl, rfl⟩ := hw
        have hul := Z1qb cols keep _ _ _ _ _ hL
        have hmi := hmul i' (by omega)
        have hsE : sE.sz l.length := Z1q9 (f := takeL cols keep ks (a + 1)) (N := l.length) (fun s vs s' hh hs => by
          have hLs : ∀ (ks : List Ty) (a : Nat) (s : Tk) (vs : List Vl) (s' : Tk), takeL cols keep ks a s = some (vs, s') → s.sz l.length → s'.sz l.length := by
            intro ks
            induction ks with
            | nil => intro a s vs s' h hs; simp only [takeL, Option.some.injEq, Prod.mk.injEq] at h; rw [← h.2]; exact hs
            | cons t ts ih2 =>
              intro a s vs s' h hs
              simp only [takeL] at h
              split at h
              · cases h
              · rename_i v0 s10 h10
                split at h
                · cases h
                · rename_i w0 s20 h20
                  simp only [Option.some.injEq, Prod.mk.injEq] at h
                  rw [← h.2]
                  exact ih2 _ _ _ _ h20 (Z1qa cols keep l.length _ _ _ _ _ h10 hs)
          exact hLs _ _ _ _ _ hh hs) 1 st u1 sE (by simp [iterO, hL]) hst
        (repeat (first | refine st_q rfl rfl rfl ?_ | (refine Z8y ?_; (repeat (first | refine Z9v rfl ?_ | refine Z9w ?_)); refine Z9u ?_) | refine awp_seq ?_ | refine Zbm (fun _ _ => rfl) ?_ | refine Z8h ?_ | refine Zbn (fun _ _ => rfl) ?_))
        rw [hkn]
        obtain ⟨J, hJ⟩ : ∃ J : Nat → Z26 → Zc → Prop, J = fun m F σ' => ∃ (j' : Nat) (st : Tk) (ut : List Vl) (kv : Z0) (β : Zc), F = fset 0 (some (.iptr (Z1vu l cols keep g h ba bh))) (fset 4 (some (.ptr b4 0 0)) (fset 6 (some (.iptr (Zm2 nd))) (fset 9 (some (.ptr b9 0 0)) (fset 87 (some (.int .i64 n)) (fset 88 (some (.int .i64 (i' : Nat))) (fset 91 (some (.slc 1 (ints nd.kids) true)) (fset 92 (some (.int .i64 (nd.kids.length : Nat))) (fset 93 (some (.int .i64 (j' : Nat))) Z27)))))))) ∧
          β ++ ((b9, Zb.cells 5 [.agg [.bool false, .int .i64 0, .int .i64 0, .slc 0 [] true, kv]]) :: (b4, .cells 5 [.agg [.bool false, .int .i64 0, .int .i64 0, .slc 0 [] true, .slc 0 [] true]]) :: HS H ba bh st) = σ' ∧ Zbr 5 kv (Zm5 ut) β ∧ b9 ∉ Zh β ∧ ba ∉ Zh β ∧ bh ∉ Zh β ∧ st.sz l.length ∧ j' ≤ nd.kids.length ∧ ut.length ≤ i' * ks.length + j' ∧ (∃ ws, takeL cols keep (ks.drop j') (a + 1 + cntL (ks.take j')) st = some (ws, sE) ∧ ut ++ ws = us ++ u1) ∧ m = nd.kids.length - j' := ⟨_, rfl⟩
        refine Zaa J (n := nd.kids.length) (by
          rw [hJ]
          exact ⟨0, st, us, kv, β, rfl, rfl, ho, hnb, hna, hnh, hst, by omega, by omega, ⟨u1, by simpa [cntL] using hL, rfl⟩, by omega⟩) ?_
        clear ho hnb hna hnh hst
        clear kv β
        intro m1 F σ' hJm
        rw [hJ] at hJm
        obtain ⟨j', st, ut, kv, β, rfl, rfl, ho, hnb, hna, hnh, hst, hj', hut, ⟨ws, hw, hVt⟩, rfl⟩ := hJm
        (repeat (first | refine st_q rfl rfl rfl ?_ | (refine Z8y ?_; (repeat (first | refine Z9v rfl ?_ | refine Z9w ?_)); refine Z9u ?_) | refine awp_seq ?_ | refine Zbm (fun _ _ => rfl) ?_))
        refine Za3 (p := (j' : Int) < (nd.kids.length : Nat)) rfl (fun h6 => ?_) (fun h6 => ?_)
        · have hjl : j' < nd.kids.length := by omega
          have hjk : j' < ks.length := by omega
          obtain ⟨m, hx, hm, hmt, hxm⟩ := hkidx j' ks[j'] (List.getElem?_eq_getElem hjk)
          have hcs := Z1q8 ks j' ks[j'] (List.getElem?_eq_getElem hjk)
          have humem : ks[j'] ∈ ks := List.getElem_mem hjk
          rw [List.drop_eq_getElem_cons hjk, takeL] at hw
          generalize ks[j'] = u at hm hmt hcs hw humem hx
          generalize hxe : a + 1 + cntL (ks.take j') = x at hx hm hw hxm
          have hcs2 : a + 1 + cntL (ks.take (j' + 1)) = x + cnt u := by omega
          have hkx : keep.getD x false = true := by
            rcases (hWh a nd hnd x hxm).2 hka with e | e
            · exact e
            · omega
          split at hw
          · cases hw
          rename_i vj s1 ht1
          split at hw
          · cases hw
          rename_i w2 s4 hw2
          simp only [Option.some.injEq, Prod.mk.injEq] at hw
          obtain ⟨rfl, rfl⟩ := hw
          have hst1 := Z1qa cols keep l.length _ _ _ _ _ ht1 hst
          (repeat (first | refine awp_seq ?_ | refine Zbm (fun _ _ => rfl) ?_ | refine Z8h ?_ | refine Zbn (fun _ _ => rfl) ?_))
          refine Z93 rfl (by omega) hx ?_
          (repeat (refine st_q rfl rfl rfl ?_))
          (refine Z8y ?_; (repeat (first | refine Z9v rfl ?_ | refine Z9w ?_)); refine Z9u ?_)
          refine Zbm (fun _ _ => rfl) ?_
          (repeat (refine st_q rfl rfl rfl ?_))
          refine Z1vl rfl rfl (by rw [Zah hnb]; exact Z8z) rfl rfl ?_
          (repeat (refine st_q rfl rfl rfl ?_))
          refine Z1vm rfl (call _ humem _ _ hm hmt hkx st s1 vj hst ht1 β _ hna hnh) (kept _ _ _ _ _ _ hnb) ?_
          (repeat (refine st_q rfl rfl rfl ?_))
          refine Zbs (ys := [.agg (Zm6 vj)]) ho rfl rfl (by rw [Zm9, List.length_singleton]; omega) fun b' hb' => ?_
          obtain ⟨f9, fa, fh⟩ := fresh' b' β _ s1 hb'
          rw [heA]
          (repeat (refine st_q rfl rfl rfl ?_))
          refine Z9a rfl (Z90 f9 Z8z) rfl (by decide) (Kfi rfl) (fun h => by cases h) (Z9c f9 Z9b) ?_
          (refine Z8y ?_; (repeat (first | refine Z9v rfl ?_ | refine Z9w ?_)); refine Z9u ?_)
          refine Zbp ?_
          (repeat (refine st_q rfl rfl rfl ?_))
          rw [show IntKind.wrap .i64 ((j' : Int) + 1) = ((j' + 1 : Nat) : Int) by rw [w64 _ (by omega) (by omega)]; omega]
          (refine Z8y ?_; (repeat (first | refine Z9v rfl ?_ | refine Z9w ?_)); refine Z9u ?_)
          refine ⟨_, nd.kids.length - (j' + 1), HSub.refl _, ?_, by omega⟩
          rw [hJ]
          exact ⟨j' + 1, s1, ut ++ [vj], _, _, rfl, rfl, Zbr.mk, nk _ _ _ f9, nk _ _ _ fa, nk _ _ _ fh, hst1, by omega, by rw [List.length_append, List.length_singleton]; omega, ⟨w2, by rw [hcs2]; exact hw2, by rw [List.append_assoc]; exact hVt⟩, rfl⟩
        · rw [List.drop_of_length_le (by omega), takeL] at hw
          simp only [Option.some.injEq, Prod.mk.injEq] at hw
          obtain ⟨rfl, rfl⟩ := hw
          rw [List.append_nil] at hVt
          subst hVt
          (repeat refine Zbo (fun _ _ => rfl) ?_)
          refine Zbp ?_
          (repeat (refine st_q rfl rfl rfl ?_))
          rw [show IntKind.wrap .i64 ((i' : Int) + 1) = ((i' + 1 : Nat) : Int) by rw [w64 _ (by omega) (by omega)]; omega]
          (refine Z8y ?_; (repeat (first | refine Z9v rfl ?_ | refine Z9w ?_)); refine Z9u ?_)
          refine ⟨_, n.toNat - (i' + 1), HSub.refl _, ?_, by omega⟩
          rw [hI]
          exact ⟨i' + 1, st, us ++ u1, kv, β, rfl, rfl, ho, hnb, hna, hnh, hst, by omega, by rw [List.length_append, hul, Nat.succ_mul]; omega, ⟨u2, hR, by rw [List.append_assoc]; exact hVS⟩, rfl⟩
      · have hz : n.toNat - i' = 0 := by omega
        rw [hz, iterO] at hw
        simp only [Option.some.injEq, Prod.mk.injEq] at hw
        obtain ⟨rfl, rfl⟩ := hw
        rw [List.append_nil] at hVS
        subst hVS
        refine Zbo (fun _ _ => rfl) ?_
        refine Zbo (fun _ _ => rfl) ?_
        (refine Z9y (keep := [4, 9]) ?_; ((repeat (first | refine Z9v rfl ?_ | refine Z9w ?_)); refine Z9u ?_))
        exact fin st kv us β 0 0 _ ho hnb (hvle _ _ _) rfl rfl
    rcases k10 with k10 | k10
    · subst k10
      (repeat (first | refine st_q rfl rfl rfl ?_ | (refine Z8y ?_; (repeat (first | refine Z9v rfl ?_ | refine Z9w ?_)); refine Z9u ?_) | refine awp_seq ?_ | refine Zbm (fun _ _ => rfl) ?_ | refine Z8h ?_ | refine Zbn (fun _ _ => rfl) ?_ | refine Zbo (fun _ _ => rfl) ?_ | refine Kc1 rfl ?_))
      refine Z93 rfl (by omega) hgl ?_
      (repeat (first | refine st_q rfl rfl rfl ?_ | (refine Z8y ?_; (repeat (first | refine Z9v rfl ?_ | refine Z9w ?_)); refine Z9u ?_) | refine Z8h ?_))
      exact loop
    · subst k10
      (repeat (first | refine st_q rfl rfl rfl ?_ | (refine Z8y ?_; (repeat (first | refine Z9v rfl ?_ | refine Z9w ?_)); refine Z9u ?_) | refine awp_seq ?_ | refine Zbm (fun _ _ => rfl) ?_ | refine Z8h ?_ | refine Zbo (fun _ _ => rfl) ?_ | refine Kc1 rfl ?_ | refine Kc2 rfl ?_))
      refine Z93 rfl (by omega) hgl ?_
      (repeat (first | refine st_q rfl rfl rfl ?_ | (refine Z8y ?_; (repeat (first | refine Z9v rfl ?_ | refine Z9w ?_)); refine Z9u ?_) | refine Z8h ?_))
      exact loop
  rw [if_neg k10] at htk
  by_cases k12 : k = 12
  · subst k12
    rw [if_pos rfl] at htk
    obtain ⟨VS, hts⟩ : ∃ VS, takeS cols keep ks (a + 1) s2 = some (VS, s') ∧ v = .mk false 0 0 [] VS := by
      split at htk
      · cases htk
      · rename_i vs s0 h0
        simp only [Option.some.injEq, Prod.mk.injEq] at htk
        obtain ⟨e1, rfl⟩ := htk
        exact ⟨vs, h0, e1.symm⟩
    obtain ⟨hts, rfl⟩ := hts
    (repeat (first | refine st_q rfl rfl rfl ?_ | (refine Z8y ?_; (repeat (first | refine Z9v rfl ?_ | refine Z9w ?_)); refine Z9u ?_) | refine awp_seq ?_ | refine Zbm (fun _ _ => rfl) ?_ | refine Z8h ?_ | refine Zbn (fun _ _ => rfl) ?_ | refine Zbo (fun _ _ => rfl) ?_ | refine Kc1 rfl ?_ | refine Kc2 rfl ?_))
    rw [hkn]
    obtain ⟨I, hI⟩ : ∃ I : Nat → Z26 → Zc → Prop, I = fun m F σ' => ∃ (j : Nat) (st : Tk) (us : List Vl) (kv : Z0) (β : Zc), F = fset 0 (some (.iptr (Z1vu l cols keep g h ba bh))) (fset 4 (some (.ptr b4 0 0)) (fset 9 (some (.ptr b9 0 0)) (fset 108 (some (.slc 1 (ints nd.kids) true)) (fset 109 (some (.int .i64 (nd.kids.length : Nat))) (fset 110 (some (.int .i64 (j : Nat))) Z27))))) ∧
      β ++ ((b9, Zb.cells 5 [.agg [.bool false, .int .i64 0, .int .i64 0, .slc 0 [] true, kv]]) :: (b4, .cells 5 [.agg [.bool false, .int .i64 0, .int .i64 0, .slc 0 [] true, .slc 0 [] true]]) :: HS H ba bh st) = σ' ∧ Zbr 5 kv (Zm5 us) β ∧ b9 ∉ Zh β ∧ ba ∉ Zh β ∧ bh ∉ Zh β ∧ st.sz l.length ∧ j ≤ nd.kids.length ∧ us.length ≤ j ∧ (∃ ws, takeS cols keep (ks.drop j) (a + 1 + cntL (ks.take j)) st = some (ws, s') ∧ us ++ ws = VS) ∧ m = nd.kids.length - j := ⟨_, rfl⟩
    refine Zaa I (n := nd.kids.length) (by
      rw [hI]
      exact ⟨0, s2, [], .slc 0 [] true, [], rfl, rfl, Zbr.nil 5 0, by simp [Zh], by simp [Zh], by simp [Zh], hsz2, by omega, by simp, ⟨VS, by simpa [cntL] using hts, rfl⟩, by omega⟩) ?_
    intro m0 F σ' hIm
    rw [hI] at hIm
    obtain ⟨j', st, us, kv, β, rfl, rfl, ho, hnb, hna, hnh, hst, hj', hus, ⟨ws, hw, hVS⟩, rfl⟩ := hIm
    (repeat (first | refine st_q rfl rfl rfl ?_ | (refine Z8y ?_; (repeat (first | refine Z9v rfl ?_ | refine Z9w ?_)); refine Z9u ?_) | refine awp_seq ?_ | refine Zbm (fun _ _ => rfl) ?_))
    refine Za3 (p := (j' : Int) < (nd.kids.length : Nat)) rfl (fun h5 => ?_) (fun h5 => ?_)
    · have hjl : j' < nd.kids.length := by omega
      have hjk : j' < ks.length := by omega
      obtain ⟨m, hx, hm, hmt, hxm⟩ := hkidx j' ks[j'] (List.getElem?_eq_getElem hjk)
      have hcs := Z1q8 ks j' ks[j'] (List.getElem?_eq_getElem hjk)
      have humem : ks[j'] ∈ ks := List.getElem_mem hjk
      rw [List.drop_eq_getElem_cons hjk, takeS] at hw
      generalize ks[j'] = u at hm hmt hcs hw humem hx
      generalize hxe : a + 1 + cntL (ks.take j') = x at hx hm hw hxm
      have hxl : x < l.length := (List.getElem?_eq_some_iff.1 hm).1
      have hgk := Zxw (f := Z0.bool) (show x < keep.length by omega)
      have hdk : keep.getD x false = keep[x] := by rw [List.getD_eq_getElem?_getD, List.getElem?_eq_getElem (by omega)]; rfl
      rw [hdk] at hw
      generalize keep[x] = kx at hgk hw hdk
      have hcs2 : a + 1 + cntL (ks.take (j' + 1)) = x + cnt u := by omega
      (repeat (first | refine awp_seq ?_ | refine Zbm (fun _ _ => rfl) ?_ | refine Z8h ?_ | refine Zbn (fun _ _ => rfl) ?_))
      refine Z93 rfl (by omega) hx ?_
      (repeat (first | refine st_q rfl rfl rfl ?_ | (refine Z8y ?_; (repeat (first | refine Z9v rfl ?_ | refine Z9w ?_)); refine Z9u ?_) | refine awp_seq ?_ | refine Zbm (fun _ _ => rfl) ?_))
      refine Z93 rfl (by omega) hgk ?_
      (repeat (refine st_q rfl rfl rfl ?_))
      (refine Z8y ?_; (repeat (first | refine Z9v rfl ?_ | refine Z9w ?_)); refine Z9u ?_)
      cases kx with
      | false =>
        simp only [Bool.false_eq_true, if_false] at hw
        refine Kc2 rfl ?_
        refine Zbn (fun _ _ => rfl) ?_
        (refine Z9y (keep := [0, 4, 9, 108, 109, 110]) ?_; ((repeat (first | refine Z9v rfl ?_ | refine Z9w ?_)); refine Z9u ?_))
        refine Zbp ?_
        (repeat (refine st_q rfl rfl rfl ?_))
        rw [show IntKind.wrap .i64 ((j' : Int) + 1) = ((j' + 1 : Nat) : Int) by rw [w64 _ (by omega) (by omega)]; omega]
        (refine Z8y ?_; (repeat (first | refine Z9v rfl ?_ | refine Z9w ?_)); refine Z9u ?_)
        refine ⟨_, nd.kids.length - (j' + 1), HSub.refl _, ?_, by omega⟩
        rw [hI]
        exact ⟨j' + 1, st, us, kv, β, rfl, rfl, ho, hnb, hna, hnh, hst, by omega, by omega, ⟨ws, by rw [hcs2]; exact hw, hVS⟩, rfl⟩
      | true =>
        have hkx := hdk
        simp only [if_true] at hw
        split at hw
        · cases hw
        rename_i vj s1 ht1
        split at hw
        · cases hw
        rename_i w2 s3 hw2
        simp only [Option.some.injEq, Prod.mk.injEq] at hw
        obtain ⟨rfl, rfl⟩ := hw
        have hst1 := Z1qa cols keep l.length _ _ _ _ _ ht1 hst
        refine Kc1 rfl ?_
        refine Zbm (fun _ _ => rfl) ?_
        (repeat (refine st_q rfl rfl rfl ?_))
        refine Z1vl rfl rfl (by rw [Zah hnb]; exact Z8z) rfl rfl ?_
        (repeat (refine st_q rfl rfl rfl ?_))
        refine Z1vm rfl (call _ humem _ _ hm hmt hkx st s1 vj hst ht1 β _ hna hnh) (kept _ _ _ _ _ _ hnb) ?_
        (repeat (refine st_q rfl rfl rfl ?_))
        refine Zbs (ys := [.agg (Zm6 vj)]) ho rfl rfl (by rw [Zm9, List.length_singleton]; omega) fun b' hb' => ?_
        obtain ⟨f9, fa, fh⟩ := fresh' b' β _ s1 hb'
        rw [heA]
        (repeat (refine st_q rfl rfl rfl ?_))
        refine Z9a rfl (Z90 f9 Z8z) rfl (by decide) (Kfi rfl) (fun h => by cases h) (Z9c f9 Z9b) ?_
        (refine Z8y ?_; (repeat (first | refine Z9v rfl ?_ | refine Z9w ?_)); refine Z9u ?_)
        refine Zbp ?_
        (repeat (refine st_q rfl rfl rfl ?_))
        rw [show IntKind.wrap .i64 ((j' : Int) + 1) = ((j' + 1 : Nat) : Int) by rw [w64 _ (by omega) (by omega)]; omega]
        (refine Z8y ?_; (repeat (first | refine Z9v rfl ?_ | refine Z9w ?_)); refine Z9u ?_)
        refine ⟨_, nd.kids.length - (j' + 1), HSub.refl _, ?_, by omega⟩
        rw [hI]
        exact ⟨j' + 1, s1, us ++ [vj], _, _, rfl, rfl, Zbr.mk, nk _ _ _ f9, nk _ _ _ fa, nk _ _ _ fh, hst1, by omega, by rw [List.length_append, List.length_singleton]; omega, ⟨w2, by rw [hcs2]; exact hw2, by rw [List.append_assoc]; exact hVS⟩, rfl⟩
    · rw [List.drop_of_length_le (by omega), takeS] at hw
      simp only [Option.some.injEq, Prod.mk.injEq] at hw
      obtain ⟨rfl, rfl⟩ := hw
      rw [List.append_nil] at hVS
      subst hVS
      refine Zbo (fun _ _ => rfl) ?_
      refine Zbo (fun _ _ => rfl) ?_
      (refine Z9y (keep := [4, 9]) ?_; ((repeat (first | refine Z9v rfl ?_ | refine Z9w ?_)); refine Z9u ?_))
      exact fin st kv us β 0 0 _ ho hnb (hvle _ _ _) rfl rfl
  rw [if_neg k12] at htk
  by_cases k13 : k = 13
  · subst k13
    rw [if_pos rfl] at htk
    obtain ⟨n, hn⟩ : ∃ n, c.ints[j]? = some n := by
      cases e : c.ints[j]? with
      | none => rw [e] at htk; cases htk
      | some n => exact ⟨n, rfl⟩
    rw [hn] at htk
    have hgi := hil2 (Z0.int .i64) c.ints n hn
    simp only at htk
    split at htk
    · cases htk
    rename_i hn0
    split at htk
    · cases htk
    rename_i vj s1 hN1
    simp only [Option.some.injEq, Prod.mk.injEq] at htk
    obtain ⟨rfl, rfl⟩ := htk
    obtain ⟨u, hu, ht1⟩ := Z1q7 hN1
    obtain ⟨m, hx, hm, hmt, hxm⟩ := hkidx n.toNat u hu
    have humem := List.mem_of_getElem? hu
    have hxn : (ints nd.kids)[n.toNat]? = some (.int .i64 ((a + 1 + cntL (ks.take n.toNat) : Nat) : Int)) := by rw [← hx, Int.toNat_natCast]
    generalize a + 1 + cntL (ks.take n.toNat) = x at hx hm ht1 hxn hxm
    have hkx : keep.getD x false = true := by
      rcases (hWh a nd hnd x hxm).2 hka with e | e
      · exact e
      · rw [hk] at e; cases e
    (repeat (first | refine st_q rfl rfl rfl ?_ | (refine Z8y ?_; (repeat (first | refine Z9v rfl ?_ | refine Z9w ?_)); refine Z9u ?_) | refine awp_seq ?_ | refine Zbm (fun _ _ => rfl) ?_ | refine Z8h ?_ | refine Zbn (fun _ _ => rfl) ?_ | refine Zbo (fun _ _ => rfl) ?_ | refine Kc1 rfl ?_ | refine Kc2 rfl ?_))
    refine Z93 rfl (by omega) hgi ?_
    (repeat (refine st_q rfl rfl rfl ?_))
    (first | refine Z9a rfl Z8z rfl (by decide) (Kfi rfl) (fun h => by cases h) Z9b ?_ | refine Z8v rfl (Z9a rfl Z8z rfl (by decide) (Kfi rfl) (fun h => by cases h) Z9b ?_))
    (refine Z8y ?_; (repeat (first | refine Z9v rfl ?_ | refine Z9w ?_)); refine Z9u ?_)
    refine Zbm (fun _ _ => rfl) ?_
    (repeat (refine st_q rfl rfl rfl ?_))
    refine Z1vl rfl rfl Z8z rfl rfl ?_
    (repeat (refine st_q rfl rfl rfl ?_))
    refine Z92 rfl Z8z rfl rfl ?_
    refine Z93 rfl (by omega) hxn ?_
    (repeat (refine st_q rfl rfl rfl ?_))
    refine Z1vm rfl (call u humem x m hm hmt hkx s2 s1 vj hsz2 ht1 [] _ (by simp [Zh]) (by simp [Zh])) (kept _ _ [] _ _ _ (by simp [Zh])) ?_
    (repeat (refine st_q rfl rfl rfl ?_))
    refine Zbs (β := []) (ys := [.agg (Zm6 vj)]) (Zbr.nil 5 0) rfl rfl (by simp) fun b' hb' => ?_
    obtain ⟨f9, fa, fh⟩ := fresh' b' [] _ s1 hb'
    rw [show ([] : List Z0) ++ [Z0.agg (Zm6 vj)] = Zm5 [vj] from by rw [Zm8, List.map_cons, List.map_nil, Zm7]; rfl]
    (repeat (refine st_q rfl rfl rfl ?_))
    refine Z9a rfl (Z90 f9 Z8z) rfl (by decide) (Kfi rfl) (fun h => by cases h) (Z9c f9 Z9b) ?_
    (refine Z8y ?_; (repeat (first | refine Z9v rfl ?_ | refine Z9w ?_)); refine Z9u ?_)
    refine Zbo (fun _ _ => rfl) ?_
    (refine Z9y (keep := [4, 9]) ?_; ((repeat (first | refine Z9v rfl ?_ | refine Z9w ?_)); refine Z9u ?_))
    exact fin s1 _ [vj] [(b', _)] n 0 _ Zbr.mk (nk _ _ _ f9) (hvle _ _ _) rfl rfl
  rw [if_neg k13] at htk
  by_cases hT7 : Zmb k = true
  · rw [if_pos hT7] at htk
    obtain ⟨bs, hbs⟩ : ∃ bs, c.texts[j]? = some bs := by
      cases e : c.texts[j]? with
      | none => rw [e] at htk; cases htk
      | some n => exact ⟨n, rfl⟩
    rw [hbs] at htk
    simp only [Option.some.injEq, Prod.mk.injEq] at htk
    obtain ⟨rfl, rfl⟩ := htk
    have hgt := hil2 (fun b => Z0.slc 1 (bytes b) false) c.texts bs hbs
    have hb4k := hC.text a c hc hka bs (List.mem_of_getElem? hbs)
    have hcl := Zue (bytes bs) false (fun x hx => by obtain ⟨y, _, rfl⟩ := List.mem_map.1 hx; exact ⟨rfl, by simp [Zx, Z0.cells, Z0.one]⟩) (by rw [Zam]; omega)
    have hvb : VRle [.agg [.bool false, .int .i64 0, .int .i64 0, .slc 1 (bytes bs) true, .slc 5 (Zm5 []) true]] [encV (.mk false 0 0 bs [])] := by
      rw [encV]
      refine VRle.agg (by simp [Z0.one]) ?_
      exact VRle.cons (VRle.refl _) (VRle.cons (VRle.refl _) (VRle.cons (VRle.refl _) (VRle.cons VRle.full (VRle.cons VRle.full (VRle.refl _)))))
    rcases Z1jz hT7 with e | e | e | e
    · subst e
      (repeat (first | refine st_q rfl rfl rfl ?_ | (refine Z8y ?_; (repeat (first | refine Z9v rfl ?_ | refine Z9w ?_)); refine Z9u ?_) | refine awp_seq ?_ | refine Zbm (fun _ _ => rfl) ?_ | refine Z8h ?_ | refine Zbn (fun _ _ => rfl) ?_ | refine Zbo (fun _ _ => rfl) ?_ | refine Kc1 rfl ?_ | refine Kc2 rfl ?_))
      refine Z93 rfl (by omega) hgt ?_
      (repeat (refine st_q rfl rfl rfl ?_))
      refine Z9t rfl (hcl _) ?_
      refine Z9t rfl (Zua (bytes bs) false _) ?_
      (repeat (refine st_q rfl rfl rfl ?_))
      (first | refine Z9a rfl Z8z rfl (by decide) (Kfi rfl) (fun h => by cases h) Z9b ?_ | refine Z8v rfl (Z9a rfl Z8z rfl (by decide) (Kfi rfl) (fun h => by cases h) Z9b ?_))
      (refine Z8y ?_; (repeat (first | refine Z9v rfl ?_ | refine Z9w ?_)); refine Z9u ?_)
      refine Zbo (fun _ _ => rfl) ?_
      (refine Z9y (keep := [4, 9]) ?_; ((repeat (first | refine Z9v rfl ?_ | refine Z9w ?_)); refine Z9u ?_))
      exact fin s2 _ [] [] 0 0 _ (Zbr.nil 5 0) h9n hvb rfl rfl
    · subst e
      (repeat (first | refine st_q rfl rfl rfl ?_ | (refine Z8y ?_; (repeat (first | refine Z9v rfl ?_ | refine Z9w ?_)); refine Z9u ?_) | refine awp_seq ?_ | refine Zbm (fun _ _ => rfl) ?_ | refine Z8h ?_ | refine Zbn (fun _ _ => rfl) ?_ | refine Zbo (fun _ _ => rfl) ?_ | refine Kc1 rfl ?_ | refine Kc2 rfl ?_))
      refine Z93 rfl (by omega) hgt ?_
      (repeat (refine st_q rfl rfl rfl ?_))
      refine Z9t rfl (hcl _) ?_
      refine Z9t rfl (Zua (bytes bs) false _) ?_
      (repeat (refine st_q rfl rfl rfl ?_))
      (first | refine Z9a rfl Z8z rfl (by decide) (Kfi rfl) (fun h => by cases h) Z9b ?_ | refine Z8v rfl (Z9a rfl Z8z rfl (by decide) (Kfi rfl) (fun h => by cases h) Z9b ?_))
      (refine Z8y ?_; (repeat (first | refine Z9v rfl ?_ | refine Z9w ?_)); refine Z9u ?_)
      refine Zbo (fun _ _ => rfl) ?_
      (refine Z9y (keep := [4, 9]) ?_; ((repeat (first | refine Z9v rfl ?_ | refine Z9w ?_)); refine Z9u ?_))
      exact fin s2 _ [] [] 0 0 _ (Zbr.nil 5 0) h9n hvb rfl rfl
    · subst e
      (repeat (first | refine st_q rfl rfl rfl ?_ | (refine Z8y ?_; (repeat (first | refine Z9v rfl ?_ | refine Z9w ?_)); refine Z9u ?_) | refine awp_seq ?_ | refine Zbm (fun _ _ => rfl) ?_ | refine Z8h ?_ | refine Zbn (fun _ _ => rfl) ?_ | refine Zbo (fun _ _ => rfl) ?_ | refine Kc1 rfl ?_ | refine Kc2 rfl ?_))
      refine Z93 rfl (by omega) hgt ?_
      (repeat (refine st_q rfl rfl rfl ?_))
      refine Z9t rfl (hcl _) ?_
      refine Z9t rfl (Zua (bytes bs) false _) ?_
      (repeat (refine st_q rfl rfl rfl ?_))
      (first | refine Z9a rfl Z8z rfl (by decide) (Kfi rfl) (fun h => by cases h) Z9b ?_ | refine Z8v rfl (Z9a rfl Z8z rfl (by decide) (Kfi rfl) (fun h => by cases h) Z9b ?_))
      (refine Z8y ?_; (repeat (first | refine Z9v rfl ?_ | refine Z9w ?_)); refine Z9u ?_)
      refine Zbo (fun _ _ => rfl) ?_
      (refine Z9y (keep := [4, 9]) ?_; ((repeat (first | refine Z9v rfl ?_ | refine Z9w ?_)); refine Z9u ?_))
      exact fin s2 _ [] [] 0 0 _ (Zbr.nil 5 0) h9n hvb rfl rfl
    · subst e
      (repeat (first | refine st_q rfl rfl rfl ?_ | (refine Z8y ?_; (repeat (first | refine Z9v rfl ?_ | refine Z9w ?_)); refine Z9u ?_) | refine awp_seq ?_ | refine Zbm (fun _ _ => rfl) ?_ | refine Z8h ?_ | refine Zbn (fun _ _ => rfl) ?_ | refine Zbo (fun _ _ => rfl) ?_ | refine Kc1 rfl ?_ | refine Kc2 rfl ?_))
      refine Z93 rfl (by omega) hgt ?_
      (repeat (refine st_q rfl rfl rfl ?_))
      refine Z9t rfl (hcl _) ?_
      refine Z9t rfl (Zua (bytes bs) false _) ?_
      (repeat (refine st_q rfl rfl rfl ?_))
      (first | refine Z9a rfl Z8z rfl (by decide) (Kfi rfl) (fun h => by cases h) Z9b ?_ | refine Z8v rfl (Z9a rfl Z8z rfl (by decide) (Kfi rfl) (fun h => by cases h) Z9b ?_))
      (refine Z8y ?_; (repeat (first | refine Z9v rfl ?_ | refine Z9w ?_)); refine Z9u ?_)
      refine Zbo (fun _ _ => rfl) ?_
      (refine Z9y (keep := [4, 9]) ?_; ((repeat (first | refine Z9v rfl ?_ | refine Z9w ?_)); refine Z9u ?_))
      exact fin s2 _ [] [] 0 0 _ (Zbr.nil 5 0) h9n hvb rfl rfl
  rw [if_neg hT7] at htk
  by_cases k9 : k = 9
  · subst k9
    rw [if_pos rfl] at htk
    split at htk
    · rename_i m n hm hn
      simp only [Option.some.injEq, Prod.mk.injEq] at htk
      obtain ⟨rfl, rfl⟩ := htk
      have hgm := hil2 (Z0.int .i64) c.ns m hm
      have hgn := hil2 (Z0.int .i64) c.ints n hn
      (repeat (first | refine st_q rfl rfl rfl ?_ | (refine Z8y ?_; (repeat (first | refine Z9v rfl ?_ | refine Z9w ?_)); refine Z9u ?_) | refine awp_seq ?_ | refine Zbm (fun _ _ => rfl) ?_ | refine Z8h ?_ | refine Zbn (fun _ _ => rfl) ?_ | refine Zbo (fun _ _ => rfl) ?_ | refine Kc1 rfl ?_ | refine Kc2 rfl ?_))
      refine Z93 rfl (by omega) hgm ?_
      (repeat (refine st_q rfl rfl rfl ?_))
      (first | refine Z9a rfl Z8z rfl (by decide) (Kfi rfl) (fun h => by cases h) Z9b ?_ | refine Z8v rfl (Z9a rfl Z8z rfl (by decide) (Kfi rfl) (fun h => by cases h) Z9b ?_))
      (refine Z8y ?_; (repeat (first | refine Z9v rfl ?_ | refine Z9w ?_)); refine Z9u ?_)
      refine Z9z ?_
      (repeat (refine st_q rfl rfl rfl ?_))
      refine Z93 rfl (by omega) hgn ?_
      (repeat (refine st_q rfl rfl rfl ?_))
      (first | refine Z9a rfl Z8z rfl (by decide) (Kfi rfl) (fun h => by cases h) Z9b ?_ | refine Z8v rfl (Z9a rfl Z8z rfl (by decide) (Kfi rfl) (fun h => by cases h) Z9b ?_))
      (refine Z8y ?_; (repeat (first | refine Z9v rfl ?_ | refine Z9w ?_)); refine Z9u ?_)
      refine Zbo (fun _ _ => rfl) ?_
      (refine Z9y (keep := [4, 9]) ?_; ((repeat (first | refine Z9v rfl ?_ | refine Z9w ?_)); refine Z9u ?_))
      exact fin s2 _ [] [] n m _ (Zbr.nil 5 0) h9n (hvle _ _ _) rfl rfl
    · cases htk
  rw [if_neg k9] at htk
  obtain ⟨n, hn⟩ : ∃ n, c.ints[j]? = some n := by
    cases e : c.ints[j]? with
    | none => rw [e] at htk; cases htk
    | some n => exact ⟨n, rfl⟩
  rw [hn] at htk
  simp only [Option.some.injEq, Prod.mk.injEq] at htk
  obtain ⟨rfl, rfl⟩ := htk
  have hgn := hil2 (Z0.int .i64) c.ints n hn
  have hnt : ¬ k = 7 ∧ ¬ k = 8 ∧ ¬ k = 16 ∧ ¬ k = 17 := by
    refine ⟨fun e => hT7 (by rw [e]; rfl), fun e => hT7 (by rw [e]; rfl), fun e => hT7 (by rw [e]; rfl), fun e => hT7 (by rw [e]; rfl)⟩
  (repeat (first | refine st_q rfl rfl rfl ?_ | (refine Z8y ?_; (repeat (first | refine Z9v rfl ?_ | refine Z9w ?_)); refine Z9u ?_) | refine awp_seq ?_ | refine Zbm (fun _ _ => rfl) ?_ | refine Z8h ?_))
  (rw [decide_eq_false (p := k = 10) (by omega)])
  (repeat (first | refine st_q rfl rfl rfl ?_ | (refine Z8y ?_; (repeat (first | refine Z9v rfl ?_ | refine Z9w ?_)); refine Z9u ?_) | refine Zbm (fun _ _ => rfl) ?_ | refine Kc2 rfl ?_))
  (rw [decide_eq_false (p := k = 11) (by omega)])
  (repeat (first | refine st_q rfl rfl rfl ?_ | (refine Z8y ?_; (repeat (first | refine Z9v rfl ?_ | refine Z9w ?_)); refine Z9u ?_) | refine awp_seq ?_ | refine Zbm (fun _ _ => rfl) ?_ | refine Zbn (fun _ _ => rfl) ?_ | refine Kc2 rfl ?_))
  (rw [decide_eq_false (p := k = 12) (by omega)])
  (repeat (first | refine st_q rfl rfl rfl ?_ | (refine Z8y ?_; (repeat (first | refine Z9v rfl ?_ | refine Z9w ?_)); refine Z9u ?_) | refine awp_seq ?_ | refine Zbm (fun _ _ => rfl) ?_ | refine Zbn (fun _ _ => rfl) ?_ | refine Kc2 rfl ?_))
  (rw [decide_eq_false (p := k = 13) (by omega)])
  (repeat (first | refine st_q rfl rfl rfl ?_ | (refine Z8y ?_; (repeat (first | refine Z9v rfl ?_ | refine Z9w ?_)); refine Z9u ?_) | refine awp_seq ?_ | refine Zbm (fun _ _ => rfl) ?_ | refine Zbn (fun _ _ => rfl) ?_ | refine Kc2 rfl ?_))
  (rw [decide_eq_false (p := k = 7) (by omega)])
  (repeat (first | refine st_q rfl rfl rfl ?_ | (refine Z8y ?_; (repeat (first | refine Z9v rfl ?_ | refine Z9w ?_)); refine Z9u ?_) | refine awp_seq ?_ | refine Zbm (fun _ _ => rfl) ?_ | refine Kc2 rfl ?_))
  (rw [decide_eq_false (p := k = 8) (by omega)])
  (repeat (first | refine st_q rfl rfl rfl ?_ | (refine Z8y ?_; (repeat (first | refine Z9v rfl ?_ | refine Z9w ?_)); refine Z9u ?_) | refine awp_seq ?_ | refine Zbm (fun _ _ => rfl) ?_ | refine Kc2 rfl ?_))
  (rw [decide_eq_false (p := k = 16) (by omega)])
  (repeat (first | refine st_q rfl rfl rfl ?_ | (refine Z8y ?_; (repeat (first | refine Z9v rfl ?_ | refine Z9w ?_)); refine Z9u ?_) | refine Zbm (fun _ _ => rfl) ?_ | refine Kc2 rfl ?_))
  (rw [decide_eq_false (p := k = 17) (by omega)])
  (repeat (first | refine st_q rfl rfl rfl ?_ | (refine Z8y ?_; (repeat (first | refine Z9v rfl ?_ | refine Z9w ?_)); refine Z9u ?_) | refine awp_seq ?_ | refine Zbm (fun _ _ => rfl) ?_ | refine Zbn (fun _ _ => rfl) ?_ | refine Kc2 rfl ?_))
  (rw [decide_eq_false (p := k = 9) (by omega)])
  (repeat (first | refine st_q rfl rfl rfl ?_ | refine awp_seq ?_ | refine Zbm (fun _ _ => rfl) ?_ | refine Zbn (fun _ _ => rfl) ?_ | refine Zbo (fun _ _ => rfl) ?_ | refine Kc2 rfl ?_))
  refine Z93 rfl (by omega) hgn ?_
  (repeat (refine st_q rfl rfl rfl ?_))
  (first | refine Z9a rfl Z8z rfl (by decide) (Kfi rfl) (fun h => by cases h) Z9b ?_ | refine Z8v rfl (Z9a rfl Z8z rfl (by decide) (Kfi rfl) (fun h => by cases h) Z9b ?_))
  (refine Z8y ?_; (repeat (first | refine Z9v rfl ?_ | refine Z9w ?_)); refine Z9u ?_)
  refine Zbo (fun _ _ => rfl) ?_
  (refine Z9y (keep := [4, 9]) ?_; ((repeat (first | refine Z9v rfl ?_ | refine Z9w ?_)); refine Z9u ?_))
  exact fin s2 _ [] [] n 0 _ (Zbr.nil 5 0) h9n (hvle _ _ _) rfl rfl
end Go.Abs

