/- Part T of a proof: merged by program. -/
import Derived.Test.YtgmefkhincnajaaPkQ
import Derived.Test.YtgmefkhincnajaaProg
import Derived.KernelRfl
set_option linter.unusedVariables false
set_option linter.unusedSimpArgs false
set_option maxHeartbeats 4000000
namespace Go.Abs
open Go
def Z1bi : List Z2b := [
 ⟨some 4,(.box 6),[.t 0],none⟩,⟨some 8,.mov,[.c (.slc 0 [] true)],none⟩,⟨some 9,.mov,[.c (.int .i64 0)],none⟩]
def Z1bj : List Z2b := [
 ⟨some 19,(.load true 6),[.t 4],none⟩,⟨some 20,(.call Zc2),[.t 19],none⟩,⟨some 10,.mov,[.t 20],none⟩]
def Z1bk : List Z2b := [
 ⟨some 21,.mov,[.t 10],none⟩,⟨some 22,.lens,[.t 21],none⟩,⟨some 23,(.bin .eql),[.t 22,.c (.int .i64 0)],none⟩,⟨some 24,.mov,[.t 23],none⟩,⟨some 25,.mov,[.t 2],some (24,false)⟩,⟨some 26,(.bin .lss),[.t 25,.c (.int .i64 0)],some (24,false)⟩,⟨some 27,.pick,[.t 24,.c (.bool true),.t 26],none⟩,⟨some 28,.mov,[.t 27],none⟩,⟨some 29,.mov,[.t 2],some (28,false)⟩,⟨some 30,(.bin .gtr),[.t 29,.c (.int .i64 4096)],some (28,false)⟩,⟨some 31,.pick,[.t 28,.c (.bool true),.t 30],none⟩,⟨some 32,.mov,[.t 31],none⟩,⟨some 33,.mov,[.t 1],some (32,false)⟩,⟨some 34,.lens,[.t 33],some (32,false)⟩,⟨some 35,.mov,[.t 10],some (32,false)⟩,⟨some 36,.lens,[.t 35],some (32,false)⟩,⟨some 37,(.bin .neq),[.t 34,.t 36],some (32,false)⟩,⟨some 38,.pick,[.t 32,.c (.bool true),.t 37],none⟩,⟨some 39,.mov,[.t 38],none⟩,⟨some 40,.mov,[.t 3],some (39,false)⟩,⟨some 41,.lens,[.t 40],some (39,false)⟩,⟨some 42,(.bin .gtr),[.t 41,.c (.int .i64 0)],some (39,false)⟩,⟨some 43,.mov,[.t 42],some (39,false)⟩,⟨some 44,.mov,[.t 3],some (43,true)⟩,⟨some 45,.lens,[.t 44],some (43,true)⟩,⟨some 46,.mov,[.t 10],some (43,true)⟩,⟨some 47,.lens,[.t 46],some (43,true)⟩,⟨some 48,(.bin .neq),[.t 45,.t 47],some (43,true)⟩,⟨some 49,.mov,[.t 48],some (43,true)⟩,⟨some 50,.mov,[.t 3],some (49,false)⟩,⟨some 51,(.iad 1),[.t 50,.c (.int .i64 0)],some (49,false)⟩,⟨some 52,(.load false 1),[.t 51],some (49,false)⟩,⟨some 53,.unot,[.t 52],some (49,false)⟩,⟨some 54,.pick,[.t 49,.c (.bool true),.t 53],some (43,true)⟩,⟨some 55,.pick,[.t 43,.t 54,.c (.bool false)],some (39,false)⟩,⟨some 56,.pick,[.t 39,.c (.bool true),.t 55],none⟩]
def Z1bl : List Z2b := [
 ⟨some 8,.mov,[.c (.slc 0 [] true)],none⟩,⟨some 9,.mov,[.c (.int .i64 1)],none⟩]
def Z1bm : List Z2b := [
 ⟨some 57,.mov,[.t 3],none⟩,⟨some 58,.lens,[.t 57],none⟩,⟨some 59,(.bin .eql),[.t 58,.c (.int .i64 0)],none⟩]
def Z1bn : List Z2b := [
 ⟨some 60,(.bsl 1),[.c (.bool true)],none⟩,⟨some 61,.mov,[.t 10],none⟩,⟨some 62,.lens,[.t 61],none⟩,⟨some 63,(.call Ze9),[.t 60,.t 62],none⟩,⟨some 3,.mov,[.t 63],none⟩]
def Z1bo : List Z2b := [
 ⟨some 64,.mov,[.t 10],none⟩,⟨some 65,.lens,[.t 64],none⟩,⟨some 66,(.mks 1 8 (.int .i64 0)),[.t 65,.t 65],none⟩,⟨some 11,.mov,[.t 66],none⟩]
def Z1bp : List Z2b := [
 ⟨some 67,.mov,[.t 10],none⟩,⟨some 68,.lens,[.t 67],none⟩,⟨some 69,(.mks 1 1 (.bool false)),[.t 68,.t 68],none⟩,⟨some 12,.mov,[.t 69],none⟩]
def Z1bq : List Z2b := [
 ⟨some 70,.mov,[.t 11],none⟩,⟨some 71,.mov,[.t 12],none⟩,⟨some 72,.mov,[.t 2],none⟩,⟨some 73,(.iad 1),[.t 70,.c (.int .i64 0)],none⟩,⟨none,(.store 1),[.t 73,.t 72],none⟩,⟨some 74,(.iad 1),[.t 71,.c (.int .i64 0)],none⟩,⟨none,(.store 1),[.t 74,.c (.bool true)],none⟩]
def Z1br : List Z2b := [
 ⟨some 75,.mov,[.t 10],none⟩,⟨some 76,.lens,[.t 75],none⟩,⟨some 77,.mov,[.c (.int .i64 0)],none⟩]
def Z1bs : List Z2b := [
 ⟨some 78,(.bin .lss),[.t 77,.t 76],none⟩]
def Z1bt : List Z2b := [
 ⟨some 79,.mov,[.t 77],none⟩,⟨some 13,.mov,[.t 79],none⟩]
def Z1bu : List Z2b := [
 ⟨some 80,.mov,[.t 3],none⟩,⟨some 81,.mov,[.t 13],none⟩,⟨some 82,(.iad 1),[.t 80,.t 81],none⟩,⟨some 83,(.load false 1),[.t 82],none⟩,⟨some 84,.unot,[.t 83],none⟩]
def Z1bv : List Z2b := [
 ⟨some 85,.mov,[.t 10],none⟩,⟨some 86,.mov,[.t 13],none⟩,⟨some 87,(.iad 8),[.t 85,.t 86],none⟩,⟨some 88,(.load true 8),[.t 87],none⟩,⟨some 89,.mov,[.t 1],none⟩,⟨some 90,.mov,[.t 13],none⟩,⟨some 91,(.iad 5),[.t 89,.t 90],none⟩,⟨some 92,(.load true 5),[.t 91],none⟩,⟨some 93,.mov,[.t 11],none⟩,⟨some 94,.mov,[.t 13],none⟩,⟨some 95,(.iad 1),[.t 93,.t 94],none⟩,⟨some 96,(.load false 1),[.t 95],none⟩,⟨some 97,.mov,[.t 12],none⟩,⟨some 98,.mov,[.t 13],none⟩,⟨some 99,(.iad 1),[.t 97,.t 98],none⟩,⟨some 100,(.load false 1),[.t 99],none⟩,⟨some 101,.unot,[.t 100],none⟩,⟨some 102,(.call Zea),[.t 88,.t 92,.t 96,.t 101],none⟩,⟨some 14,.mov,[.t 102],none⟩]
def Z1bw : List Z2b := [
 ⟨some 103,.mov,[.t 14],none⟩,⟨some 104,(.bin .neq),[.t 103,.c (.int .i64 0)],none⟩]
def Z1bx : List Z2b := [
 ⟨some 105,.mov,[.t 14],none⟩,⟨some 8,.mov,[.c (.slc 0 [] true)],none⟩,⟨some 9,.mov,[.t 105],none⟩]
def Z1by : List Z2b := [
 ⟨some 106,.mov,[.t 10],none⟩,⟨some 107,.mov,[.t 13],none⟩,⟨some 108,(.iad 8),[.t 106,.t 107],none⟩,⟨some 109,(.fad 1),[.t 108],none⟩,⟨some 110,(.load false 1),[.t 109],none⟩,⟨some 111,.lens,[.t 110],none⟩,⟨some 112,.mov,[.c (.int .i64 0)],none⟩]
def Z1bz : List Z2b := [
 ⟨some 113,(.bin .lss),[.t 112,.t 111],none⟩]
def Z1c0 : List Z2b := [
 ⟨some 114,.mov,[.t 112],none⟩,⟨some 115,(.iad 1),[.t 110,.t 112],none⟩,⟨some 116,(.load false 1),[.t 115],none⟩,⟨some 15,.mov,[.t 114],none⟩,⟨some 16,.mov,[.t 116],none⟩]
def Z1c1 : List Z2b := [
 ⟨some 117,.mov,[.t 11],none⟩,⟨some 118,.mov,[.t 16],none⟩,⟨some 119,.mov,[.t 10],none⟩,⟨some 120,.mov,[.t 13],none⟩,⟨some 121,(.iad 8),[.t 119,.t 120],none⟩,⟨some 122,(.load true 8),[.t 121],none⟩,⟨some 123,.mov,[.t 1],none⟩,⟨some 124,.mov,[.t 13],none⟩,⟨some 125,(.iad 5),[.t 123,.t 124],none⟩,⟨some 126,(.load true 5),[.t 125],none⟩,⟨some 127,.mov,[.t 15],none⟩,⟨some 128,(.call Ze7),[.t 122,.t 126,.t 127],none⟩,⟨some 129,(.iad 1),[.t 117,.t 118],none⟩,⟨none,(.store 1),[.t 129,.t 128],none⟩]
def Z1c2 : List Z2b := [
 ⟨some 130,.mov,[.t 12],none⟩,⟨some 131,.mov,[.t 16],none⟩,⟨some 132,.mov,[.t 10],none⟩,⟨some 133,.mov,[.t 13],none⟩,⟨some 134,(.iad 8),[.t 132,.t 133],none⟩,⟨some 135,(.fad 0),[.t 134],none⟩,⟨some 136,(.load false 1),[.t 135],none⟩,⟨some 137,(.bin .eql),[.t 136,.c (.int .i64 11)],none⟩,⟨some 138,.mov,[.t 137],none⟩,⟨some 139,.mov,[.t 15],some (138,true)⟩,⟨some 140,(.bin .eql),[.t 139,.c (.int .i64 0)],some (138,true)⟩,⟨some 141,.pick,[.t 138,.t 140,.c (.bool false)],none⟩,⟨some 142,(.iad 1),[.t 130,.t 131],none⟩,⟨none,(.store 1),[.t 142,.t 141],none⟩]
def Z1c3 : List Z2b := [
 ⟨some 143,(.bin .add),[.t 112,.c (.int .i64 1)],none⟩,⟨some 112,.mov,[.t 143],none⟩]
def Z1c4 : Z2c := (.seq (.region Z1bz [1,2,3,10,11,12,13,76,77,110,111,112,113]) (.seq (.cond (.t 113) .skip (.exit 2)) (.seq (.block 3 (.seq (.region Z1c0 [1,2,3,10,11,12,13,15,16,76,77,110,111,112]) (.seq (.region Z1c1 [1,2,3,10,11,12,13,15,16,76,77,110,111,112]) (.region Z1c2 [1,2,3,10,11,12,13,76,77,110,111,112])))) (.region Z1c3 [1,2,3,10,11,12,13,76,77,110,111,112]))))
def Z1c5 : List Z2b := [
 ⟨some 144,(.bin .add),[.t 77,.c (.int .i64 1)],none⟩,⟨some 77,.mov,[.t 144],none⟩]
def Z1c6 : Z2c := (.seq (.region Z1bs [1,2,3,10,11,12,76,77,78]) (.seq (.cond (.t 78) .skip (.exit 0)) (.seq (.block 1 (.seq (.region Z1bt [1,2,3,10,11,12,13,76,77]) (.seq (.seq (.region Z1bu [1,2,3,10,11,12,13,76,77,84]) (.cond (.t 84) (.exit 1) .skip)) (.seq (.seq (.region Z1bv [1,2,3,10,11,12,13,14,76,77]) (.seq (.region Z1bw [1,2,3,10,11,12,13,14,76,77,104]) (.cond (.t 104) (.seq (.region Z1bx [8,9]) .ret) .skip))) (.seq (.region Z1by [1,2,3,10,11,12,13,76,77,110,111,112]) (.block 2 (.loop Z1c4))))))) (.region Z1c5 [1,2,3,10,11,12,76,77]))))
def Z1c7 : List Z2b := [
 ⟨some 145,.mov,[.t 10],none⟩,⟨some 146,.mov,[.t 1],none⟩,⟨some 147,.mov,[.t 3],none⟩,⟨some 148,.mov,[.t 10],none⟩,⟨some 149,.lens,[.t 148],none⟩,⟨some 150,(.mks 1 8 (.int .i64 0)),[.t 149,.t 149],none⟩,⟨some 151,.mov,[.t 10],none⟩,⟨some 152,.lens,[.t 151],none⟩,⟨some 153,(.mks 1 8 (.int .i64 0)),[.t 152,.t 152],none⟩,⟨some 154,(.bld [(.slc 0 [] true),(.slc 0 [] true),(.slc 0 [] true),(.slc 0 [] true),(.slc 0 [] true)] [(0,1),(1,1),(2,1),(3,1),(4,1)]),[.t 145,.t 146,.t 147,.t 150,.t 153],none⟩,⟨some 155,(.box 5),[.t 154],none⟩,⟨some 17,.mov,[.t 155],none⟩]
def Z1c8 : List Z2b := [
 ⟨some 156,.mov,[.t 10],none⟩,⟨some 157,.mov,[.t 3],none⟩,⟨some 158,(.call Zeb),[.t 156,.t 157],none⟩,⟨some 159,.unot,[.t 158],none⟩]
def Z1c9 : List Z2b := [
 ⟨some 8,.mov,[.c (.slc 0 [] true)],none⟩,⟨some 9,.mov,[.c (.int .i64 1)],none⟩]
def Z1ca : List Z2b := [
 ⟨some 160,.mov,[.t 2],none⟩,⟨some 161,(.mks 5 72 (.agg [(.bool false),(.int .i64 0),(.int .i64 0),(.slc 0 [] true),(.slc 0 [] true)])),[.c (.int .i64 0),.t 160],none⟩,⟨some 18,.mov,[.t 161],none⟩]
def Z1cb : List Z2b := [
 ⟨some 162,.mov,[.t 2],none⟩,⟨some 163,.mov,[.c (.int .i64 0)],none⟩]
def Z1cc : List Z2b := [
 ⟨some 164,(.bin .lss),[.t 163,.t 162],none⟩]
def Z1cd : List Z2b := [
 ⟨some 165,.mov,[.t 18],none⟩,⟨some 166,.mov,[.t 17],none⟩,⟨some 167,(.call Zec),[.t 166,.c (.int .i64 0)],none⟩,⟨some 168,(.bsl 5),[.t 167],none⟩,⟨some 169,(.app 5 72),[.t 165,.t 168],none⟩,⟨some 18,.mov,[.t 169],none⟩]
def Z1ce : List Z2b := [
 ⟨some 170,(.bin .add),[.t 163,.c (.int .i64 1)],none⟩,⟨some 163,.mov,[.t 170],none⟩]
def Z1cf : Z2c := (.seq (.region Z1cc [17,18,162,163,164]) (.seq (.cond (.t 164) .skip (.exit 4)) (.seq (.block 5 (.region Z1cd [17,18,162,163])) (.region Z1ce [17,18,162,163]))))
def Z1cg : List Z2b := [
 ⟨some 171,.mov,[.t 18],none⟩,⟨some 8,.mov,[.t 171],none⟩,⟨some 9,.mov,[.c (.int .i64 0)],none⟩]
def Z1ch : Z2z := ⟨172,(.seq (.region Z1bi [1,2,3,4]) (.seq (.region Z1bj [1,2,3,10]) (.seq (.seq (.region Z1bk [1,2,3,10,56]) (.cond (.t 56) (.seq (.region Z1bl [8,9]) .ret) .skip)) (.seq (.seq (.region Z1bm [1,2,3,10,59]) (.cond (.t 59) (.region Z1bn [1,2,3,10]) .skip)) (.seq (.region Z1bo [1,2,3,10,11]) (.seq (.region Z1bp [1,2,3,10,11,12]) (.seq (.region Z1bq [1,2,3,10,11,12]) (.seq (.seq (.region Z1br [1,2,3,10,11,12,76,77]) (.block 0 (.loop Z1c6))) (.seq (.region Z1c7 [2,3,10,17]) (.seq (.seq (.region Z1c8 [2,17,159]) (.cond (.t 159) (.seq (.region Z1c9 [8,9]) .ret) .skip)) (.seq (.region Z1ca [2,17,18]) (.seq (.seq (.region Z1cb [17,18,162,163]) (.block 4 (.loop Z1cf))) (.seq (.region Z1cg [8,9]) .ret))))))))))))),[.t 8,.t 9]⟩
def Z1ci : List Z2b := [
 ⟨some 4,(.box 6),[.t 0],none⟩,⟨some 8,.mov,[.c (.slc 0 [] true)],none⟩,⟨some 9,.mov,[.c (.int .i64 0)],none⟩]
def Z1cj : List Z2b := [
 ⟨some 22,(.load true 6),[.t 4],none⟩,⟨some 23,(.call Zc1),[.t 22],none⟩,⟨some 10,.mov,[.t 23],none⟩]
def Z1ck : List Z2b := [
 ⟨some 24,(.load true 6),[.t 4],none⟩,⟨some 25,(.call Zch),[.t 24],none⟩,⟨some 26,(.bin .neq),[.t 25,.c (.int .i64 0)],none⟩,⟨some 27,.mov,[.t 26],none⟩,⟨some 28,.mov,[.t 2],some (27,false)⟩,⟨some 29,(.bin .lss),[.t 28,.c (.int .i64 0)],some (27,false)⟩,⟨some 30,.pick,[.t 27,.c (.bool true),.t 29],none⟩,⟨some 31,.mov,[.t 30],none⟩,⟨some 32,.mov,[.t 2],some (31,false)⟩,⟨some 33,(.bin .gtr),[.t 32,.c (.int .i64 4096)],some (31,false)⟩,⟨some 34,.pick,[.t 31,.c (.bool true),.t 33],none⟩,⟨some 35,.mov,[.t 34],none⟩,⟨some 36,.mov,[.t 1],some (35,false)⟩,⟨some 37,.lens,[.t 36],some (35,false)⟩,⟨some 38,.mov,[.t 10],some (35,false)⟩,⟨some 39,.lens,[.t 38],some (35,false)⟩,⟨some 40,(.bin .neq),[.t 37,.t 39],some (35,false)⟩,⟨some 41,.pick,[.t 35,.c (.bool true),.t 40],none⟩,⟨some 42,.mov,[.t 41],none⟩,⟨some 43,.mov,[.t 3],some (42,false)⟩,⟨some 44,.lens,[.t 43],some (42,false)⟩,⟨some 45,(.bin .gtr),[.t 44,.c (.int .i64 0)],some (42,false)⟩,⟨some 46,.mov,[.t 45],some (42,false)⟩,⟨some 47,.mov,[.t 3],some (46,true)⟩,⟨some 48,.lens,[.t 47],some (46,true)⟩,⟨some 49,.mov,[.t 10],some (46,true)⟩,⟨some 50,.lens,[.t 49],some (46,true)⟩,⟨some 51,(.bin .neq),[.t 48,.t 50],some (46,true)⟩,⟨some 52,.pick,[.t 46,.t 51,.c (.bool false)],some (42,false)⟩,⟨some 53,.pick,[.t 42,.c (.bool true),.t 52],none⟩]
def Z1cl : List Z2b := [
 ⟨some 8,.mov,[.c (.slc 0 [] true)],none⟩,⟨some 9,.mov,[.c (.int .i64 1)],none⟩]
def Z1cm : List Z2b := [
 ⟨some 54,.mov,[.t 10],none⟩,⟨some 55,.lens,[.t 54],none⟩,⟨some 56,(.mks 1 1 (.bool false)),[.t 55,.t 55],none⟩,⟨some 11,.mov,[.t 56],none⟩]
def Z1cn : List Z2b := [
 ⟨some 12,.mov,[.c (.int .i64 0)],none⟩]
def Z1co : List Z2b := [
 ⟨some 57,.mov,[.t 12],none⟩,⟨some 58,.mov,[.t 10],none⟩,⟨some 59,.lens,[.t 58],none⟩,⟨some 60,(.bin .lss),[.t 57,.t 59],none⟩]
def Z1cp : List Z2b := [
 ⟨some 63,.mov,[.t 11],none⟩,⟨some 64,.mov,[.t 12],none⟩,⟨some 65,.mov,[.t 3],none⟩,⟨some 66,.lens,[.t 65],none⟩,⟨some 67,(.bin .eql),[.t 66,.c (.int .i64 0)],none⟩,⟨some 68,.mov,[.t 67],none⟩,⟨some 69,.mov,[.t 3],some (68,false)⟩,⟨some 70,.mov,[.t 12],some (68,false)⟩,⟨some 71,(.iad 1),[.t 69,.t 70],some (68,false)⟩,⟨some 72,(.load false 1),[.t 71],some (68,false)⟩,⟨some 73,.pick,[.t 68,.c (.bool true),.t 72],none⟩,⟨some 74,(.iad 1),[.t 63,.t 64],none⟩,⟨none,(.store 1),[.t 74,.t 73],none⟩]
def Z1cq : List Z2b := [
 ⟨some 61,.mov,[.t 12],none⟩,⟨some 62,(.bin .add),[.t 61,.c (.int .i64 1)],none⟩,⟨some 12,.mov,[.t 62],none⟩]
def Z1cr : Z2c := (.seq (.seq (.region Z1co [1,2,3,10,11,12,60]) (.cond (.t 60) .skip (.exit 0))) (.seq (.block 1 (.region Z1cp [1,2,3,10,11,12])) (.region Z1cq [1,2,3,10,11,12])))
def Z1cs : List Z2b := [
 ⟨some 75,.mov,[.t 11],none⟩,⟨some 76,(.iad 1),[.t 75,.c (.int .i64 0)],none⟩,⟨some 77,(.load false 1),[.t 76],none⟩,⟨some 78,.unot,[.t 77],none⟩]
def Z1ct : List Z2b := [
 ⟨some 8,.mov,[.c (.slc 0 [] true)],none⟩,⟨some 9,.mov,[.c (.int .i64 1)],none⟩]
def Z1cu : List Z2b := [
 ⟨some 79,.mov,[.t 10],none⟩,⟨some 80,.lens,[.t 79],none⟩,⟨some 81,(.mks 1 8 (.int .i64 0)),[.t 80,.t 80],none⟩,⟨some 13,.mov,[.t 81],none⟩]
def Z1cv : List Z2b := [
 ⟨some 82,.mov,[.t 13],none⟩,⟨some 83,.mov,[.t 2],none⟩,⟨some 84,(.iad 1),[.t 82,.c (.int .i64 0)],none⟩,⟨none,(.store 1),[.t 84,.t 83],none⟩]
def Z1cw : List Z2b := [
 ⟨some 14,.mov,[.c (.int .i64 0)],none⟩]
def Z1cx : List Z2b := [
 ⟨some 85,.mov,[.t 14],none⟩,⟨some 86,.mov,[.t 10],none⟩,⟨some 87,.lens,[.t 86],none⟩,⟨some 88,(.bin .lss),[.t 85,.t 87],none⟩]
def Z1cy : List Z2b := [
 ⟨some 91,.mov,[.t 11],none⟩,⟨some 92,.mov,[.t 14],none⟩,⟨some 93,(.iad 1),[.t 91,.t 92],none⟩,⟨some 94,(.load false 1),[.t 93],none⟩,⟨some 95,.unot,[.t 94],none⟩]
def Z1cz : List Z2b := [
 ⟨some 96,.mov,[.t 10],none⟩,⟨some 97,.mov,[.t 14],none⟩,⟨some 98,(.iad 9),[.t 96,.t 97],none⟩,⟨some 99,(.fad 7),[.t 98],none⟩,⟨some 100,(.load false 1),[.t 99],none⟩,⟨some 15,.mov,[.t 100],none⟩]
def Z1d0 : List Z2b := [
 ⟨some 101,.mov,[.t 15],none⟩,⟨some 102,(.bin .geq),[.t 101,.c (.int .i64 0)],none⟩,⟨some 103,.mov,[.t 102],none⟩,⟨some 104,.mov,[.t 10],some (103,true)⟩,⟨some 105,.mov,[.t 15],some (103,true)⟩,⟨some 106,(.iad 9),[.t 104,.t 105],some (103,true)⟩,⟨some 107,(.fad 0),[.t 106],some (103,true)⟩,⟨some 108,(.fad 0),[.t 107],some (103,true)⟩,⟨some 109,(.load false 1),[.t 108],some (103,true)⟩,⟨some 110,(.bin .eql),[.t 109,.c (.int .i64 11)],some (103,true)⟩,⟨some 111,.pick,[.t 103,.t 110,.c (.bool false)],none⟩,⟨some 112,.mov,[.t 111],none⟩,⟨some 113,.mov,[.t 10],some (112,true)⟩,⟨some 114,.mov,[.t 15],some (112,true)⟩,⟨some 115,(.iad 9),[.t 113,.t 114],some (112,true)⟩,⟨some 116,(.fad 6),[.t 115],some (112,true)⟩,⟨some 117,(.load false 1),[.t 116],some (112,true)⟩,⟨some 118,(.iad 1),[.t 117,.c (.int .i64 0)],some (112,true)⟩,⟨some 119,(.load false 1),[.t 118],some (112,true)⟩,⟨some 120,.mov,[.t 14],some (112,true)⟩,⟨some 121,(.bin .eql),[.t 119,.t 120],some (112,true)⟩,⟨some 122,.pick,[.t 112,.t 121,.c (.bool false)],none⟩,⟨some 16,.mov,[.t 122],none⟩]
def Z1d1 : List Z2b := [
 ⟨some 123,.mov,[.t 10],none⟩,⟨some 124,.mov,[.t 14],none⟩,⟨some 125,(.iad 9),[.t 123,.t 124],none⟩,⟨some 126,(.fad 0),[.t 125],none⟩,⟨some 127,(.load true 6),[.t 126],none⟩,⟨some 128,.mov,[.t 1],none⟩,⟨some 129,.mov,[.t 14],none⟩,⟨some 130,(.iad 5),[.t 128,.t 129],none⟩,⟨some 131,(.load true 5),[.t 130],none⟩,⟨some 132,.mov,[.t 13],none⟩,⟨some 133,.mov,[.t 14],none⟩,⟨some 134,(.iad 1),[.t 132,.t 133],none⟩,⟨some 135,(.load false 1),[.t 134],none⟩,⟨some 136,.mov,[.t 14],none⟩,⟨some 137,(.bin .eql),[.t 136,.c (.int .i64 0)],none⟩,⟨some 138,.mov,[.t 16],none⟩,⟨some 139,(.call Zef),[.t 127,.t 131,.t 135,.t 137,.t 138],none⟩,⟨some 17,.mov,[.t 139],none⟩]
def Z1d2 : List Z2b := [
 ⟨some 140,.mov,[.t 17],none⟩,⟨some 141,(.bin .neq),[.t 140,.c (.int .i64 0)],none⟩]
def Z1d3 : List Z2b := [
 ⟨some 142,.mov,[.t 17],none⟩,⟨some 8,.mov,[.c (.slc 0 [] true)],none⟩,⟨some 9,.mov,[.t 142],none⟩]
def Z1d4 : List Z2b := [
 ⟨some 18,.mov,[.c (.int .i64 0)],none⟩]
def Z1d5 : List Z2b := [
 ⟨some 143,.mov,[.t 18],none⟩,⟨some 144,.mov,[.t 10],none⟩,⟨some 145,.mov,[.t 14],none⟩,⟨some 146,(.iad 9),[.t 144,.t 145],none⟩,⟨some 147,(.fad 6),[.t 146],none⟩,⟨some 148,(.load false 1),[.t 147],none⟩,⟨some 149,.lens,[.t 148],none⟩,⟨some 150,(.bin .lss),[.t 143,.t 149],none⟩]
def Z1d6 : List Z2b := [
 ⟨some 153,.mov,[.t 13],none⟩,⟨some 154,.mov,[.t 10],none⟩,⟨some 155,.mov,[.t 14],none⟩,⟨some 156,(.iad 9),[.t 154,.t 155],none⟩,⟨some 157,(.fad 6),[.t 156],none⟩,⟨some 158,(.load false 1),[.t 157],none⟩,⟨some 159,.mov,[.t 18],none⟩,⟨some 160,(.iad 1),[.t 158,.t 159],none⟩,⟨some 161,(.load false 1),[.t 160],none⟩,⟨some 162,.mov,[.t 10],none⟩,⟨some 163,.mov,[.t 14],none⟩,⟨some 164,(.iad 9),[.t 162,.t 163],none⟩,⟨some 165,(.fad 0),[.t 164],none⟩,⟨some 166,(.load true 6),[.t 165],none⟩,⟨some 167,.mov,[.t 1],none⟩,⟨some 168,.mov,[.t 14],none⟩,⟨some 169,(.iad 5),[.t 167,.t 168],none⟩,⟨some 170,(.load true 5),[.t 169],none⟩,⟨some 171,.mov,[.t 18],none⟩,⟨some 172,(.callp Ze8),[.t 166,.t 170,.t 171],none⟩,⟨some 173,(.iad 1),[.t 153,.t 161],none⟩,⟨none,(.store 1),[.t 173,.t 172],none⟩]
def Z1d7 : List Z2b := [
 ⟨some 151,.mov,[.t 18],none⟩,⟨some 152,(.bin .add),[.t 151,.c (.int .i64 1)],none⟩,⟨some 18,.mov,[.t 152],none⟩]
def Z1d8 : Z2c := (.seq (.seq (.region Z1d5 [1,2,10,11,13,14,18,150]) (.cond (.t 150) .skip (.exit 4))) (.seq (.block 5 (.region Z1d6 [1,2,10,11,13,14,18])) (.region Z1d7 [1,2,10,11,13,14,18])))
def Z1d9 : List Z2b := [
 ⟨some 89,.mov,[.t 14],none⟩,⟨some 90,(.bin .add),[.t 89,.c (.int .i64 1)],none⟩,⟨some 14,.mov,[.t 90],none⟩]
def Z1da : Z2c := (.seq (.seq (.region Z1cx [1,2,10,11,13,14,88]) (.cond (.t 88) .skip (.exit 2))) (.seq (.block 3 (.seq (.seq (.region Z1cy [1,2,10,11,13,14,95]) (.cond (.t 95) (.exit 3) .skip)) (.seq (.region Z1cz [1,2,10,11,13,14,15]) (.seq (.region Z1d0 [1,2,10,11,13,14,16]) (.seq (.region Z1d1 [1,2,10,11,13,14,17]) (.seq (.seq (.region Z1d2 [1,2,10,11,13,14,17,141]) (.cond (.t 141) (.seq (.region Z1d3 [8,9]) .ret) .skip)) (.seq (.region Z1d4 [1,2,10,11,13,14,18]) (.block 4 (.loop Z1d8))))))))) (.region Z1d9 [1,2,10,11,13,14])))
def Z1db : List Z2b := [
 ⟨some 174,.mov,[.t 10],none⟩,⟨some 175,.lens,[.t 174],none⟩,⟨some 176,(.mks 1 8 (.int .i64 0)),[.t 175,.t 175],none⟩,⟨some 177,.mov,[.t 10],none⟩,⟨some 178,.lens,[.t 177],none⟩,⟨some 179,(.mks 1 8 (.int .i64 0)),[.t 178,.t 178],none⟩,⟨some 180,(.bld [(.slc 0 [] true),(.slc 0 [] true)] [(0,1),(1,1)]),[.t 176,.t 179],none⟩,⟨some 181,(.box 2),[.t 180],none⟩,⟨some 19,.mov,[.t 181],none⟩]
def Z1dc : List Z2b := [
 ⟨some 20,.mov,[.c (.slc 0 [] true)],none⟩]
def Z1dd : List Z2b := [
 ⟨some 21,.mov,[.c (.int .i64 0)],none⟩]
def Z1de : List Z2b := [
 ⟨some 182,.mov,[.t 21],none⟩,⟨some 183,.mov,[.t 2],none⟩,⟨some 184,(.bin .lss),[.t 182,.t 183],none⟩]
def Z1df : List Z2b := [
 ⟨some 187,.mov,[.t 20],none⟩,⟨some 188,.mov,[.t 10],none⟩,⟨some 189,.mov,[.t 1],none⟩,⟨some 190,.mov,[.t 11],none⟩,⟨some 191,.mov,[.t 19],none⟩,⟨some 192,(.call Zeg),[.t 188,.t 189,.t 190,.c (.int .i64 0),.t 191],none⟩,⟨some 193,(.bsl 5),[.t 192],none⟩,⟨some 194,(.app 5 72),[.t 187,.t 193],none⟩,⟨some 20,.mov,[.t 194],none⟩]
def Z1dg : List Z2b := [
 ⟨some 185,.mov,[.t 21],none⟩,⟨some 186,(.bin .add),[.t 185,.c (.int .i64 1)],none⟩,⟨some 21,.mov,[.t 186],none⟩]
def Z1dh : Z2c := (.seq (.seq (.region Z1de [1,2,10,11,19,20,21,184]) (.cond (.t 184) .skip (.exit 6))) (.seq (.block 7 (.region Z1df [1,2,10,11,19,20,21])) (.region Z1dg [1,2,10,11,19,20,21])))
def Z1di : List Z2b := [
 ⟨some 195,.mov,[.t 20],none⟩,⟨some 8,.mov,[.t 195],none⟩,⟨some 9,.mov,[.c (.int .i64 0)],none⟩]
def Z1dj : Z2z := ⟨196,(.seq (.region Z1ci [1,2,3,4]) (.seq (.region Z1cj [1,2,3,4,10]) (.seq (.seq (.region Z1ck [1,2,3,10,53]) (.cond (.t 53) (.seq (.region Z1cl [8,9]) .ret) .skip)) (.seq (.region Z1cm [1,2,3,10,11]) (.seq (.seq (.region Z1cn [1,2,3,10,11,12]) (.block 0 (.loop Z1cr))) (.seq (.seq (.region Z1cs [1,2,10,11,78]) (.cond (.t 78) (.seq (.region Z1ct [8,9]) .ret) .skip)) (.seq (.region Z1cu [1,2,10,11,13]) (.seq (.region Z1cv [1,2,10,11,13]) (.seq (.seq (.region Z1cw [1,2,10,11,13,14]) (.block 2 (.loop Z1da))) (.seq (.region Z1db [1,2,10,11,19]) (.seq (.region Z1dc [1,2,10,11,19,20]) (.seq (.seq (.region Z1dd [1,2,10,11,19,20,21]) (.block 6 (.loop Z1dh))) (.seq (.region Z1di [8,9]) .ret))))))))))))),[.t 8,.t 9]⟩
def Z1dk : List Z2b := [
 ⟨some 5,(.box 6),[.t 0],none⟩,⟨some 6,(.box 5),[.t 1],none⟩,⟨some 10,.mov,[.c (.int .i64 0)],none⟩]
def Z1dl : List Z2b := [
 ⟨some 20,(.load true 5),[.t 6],none⟩,⟨some 21,(.call Zfa),[.t 20],none⟩,⟨some 11,.mov,[.t 21],none⟩]
def Z1dm : List Z2b := [
 ⟨some 12,.mov,[.c (.int .i64 0)],none⟩]
def Z1dn : List Z2b := [
 ⟨some 13,.mov,[.c (.int .i64 0)],none⟩]
def Z1do : List Z2b := [
 ⟨some 14,.mov,[.c (.int .i64 0)],none⟩]
def Z1dp : List Z2b := [
 ⟨some 15,.mov,[.c (.int .i64 0)],none⟩]
def Z1dq : List Z2b := [
 ⟨some 23,(.fad 0),[.t 5],none⟩,⟨some 24,(.load false 1),[.t 23],none⟩,⟨some 25,(.call Zdk),[.t 24],none⟩,⟨some 22,.mov,[.t 25],none⟩]
def Z1dr : List Z2b := [
 ⟨some 26,.mov,[.t 11],none⟩,⟨some 14,.mov,[.t 26],none⟩]
def Z1ds : List Z2b := [
 ⟨some 28,(.fad 0),[.t 5],none⟩,⟨some 29,(.load false 1),[.t 28],none⟩,⟨some 30,(.bin .eql),[.t 29,.c (.int .i64 10)],none⟩,⟨some 31,.mov,[.t 30],none⟩,⟨some 32,(.fad 0),[.t 5],some (31,false)⟩,⟨some 33,(.load false 1),[.t 32],some (31,false)⟩,⟨some 34,(.bin .eql),[.t 33,.c (.int .i64 11)],some (31,false)⟩,⟨some 35,.pick,[.t 31,.c (.bool true),.t 34],none⟩,⟨some 27,.mov,[.t 35],none⟩]
def Z1dt : List Z2b := [
 ⟨some 36,.mov,[.t 11],none⟩,⟨some 15,.mov,[.t 36],none⟩]
def Z1du : List Z2b := [
 ⟨some 38,(.fad 0),[.t 5],none⟩,⟨some 39,(.load false 1),[.t 38],none⟩,⟨some 40,(.bin .neq),[.t 39,.c (.int .i64 12)],none⟩,⟨some 37,.mov,[.t 40],none⟩]
def Z1dv : List Z2b := [
 ⟨some 41,.mov,[.t 11],none⟩,⟨some 12,.mov,[.t 41],none⟩]
def Z1dw : List Z2b := [
 ⟨some 42,(.fad 0),[.t 5],none⟩,⟨some 43,(.load false 1),[.t 42],none⟩,⟨some 44,(.bin .eql),[.t 43,.c (.int .i64 9)],none⟩]
def Z1dx : List Z2b := [
 ⟨some 45,.mov,[.t 11],none⟩,⟨some 13,.mov,[.t 45],none⟩]
def Z1dy : List Z2b := [
 ⟨some 46,(.fad 0),[.t 6],none⟩,⟨some 47,(.load false 1),[.t 46],none⟩,⟨some 48,.lens,[.t 47],none⟩,⟨some 49,.mov,[.t 2],none⟩,⟨some 50,(.bin .neq),[.t 48,.t 49],none⟩,⟨some 51,.mov,[.t 50],none⟩,⟨some 52,(.fad 1),[.t 6],some (51,false)⟩,⟨some 53,(.load false 1),[.t 52],some (51,false)⟩,⟨some 54,.lens,[.t 53],some (51,false)⟩,⟨some 55,.mov,[.t 12],some (51,false)⟩,⟨some 56,(.bin .neq),[.t 54,.t 55],some (51,false)⟩,⟨some 57,.pick,[.t 51,.c (.bool true),.t 56],none⟩,⟨some 58,.mov,[.t 57],none⟩,⟨some 59,(.fad 2),[.t 6],some (58,false)⟩,⟨some 60,(.load false 1),[.t 59],some (58,false)⟩,⟨some 61,.lens,[.t 60],some (58,false)⟩,⟨some 62,.mov,[.t 13],some (58,false)⟩,⟨some 63,(.bin .neq),[.t 61,.t 62],some (58,false)⟩,⟨some 64,.pick,[.t 58,.c (.bool true),.t 63],none⟩,⟨some 65,.mov,[.t 64],none⟩,⟨some 66,(.fad 3),[.t 6],some (65,false)⟩,⟨some 67,(.load false 1),[.t 66],some (65,false)⟩,⟨some 68,.lens,[.t 67],some (65,false)⟩,⟨some 69,.mov,[.t 14],some (65,false)⟩,⟨some 70,(.bin .neq),[.t 68,.t 69],some (65,false)⟩,⟨some 71,.pick,[.t 65,.c (.bool true),.t 70],none⟩,⟨some 72,.mov,[.t 71],none⟩,⟨some 73,(.fad 4),[.t 6],some (72,false)⟩,⟨some 74,(.load false 1),[.t 73],some (72,false)⟩,⟨some 75,.lens,[.t 74],some (72,false)⟩,⟨some 76,.mov,[.t 15],some (72,false)⟩,⟨some 77,(.bin .neq),[.t 75,.t 76],some (72,false)⟩,⟨some 78,.pick,[.t 72,.c (.bool true),.t 77],none⟩]
def Z1dz : List Z2b := [
 ⟨some 10,.mov,[.c (.int .i64 2)],none⟩]
def Z1e0 : List Z2b := [
 ⟨some 16,.mov,[.c (.int .i64 0)],none⟩]
def Z1e1 : List Z2b := [
 ⟨some 79,.mov,[.t 16],none⟩,⟨some 80,.mov,[.t 12],none⟩,⟨some 81,(.bin .lss),[.t 79,.t 80],none⟩]
def Z1e2 : List Z2b := [
 ⟨some 17,.mov,[.c (.int .i64 0)],none⟩]
def Z1e3 : List Z2b := [
 ⟨some 84,.mov,[.t 13],none⟩,⟨some 85,(.bin .gtr),[.t 84,.c (.int .i64 0)],none⟩]
def Z1e4 : List Z2b := [
 ⟨some 86,(.fad 2),[.t 6],none⟩,⟨some 87,(.load false 1),[.t 86],none⟩,⟨some 88,.mov,[.t 16],none⟩,⟨some 89,(.iad 1),[.t 87,.t 88],none⟩,⟨some 90,(.load false 1),[.t 89],none⟩,⟨some 17,.mov,[.t 90],none⟩]
def Z1e5 : List Z2b := [
 ⟨some 91,(.load true 6),[.t 5],none⟩,⟨some 92,(.fad 1),[.t 6],none⟩,⟨some 93,(.load false 1),[.t 92],none⟩,⟨some 94,.mov,[.t 16],none⟩,⟨some 95,(.iad 1),[.t 93,.t 94],none⟩,⟨some 96,(.load false 1),[.t 95],none⟩,⟨some 97,.mov,[.t 17],none⟩,⟨some 98,(.call Zdy),[.t 91,.t 96,.t 97],none⟩,⟨some 99,.unot,[.t 98],none⟩]
def Z1e6 : List Z2b := [
 ⟨some 10,.mov,[.c (.int .i64 2)],none⟩]
def Z1e7 : List Z2b := [
 ⟨some 82,.mov,[.t 16],none⟩,⟨some 83,(.bin .add),[.t 82,.c (.int .i64 1)],none⟩,⟨some 16,.mov,[.t 83],none⟩]
def Z1e8 : Z2c := (.seq (.seq (.region Z1e1 [2,3,4,5,6,11,12,13,14,15,16,81]) (.cond (.t 81) .skip (.exit 1))) (.seq (.block 2 (.seq (.region Z1e2 [2,3,4,5,6,11,12,13,14,15,16,17]) (.seq (.seq (.region Z1e3 [2,3,4,5,6,11,12,13,14,15,16,17,85]) (.cond (.t 85) (.region Z1e4 [2,3,4,5,6,11,12,13,14,15,16,17]) .skip)) (.seq (.region Z1e5 [2,3,4,5,6,11,12,13,14,15,16,99]) (.cond (.t 99) (.seq (.region Z1e6 [10]) .ret) .skip))))) (.region Z1e7 [2,3,4,5,6,11,12,13,14,15,16])))
def Z1e9 : List Z2b := [
 ⟨some 18,.mov,[.c (.int .i64 0)],none⟩]
def Z1ea : List Z2b := [
 ⟨some 100,.mov,[.t 18],none⟩,⟨some 101,.mov,[.t 14],none⟩,⟨some 102,(.bin .lss),[.t 100,.t 101],none⟩]
def Z1eb : List Z2b := [
 ⟨some 105,(.load true 6),[.t 5],none⟩,⟨some 106,(.fad 3),[.t 6],none⟩,⟨some 107,(.load false 1),[.t 106],none⟩,⟨some 108,.mov,[.t 18],none⟩,⟨some 109,(.iad 1),[.t 107,.t 108],none⟩,⟨some 110,(.load false 1),[.t 109],none⟩,⟨some 111,(.bld [(.bool false),(.int .i64 0),(.int .i64 0),(.slc 0 [] true),(.slc 0 [] true)] [(3,1)]),[.t 110],none⟩,⟨some 112,(.call Zco),[.t 105,.t 111],none⟩,⟨some 113,(.bin .neq),[.t 112,.c (.int .i64 0)],none⟩]
def Z1ec : List Z2b := [
 ⟨some 10,.mov,[.c (.int .i64 2)],none⟩]
def Z1ed : List Z2b := [
 ⟨some 103,.mov,[.t 18],none⟩,⟨some 104,(.bin .add),[.t 103,.c (.int .i64 1)],none⟩,⟨some 18,.mov,[.t 104],none⟩]
def Z1ee : Z2c := (.seq (.seq (.region Z1ea [2,3,4,5,6,11,14,15,18,102]) (.cond (.t 102) .skip (.exit 3))) (.seq (.block 4 (.seq (.region Z1eb [2,3,4,5,6,11,14,15,18,113]) (.cond (.t 113) (.seq (.region Z1ec [10]) .ret) .skip))) (.region Z1ed [2,3,4,5,6,11,14,15,18])))
def Z1ef : List Z2b := [
 ⟨some 19,.mov,[.c (.int .i64 0)],none⟩]
def Z1eg : List Z2b := [
 ⟨some 114,.mov,[.t 19],none⟩,⟨some 115,.mov,[.t 15],none⟩,⟨some 116,(.bin .lss),[.t 114,.t 115],none⟩]
def Z1eh : List Z2b := [
 ⟨some 119,(.fad 4),[.t 6],none⟩,⟨some 120,(.load false 1),[.t 119],none⟩,⟨some 121,.mov,[.t 19],none⟩,⟨some 122,(.iad 1),[.t 120,.t 121],none⟩,⟨some 123,(.load false 1),[.t 122],none⟩,⟨some 124,(.bin .lss),[.t 123,.c (.int .i64 0)],none⟩]
def Z1ei : List Z2b := [
 ⟨some 10,.mov,[.c (.int .i64 2)],none⟩]
def Z1ej : List Z2b := [
 ⟨some 117,.mov,[.t 19],none⟩,⟨some 118,(.bin .add),[.t 117,.c (.int .i64 1)],none⟩,⟨some 19,.mov,[.t 118],none⟩]
def Z1ek : Z2c := (.seq (.seq (.region Z1eg [2,3,4,5,6,11,15,19,116]) (.cond (.t 116) .skip (.exit 5))) (.seq (.block 6 (.seq (.region Z1eh [2,3,4,5,6,11,15,19,124]) (.cond (.t 124) (.seq (.region Z1ei [10]) .ret) .skip))) (.region Z1ej [2,3,4,5,6,11,15,19])))
def Z1el : List Z2b := [
 ⟨some 125,.mov,[.t 3],none⟩,⟨some 126,.mov,[.t 125],none⟩,⟨some 127,.mov,[.t 4],some (126,false)⟩,⟨some 128,.pick,[.t 126,.c (.bool true),.t 127],none⟩,⟨some 129,.mov,[.t 128],none⟩,⟨some 130,.mov,[.t 11],some (129,true)⟩,⟨some 131,.mov,[.t 2],some (129,true)⟩,⟨some 132,(.bin .neq),[.t 130,.t 131],some (129,true)⟩,⟨some 133,.pick,[.t 129,.t 132,.c (.bool false)],none⟩]
def Z1em : List Z2b := [
 ⟨some 10,.mov,[.c (.int .i64 2)],none⟩]
def Z1en : List Z2b := [
 ⟨some 134,.mov,[.t 15],none⟩,⟨some 135,(.bin .gtr),[.t 134,.c (.int .i64 0)],none⟩,⟨some 136,.mov,[.t 135],none⟩,⟨some 137,(.load true 6),[.t 5],some (136,true)⟩,⟨some 138,(.load true 5),[.t 6],some (136,true)⟩,⟨some 139,(.call Ze8),[.t 137,.t 138,.c (.int .i64 0)],some (136,true)⟩,⟨some 140,(.bin .gtr),[.t 139,.c (.int .i64 16384)],some (136,true)⟩,⟨some 141,.pick,[.t 136,.t 140,.c (.bool false)],none⟩]
def Z1eo : List Z2b := [
 ⟨some 10,.mov,[.c (.int .i64 4)],none⟩]
def Z1ep : List Z2b := [
 ⟨some 10,.mov,[.c (.int .i64 0)],none⟩]
def Z1eq : Z2z := ⟨142,(.seq (.region Z1dk [2,3,4,5,6]) (.seq (.region Z1dl [2,3,4,5,6,11]) (.seq (.region Z1dm [2,3,4,5,6,11,12]) (.seq (.region Z1dn [2,3,4,5,6,11,12,13]) (.seq (.region Z1do [2,3,4,5,6,11,12,13,14]) (.seq (.region Z1dp [2,3,4,5,6,11,12,13,14,15]) (.seq (.block 0 (.seq (.region Z1dq [2,3,4,5,6,11,12,13,14,15,22]) (.cond (.t 22) (.region Z1dr [2,3,4,5,6,11,12,13,14,15]) (.seq (.region Z1ds [2,3,4,5,6,11,12,13,14,15,27]) (.cond (.t 27) (.region Z1dt [2,3,4,5,6,11,12,13,14,15]) (.seq (.region Z1du [2,3,4,5,6,11,12,13,14,15,37]) (.cond (.t 37) (.region Z1dv [2,3,4,5,6,11,12,13,14,15]) .skip))))))) (.seq (.seq (.region Z1dw [2,3,4,5,6,11,12,13,14,15,44]) (.cond (.t 44) (.region Z1dx [2,3,4,5,6,11,12,13,14,15]) .skip)) (.seq (.seq (.region Z1dy [2,3,4,5,6,11,12,13,14,15,78]) (.cond (.t 78) (.seq (.region Z1dz [10]) .ret) .skip)) (.seq (.seq (.region Z1e0 [2,3,4,5,6,11,12,13,14,15,16]) (.block 1 (.loop Z1e8))) (.seq (.seq (.region Z1e9 [2,3,4,5,6,11,14,15,18]) (.block 3 (.loop Z1ee))) (.seq (.seq (.region Z1ef [2,3,4,5,6,11,15,19]) (.block 5 (.loop Z1ek))) (.seq (.seq (.region Z1el [5,6,15,133]) (.cond (.t 133) (.seq (.region Z1em [10]) .ret) .skip)) (.seq (.seq (.region Z1en [141]) (.cond (.t 141) (.seq (.region Z1eo [10]) .ret) .skip)) (.seq (.region Z1ep [10]) .ret))))))))))))))),[.t 10]⟩
def Z1er : List Z2b := [
 ⟨some 10,(.alloc (.agg [(.bool false),(.int .i64 0),(.int .i64 0),(.slc 0 [] true),(.slc 0 [] true)])),[],none⟩]
def Z1es : List Z2b := [
 ⟨some 19,.mov,[.t 1],none⟩,⟨some 20,.mov,[.t 3],none⟩,⟨some 21,(.iad 5),[.t 19,.t 20],none⟩,⟨some 22,(.load true 5),[.t 21],none⟩,⟨some 11,(.alloc (.agg [(.slc 0 [] true),(.slc 0 [] true),(.slc 0 [] true),(.slc 0 [] true),(.slc 0 [] true)])),[],none⟩,⟨none,(.store 5),[.t 11,.t 22],none⟩]
def Z1et : List Z2b := [
 ⟨some 23,.mov,[.t 4],none⟩,⟨some 24,.nilc,[.t 23],none⟩,⟨some 25,(.fad 0),[.t 24],none⟩,⟨some 26,(.load false 1),[.t 25],none⟩,⟨some 27,.mov,[.t 3],none⟩,⟨some 28,(.iad 1),[.t 26,.t 27],none⟩,⟨some 29,(.load false 1),[.t 28],none⟩,⟨some 12,.mov,[.t 29],none⟩]
def Z1eu : List Z2b := [
 ⟨some 30,.mov,[.t 4],none⟩,⟨some 31,.nilc,[.t 30],none⟩,⟨some 32,(.fad 0),[.t 31],none⟩,⟨some 33,(.load false 1),[.t 32],none⟩,⟨some 34,.mov,[.t 3],none⟩,⟨some 35,.mov,[.t 12],none⟩,⟨some 36,(.bin .add),[.t 35,.c (.int .i64 1)],none⟩,⟨some 37,(.iad 1),[.t 33,.t 34],none⟩,⟨none,(.store 1),[.t 37,.t 36],none⟩]
def Z1ev : List Z2b := [
 ⟨some 38,(.fad 0),[.t 11],none⟩,⟨some 39,(.load false 1),[.t 38],none⟩,⟨some 40,.mov,[.t 12],none⟩,⟨some 41,(.iad 1),[.t 39,.t 40],none⟩,⟨some 42,(.load false 1),[.t 41],none⟩,⟨some 43,.unot,[.t 42],none⟩]
def Z1ew : List Z2b := [
 ⟨some 44,(.bld [(.bool false),(.int .i64 0),(.int .i64 0),(.slc 0 [] true),(.slc 0 [] true)] [(0,1)]),[.c (.bool true)],none⟩,⟨none,(.store 5),[.t 10,.t 44],none⟩]
def Z1ex : List Z2b := [
 ⟨some 45,.mov,[.t 4],none⟩,⟨some 46,.nilc,[.t 45],none⟩,⟨some 47,(.fad 1),[.t 46],none⟩,⟨some 48,(.load false 1),[.t 47],none⟩,⟨some 49,.mov,[.t 3],none⟩,⟨some 50,(.iad 1),[.t 48,.t 49],none⟩,⟨some 51,(.load false 1),[.t 50],none⟩,⟨some 13,.mov,[.t 51],none⟩]
def Z1ey : List Z2b := [
 ⟨some 52,.mov,[.t 4],none⟩,⟨some 53,.nilc,[.t 52],none⟩,⟨some 54,(.fad 1),[.t 53],none⟩,⟨some 55,(.load false 1),[.t 54],none⟩,⟨some 56,.mov,[.t 3],none⟩,⟨some 57,.mov,[.t 13],none⟩,⟨some 58,(.bin .add),[.t 57,.c (.int .i64 1)],none⟩,⟨some 59,(.iad 1),[.t 55,.t 56],none⟩,⟨none,(.store 1),[.t 59,.t 58],none⟩]
def Z1ez : List Z2b := [
 ⟨some 60,.mov,[.t 0],none⟩,⟨some 61,.mov,[.t 3],none⟩,⟨some 62,(.iad 9),[.t 60,.t 61],none⟩,⟨some 63,(.fad 0),[.t 62],none⟩,⟨some 64,(.load true 6),[.t 63],none⟩,⟨some 14,(.alloc (.agg [(.int .i64 0),(.slc 0 [] true),(.slc 0 [] true),(.int .i64 0),(.int .i64 0),(.int .i64 0)])),[],none⟩,⟨none,(.store 6),[.t 14,.t 64],none⟩]
def Z1f0 : List Z2b := [
 ⟨some 65,(.bld [(.bool false),(.int .i64 0),(.int .i64 0),(.slc 0 [] true),(.slc 0 [] true)] []),[],none⟩,⟨some 15,(.alloc (.agg [(.bool false),(.int .i64 0),(.int .i64 0),(.slc 0 [] true),(.slc 0 [] true)])),[],none⟩,⟨none,(.store 5),[.t 15,.t 65],none⟩]
def Z1f1 : List Z2b := [
 ⟨some 82,(.fad 0),[.t 14],none⟩,⟨some 83,(.load false 1),[.t 82],none⟩,⟨some 84,(.call Zdk),[.t 83],none⟩,⟨some 81,.mov,[.t 84],none⟩]
def Z1f2 : List Z2b := [
 ⟨some 85,(.fad 3),[.t 11],none⟩,⟨some 86,(.load false 1),[.t 85],none⟩,⟨some 87,.mov,[.t 13],none⟩,⟨some 88,(.iad 1),[.t 86,.t 87],none⟩,⟨some 89,(.load false 1),[.t 88],none⟩,⟨some 90,(.fad 3),[.t 15],none⟩,⟨none,(.store 1),[.t 90,.t 89],none⟩]
def Z1f3 : List Z2b := [
 ⟨some 92,(.fad 0),[.t 14],none⟩,⟨some 93,(.load false 1),[.t 92],none⟩,⟨some 94,(.bin .eql),[.t 93,.c (.int .i64 10)],none⟩,⟨some 91,.mov,[.t 94],none⟩]
def Z1f4 : List Z2b := [
 ⟨some 16,.mov,[.c (.int .i64 0)],none⟩]
def Z1f5 : List Z2b := [
 ⟨some 95,.mov,[.t 16],none⟩,⟨some 96,(.fad 4),[.t 11],none⟩,⟨some 97,(.load false 1),[.t 96],none⟩,⟨some 98,.mov,[.t 13],none⟩,⟨some 99,(.iad 1),[.t 97,.t 98],none⟩,⟨some 100,(.load false 1),[.t 99],none⟩,⟨some 101,(.bin .lss),[.t 95,.t 100],none⟩]
def Z1f6 : List Z2b := [
 ⟨some 104,(.fad 4),[.t 15],none⟩,⟨some 105,(.loadg false 1),[.t 104,.t 15],none⟩,⟨some 106,.mov,[.t 0],none⟩,⟨some 107,.mov,[.t 1],none⟩,⟨some 108,.mov,[.t 2],none⟩,⟨some 109,.mov,[.t 0],none⟩,⟨some 110,.mov,[.t 3],none⟩,⟨some 111,(.iad 9),[.t 109,.t 110],none⟩,⟨some 112,(.fad 6),[.t 111],none⟩,⟨some 113,(.load false 1),[.t 112],none⟩,⟨some 114,(.iad 1),[.t 113,.c (.int .i64 0)],none⟩,⟨some 115,(.load false 1),[.t 114],none⟩,⟨some 116,.mov,[.t 4],none⟩,⟨some 117,(.callk Zeg 5),[.t 106,.t 107,.t 108,.t 115,.t 116,.t 15],none⟩,⟨some 118,(.bsl 5),[.t 117],none⟩,⟨some 119,(.app 5 72),[.t 105,.t 118],none⟩,⟨some 120,(.fad 4),[.t 15],none⟩,⟨none,(.store 1),[.t 120,.t 119],none⟩]
def Z1f7 : List Z2b := [
 ⟨some 102,.mov,[.t 16],none⟩,⟨some 103,(.bin .add),[.t 102,.c (.int .i64 1)],none⟩,⟨some 16,.mov,[.t 103],none⟩]
def Z1f8 : Z2c := (.seq (.seq (.region Z1f5 [0,1,2,3,4,10,11,13,15,16,101]) (.cond (.t 101) .skip (.exit 1))) (.seq (.block 2 (.region Z1f6 [0,1,2,3,4,10,11,13,15,16])) (.region Z1f7 [0,1,2,3,4,10,11,13,15,16])))
def Z1f9 : List Z2b := [
 ⟨some 122,(.fad 0),[.t 14],none⟩,⟨some 123,(.load false 1),[.t 122],none⟩,⟨some 124,(.bin .eql),[.t 123,.c (.int .i64 11)],none⟩,⟨some 121,.mov,[.t 124],none⟩]
def Z1fa : List Z2b := [
 ⟨some 17,.mov,[.c (.int .i64 0)],none⟩]
def Z1fb : List Z2b := [
 ⟨some 125,.mov,[.t 17],none⟩,⟨some 126,(.fad 4),[.t 11],none⟩,⟨some 127,(.load false 1),[.t 126],none⟩,⟨some 128,.mov,[.t 13],none⟩,⟨some 129,(.iad 1),[.t 127,.t 128],none⟩,⟨some 130,(.load false 1),[.t 129],none⟩,⟨some 131,(.bin .lss),[.t 125,.t 130],none⟩]
def Z1fc : List Z2b := [
 ⟨some 134,(.fad 4),[.t 15],none⟩,⟨some 135,(.loadg false 1),[.t 134,.t 15],none⟩,⟨some 136,.mov,[.t 0],none⟩,⟨some 137,.mov,[.t 1],none⟩,⟨some 138,.mov,[.t 2],none⟩,⟨some 139,.mov,[.t 0],none⟩,⟨some 140,.mov,[.t 3],none⟩,⟨some 141,(.iad 9),[.t 139,.t 140],none⟩,⟨some 142,(.fad 6),[.t 141],none⟩,⟨some 143,(.load false 1),[.t 142],none⟩,⟨some 144,(.iad 1),[.t 143,.c (.int .i64 0)],none⟩,⟨some 145,(.load false 1),[.t 144],none⟩,⟨some 146,.mov,[.t 4],none⟩,⟨some 147,(.callk Zeg 5),[.t 136,.t 137,.t 138,.t 145,.t 146,.t 15],none⟩,⟨some 148,(.bsl 5),[.t 147],none⟩,⟨some 149,(.app 5 72),[.t 135,.t 148],none⟩,⟨some 150,(.fad 4),[.t 15],none⟩,⟨none,(.store 1),[.t 150,.t 149],none⟩]
def Z1fd : List Z2b := [
 ⟨some 151,(.fad 4),[.t 15],none⟩,⟨some 152,(.loadg false 1),[.t 151,.t 15],none⟩,⟨some 153,.mov,[.t 0],none⟩,⟨some 154,.mov,[.t 1],none⟩,⟨some 155,.mov,[.t 2],none⟩,⟨some 156,.mov,[.t 0],none⟩,⟨some 157,.mov,[.t 3],none⟩,⟨some 158,(.iad 9),[.t 156,.t 157],none⟩,⟨some 159,(.fad 6),[.t 158],none⟩,⟨some 160,(.load false 1),[.t 159],none⟩,⟨some 161,(.iad 1),[.t 160,.c (.int .i64 1)],none⟩,⟨some 162,(.load false 1),[.t 161],none⟩,⟨some 163,.mov,[.t 4],none⟩,⟨some 164,(.callk Zeg 5),[.t 153,.t 154,.t 155,.t 162,.t 163,.t 15],none⟩,⟨some 165,(.bsl 5),[.t 164],none⟩,⟨some 166,(.app 5 72),[.t 152,.t 165],none⟩,⟨some 167,(.fad 4),[.t 15],none⟩,⟨none,(.store 1),[.t 167,.t 166],none⟩]
def Z1fe : List Z2b := [
 ⟨some 132,.mov,[.t 17],none⟩,⟨some 133,(.bin .add),[.t 132,.c (.int .i64 1)],none⟩,⟨some 17,.mov,[.t 133],none⟩]
def Z1ff : Z2c := (.seq (.seq (.region Z1fb [0,1,2,3,4,10,11,13,15,17,131]) (.cond (.t 131) .skip (.exit 3))) (.seq (.block 4 (.seq (.region Z1fc [0,1,2,3,4,10,11,13,15,17]) (.region Z1fd [0,1,2,3,4,10,11,13,15,17]))) (.region Z1fe [0,1,2,3,4,10,11,13,15,17])))
def Z1fg : List Z2b := [
 ⟨some 169,(.fad 0),[.t 14],none⟩,⟨some 170,(.load false 1),[.t 169],none⟩,⟨some 171,(.bin .eql),[.t 170,.c (.int .i64 12)],none⟩,⟨some 168,.mov,[.t 171],none⟩]
def Z1fh : List Z2b := [
 ⟨some 18,.mov,[.c (.int .i64 0)],none⟩]
def Z1fi : List Z2b := [
 ⟨some 172,.mov,[.t 18],none⟩,⟨some 173,.mov,[.t 0],none⟩,⟨some 174,.mov,[.t 3],none⟩,⟨some 175,(.iad 9),[.t 173,.t 174],none⟩,⟨some 176,(.fad 6),[.t 175],none⟩,⟨some 177,(.load false 1),[.t 176],none⟩,⟨some 178,.lens,[.t 177],none⟩,⟨some 179,(.bin .lss),[.t 172,.t 178],none⟩]
def Z1fj : List Z2b := [
 ⟨some 182,.mov,[.t 2],none⟩,⟨some 183,.mov,[.t 0],none⟩,⟨some 184,.mov,[.t 3],none⟩,⟨some 185,(.iad 9),[.t 183,.t 184],none⟩,⟨some 186,(.fad 6),[.t 185],none⟩,⟨some 187,(.load false 1),[.t 186],none⟩,⟨some 188,.mov,[.t 18],none⟩,⟨some 189,(.iad 1),[.t 187,.t 188],none⟩,⟨some 190,(.load false 1),[.t 189],none⟩,⟨some 191,(.iad 1),[.t 182,.t 190],none⟩,⟨some 192,(.load false 1),[.t 191],none⟩]
def Z1fk : List Z2b := [
 ⟨some 193,(.fad 4),[.t 15],none⟩,⟨some 194,(.loadg false 1),[.t 193,.t 15],none⟩,⟨some 195,.mov,[.t 0],none⟩,⟨some 196,.mov,[.t 1],none⟩,⟨some 197,.mov,[.t 2],none⟩,⟨some 198,.mov,[.t 0],none⟩,⟨some 199,.mov,[.t 3],none⟩,⟨some 200,(.iad 9),[.t 198,.t 199],none⟩,⟨some 201,(.fad 6),[.t 200],none⟩,⟨some 202,(.load false 1),[.t 201],none⟩,⟨some 203,.mov,[.t 18],none⟩,⟨some 204,(.iad 1),[.t 202,.t 203],none⟩,⟨some 205,(.load false 1),[.t 204],none⟩,⟨some 206,.mov,[.t 4],none⟩,⟨some 207,(.callk Zeg 5),[.t 195,.t 196,.t 197,.t 205,.t 206,.t 15],none⟩,⟨some 208,(.bsl 5),[.t 207],none⟩,⟨some 209,(.app 5 72),[.t 194,.t 208],none⟩,⟨some 210,(.fad 4),[.t 15],none⟩,⟨none,(.store 1),[.t 210,.t 209],none⟩]
def Z1fl : List Z2b := [
 ⟨some 180,.mov,[.t 18],none⟩,⟨some 181,(.bin .add),[.t 180,.c (.int .i64 1)],none⟩,⟨some 18,.mov,[.t 181],none⟩]
def Z1fm : Z2c := (.seq (.seq (.region Z1fi [0,1,2,3,4,10,15,18,179]) (.cond (.t 179) .skip (.exit 5))) (.seq (.block 6 (.seq (.region Z1fj [0,1,2,3,4,10,15,18,192]) (.cond (.t 192) (.region Z1fk [0,1,2,3,4,10,15,18]) .skip))) (.region Z1fl [0,1,2,3,4,10,15,18])))
def Z1fn : List Z2b := [
 ⟨some 212,(.fad 0),[.t 14],none⟩,⟨some 213,(.load false 1),[.t 212],none⟩,⟨some 214,(.bin .eql),[.t 213,.c (.int .i64 13)],none⟩,⟨some 211,.mov,[.t 214],none⟩]
def Z1fo : List Z2b := [
 ⟨some 215,(.fad 1),[.t 11],none⟩,⟨some 216,(.load false 1),[.t 215],none⟩,⟨some 217,.mov,[.t 13],none⟩,⟨some 218,(.iad 1),[.t 216,.t 217],none⟩,⟨some 219,(.load false 1),[.t 218],none⟩,⟨some 220,(.fad 1),[.t 15],none⟩,⟨none,(.store 1),[.t 220,.t 219],none⟩]
def Z1fp : List Z2b := [
 ⟨some 221,.mov,[.t 0],none⟩,⟨some 222,.mov,[.t 1],none⟩,⟨some 223,.mov,[.t 2],none⟩,⟨some 224,.mov,[.t 0],none⟩,⟨some 225,.mov,[.t 3],none⟩,⟨some 226,(.iad 9),[.t 224,.t 225],none⟩,⟨some 227,(.fad 6),[.t 226],none⟩,⟨some 228,(.load false 1),[.t 227],none⟩,⟨some 229,(.fad 1),[.t 15],none⟩,⟨some 230,(.load false 1),[.t 229],none⟩,⟨some 231,(.iad 1),[.t 228,.t 230],none⟩,⟨some 232,(.load false 1),[.t 231],none⟩,⟨some 233,.mov,[.t 4],none⟩,⟨some 234,(.call Zeg),[.t 221,.t 222,.t 223,.t 232,.t 233],none⟩,⟨some 235,(.bsl 5),[.t 234],none⟩,⟨some 236,(.fad 4),[.t 15],none⟩,⟨none,(.store 1),[.t 236,.t 235],none⟩]
def Z1fq : List Z2b := [
 ⟨some 66,(.fad 1),[.t 11],none⟩,⟨some 67,(.load false 1),[.t 66],none⟩,⟨some 68,.mov,[.t 13],none⟩,⟨some 69,(.iad 1),[.t 67,.t 68],none⟩,⟨some 70,(.load false 1),[.t 69],none⟩,⟨some 71,(.fad 1),[.t 15],none⟩,⟨none,(.store 1),[.t 71,.t 70],none⟩]
def Z1fr : List Z2b := [
 ⟨some 72,(.fad 0),[.t 14],none⟩,⟨some 73,(.load false 1),[.t 72],none⟩,⟨some 74,(.bin .eql),[.t 73,.c (.int .i64 9)],none⟩]
def Z1fs : List Z2b := [
 ⟨some 75,(.fad 2),[.t 11],none⟩,⟨some 76,(.load false 1),[.t 75],none⟩,⟨some 77,.mov,[.t 13],none⟩,⟨some 78,(.iad 1),[.t 76,.t 77],none⟩,⟨some 79,(.load false 1),[.t 78],none⟩,⟨some 80,(.fad 2),[.t 15],none⟩,⟨none,(.store 1),[.t 80,.t 79],none⟩]
def Z1ft : List Z2b := [
 ⟨some 237,(.load true 5),[.t 15],none⟩,⟨none,(.store 5),[.t 10,.t 237],none⟩]
def Z1fu : Z2z := ⟨238,(.seq (.region Z1er [0,1,2,3,4,10]) (.seq (.region Z1es [0,1,2,3,4,10,11]) (.seq (.region Z1et [0,1,2,3,4,10,11,12]) (.seq (.region Z1eu [0,1,2,3,4,10,11,12]) (.seq (.seq (.region Z1ev [0,1,2,3,4,10,11,43]) (.cond (.t 43) (.seq (.region Z1ew [10]) .ret) .skip)) (.seq (.region Z1ex [0,1,2,3,4,10,11,13]) (.seq (.region Z1ey [0,1,2,3,4,10,11,13]) (.seq (.region Z1ez [0,1,2,3,4,10,11,13,14]) (.seq (.region Z1f0 [0,1,2,3,4,10,11,13,14,15]) (.seq (.block 0 (.seq (.region Z1f1 [0,1,2,3,4,10,11,13,14,15,81]) (.cond (.t 81) (.region Z1f2 [10,15]) (.seq (.region Z1f3 [0,1,2,3,4,10,11,13,14,15,91]) (.cond (.t 91) (.seq (.region Z1f4 [0,1,2,3,4,10,11,13,15,16]) (.block 1 (.loop Z1f8))) (.seq (.region Z1f9 [0,1,2,3,4,10,11,13,14,15,121]) (.cond (.t 121) (.seq (.region Z1fa [0,1,2,3,4,10,11,13,15,17]) (.block 3 (.loop Z1ff))) (.seq (.region Z1fg [0,1,2,3,4,10,11,13,14,15,168]) (.cond (.t 168) (.seq (.region Z1fh [0,1,2,3,4,10,15,18]) (.block 5 (.loop Z1fm))) (.seq (.region Z1fn [0,1,2,3,4,10,11,13,14,15,211]) (.cond (.t 211) (.seq (.region Z1fo [0,1,2,3,4,10,15]) (.region Z1fp [10,15])) (.seq (.region Z1fq [10,11,13,14,15]) (.seq (.region Z1fr [10,11,13,15,74]) (.cond (.t 74) (.region Z1fs [10,15]) .skip)))))))))))))) (.seq (.region Z1ft [10]) .ret))))))))))),[.cell 10 true 5]⟩
def Z1fv : List Z2b := [
 ⟨some 1,(.box 5),[.t 0],none⟩,⟨some 2,.mov,[.c (.bool false)],none⟩]
def Z1fw : List Z2b := [
 ⟨some 4,(.fad 0),[.t 1],none⟩,⟨some 5,(.load false 1),[.t 4],none⟩,⟨some 6,.lens,[.t 5],none⟩,⟨some 7,(.bin .gtr),[.t 6,.c (.int .i64 400)],none⟩,⟨some 8,.mov,[.t 7],none⟩,⟨some 9,(.fad 1),[.t 1],some (8,false)⟩,⟨some 10,(.load false 1),[.t 9],some (8,false)⟩,⟨some 11,.lens,[.t 10],some (8,false)⟩,⟨some 12,(.bin .gtr),[.t 11,.c (.int .i64 400)],some (8,false)⟩,⟨some 13,.pick,[.t 8,.c (.bool true),.t 12],none⟩,⟨some 14,.mov,[.t 13],none⟩,⟨some 15,(.fad 2),[.t 1],some (14,false)⟩,⟨some 16,(.load false 1),[.t 15],some (14,false)⟩,⟨some 17,.lens,[.t 16],some (14,false)⟩,⟨some 18,(.bin .gtr),[.t 17,.c (.int .i64 400)],some (14,false)⟩,⟨some 19,.pick,[.t 14,.c (.bool true),.t 18],none⟩,⟨some 20,.mov,[.t 19],none⟩,⟨some 21,(.fad 3),[.t 1],some (20,false)⟩,⟨some 22,(.load false 1),[.t 21],some (20,false)⟩,⟨some 23,.lens,[.t 22],some (20,false)⟩,⟨some 24,(.bin .gtr),[.t 23,.c (.int .i64 400)],some (20,false)⟩,⟨some 25,.pick,[.t 20,.c (.bool true),.t 24],none⟩,⟨some 26,.mov,[.t 25],none⟩,⟨some 27,(.fad 4),[.t 1],some (26,false)⟩,⟨some 28,(.load false 1),[.t 27],some (26,false)⟩,⟨some 29,.lens,[.t 28],some (26,false)⟩,⟨some 30,(.bin .gtr),[.t 29,.c (.int .i64 400)],some (26,false)⟩,⟨some 31,.pick,[.t 26,.c (.bool true),.t 30],none⟩]
def Z1fx : List Z2b := [
 ⟨some 2,.mov,[.c (.bool false)],none⟩]
def Z1fy : List Z2b := [
 ⟨some 3,.mov,[.c (.int .i64 0)],none⟩]
def Z1fz : List Z2b := [
 ⟨some 32,.mov,[.t 3],none⟩,⟨some 33,(.fad 3),[.t 1],none⟩,⟨some 34,(.load false 1),[.t 33],none⟩,⟨some 35,.lens,[.t 34],none⟩,⟨some 36,(.bin .lss),[.t 32,.t 35],none⟩]
def Z1g0 : List Z2b := [
 ⟨some 39,(.fad 3),[.t 1],none⟩,⟨some 40,(.load false 1),[.t 39],none⟩,⟨some 41,.mov,[.t 3],none⟩,⟨some 42,(.iad 1),[.t 40,.t 41],none⟩,⟨some 43,(.load false 1),[.t 42],none⟩,⟨some 44,.lens,[.t 43],none⟩,⟨some 45,(.bin .gtr),[.t 44,.c (.int .i64 5000)],none⟩]
def Z1g1 : List Z2b := [
 ⟨some 2,.mov,[.c (.bool false)],none⟩]
def Z1g2 : List Z2b := [
 ⟨some 37,.mov,[.t 3],none⟩,⟨some 38,(.bin .add),[.t 37,.c (.int .i64 1)],none⟩,⟨some 3,.mov,[.t 38],none⟩]
def Z1g3 : Z2c := (.seq (.seq (.region Z1fz [1,3,36]) (.cond (.t 36) .skip (.exit 0))) (.seq (.block 1 (.seq (.region Z1g0 [1,3,45]) (.cond (.t 45) (.seq (.region Z1g1 [2]) .ret) .skip))) (.region Z1g2 [1,3])))
def Z1g4 : List Z2b := [
 ⟨some 2,.mov,[.c (.bool true)],none⟩]
def Z1g5 : Z2z := ⟨46,(.seq (.region Z1fv [1]) (.seq (.seq (.region Z1fw [1,31]) (.cond (.t 31) (.seq (.region Z1fx [2]) .ret) .skip)) (.seq (.seq (.region Z1fy [1,3]) (.block 0 (.loop Z1g3))) (.seq (.region Z1g4 [2]) .ret)))),[.t 2]⟩
def Z1g6 : List Z2b := [
 ⟨some 1,(.box 5),[.t 0],none⟩,⟨some 2,(.alloc (.agg [(.slc 0 [] true),(.slc 0 [] true),(.slc 0 [] true),(.slc 0 [] true),(.slc 0 [] true)])),[],none⟩]
def Z1g7 : List Z2b := [
 ⟨some 3,(.fad 0),[.t 1],none⟩,⟨some 4,(.load false 1),[.t 3],none⟩,⟨some 5,(.fad 1),[.t 1],none⟩,⟨some 6,(.load false 1),[.t 5],none⟩,⟨some 7,(.fad 2),[.t 1],none⟩,⟨some 8,(.load false 1),[.t 7],none⟩,⟨some 9,(.fad 3),[.t 1],none⟩,⟨some 10,(.load false 1),[.t 9],none⟩,⟨some 11,(.fad 4),[.t 1],none⟩,⟨some 12,(.load false 1),[.t 11],none⟩,⟨some 13,(.bld [(.slc 0 [] true),(.slc 0 [] true),(.slc 0 [] true),(.slc 0 [] true),(.slc 0 [] true)] [(0,1),(1,1),(2,1),(3,1),(4,1)]),[.t 4,.t 6,.t 8,.t 10,.t 12],none⟩,⟨none,(.store 5),[.t 2,.t 13],none⟩]
def Z1g8 : Z2z := ⟨14,(.seq (.region Z1g6 [1,2]) (.seq (.region Z1g7 [2]) .ret)),[.cell 2 true 5]⟩
end Go.Abs
namespace Go.Abs
open Go Go.Proofs
theorem Z1g9 : Z30 Try.prog [] Zcz = some Z1ch.erase := by kernel_rfl
theorem Z1ga : Z30 Try.prog [(25, 19)] Zd5 = some Z1dj.erase := by kernel_rfl
theorem Z1gb : Z30 Try.prog [] Zef = some Z1eq.erase := by kernel_rfl
theorem Z1gc : Z30 Try.prog [(19, 160001), (19, 160013), (24, 160001), (24, 160013), (25, 160001), (25, 160013), (31, 160001), (31, 160014)] Zeg = some Z1fu.erase := by kernel_rfl
theorem Z1gd : Z30 Try.prog [] Zd2 = some Z1g5.erase := by kernel_rfl
theorem Z1ge : Z30 Try.prog [] Zd3 = some Z1g8.erase := by kernel_rfl
end Go.Abs
namespace Go.Abs
open Go Go.Proofs
attribute [local irreducible] AWp aops KP
def wantF (l : List Nd) (cols : List Col) (n x : Nat) : Nat :=
 match l[x]? with
 | none => 0
 | some nd => if nd.parent < 0 then n else
  match l[nd.parent.toNat]? with
  | none => 0
  | some q => askF q.t.kind (cols.getD nd.parent.toNat col0) (q.kids.idxOf x : Nat)
theorem Z1gf {l : List Nd} (hT : TreeN l) {n0 : Nd} (h : l[0]? = some n0) (cols : List Col) (n : Nat) : wantF l cols n 0 = n := by
 rw [wantF, h]
 simp only
 rw [if_pos (by rw [(hT.root n0 h).1]; decide)]
theorem Z1gg {l : List Nd} (hT : TreeN l) {n0 : Nd} (h : l[0]? = some n0) : keyF l 0 = true := by
 rw [keyF, h]
 simp only
 rw [if_pos (by rw [(hT.root n0 h).1]; decide)]
theorem Z1gh {l : List Nd} (hT : TreeN l) {i : Nat} {nd : Nd} (hn : l[i]? = some nd) {j j' x : Nat} (h1 : nd.kids[j]? = some x) (h2 : nd.kids[j']? = some x) : j = j' := by
 obtain ⟨u, m, e1, e2, _⟩ := (hT.nok i nd hn).kids j x h1
 obtain ⟨u', m', f1, f2, _⟩ := (hT.nok i nd hn).kids j' x h2
 have := Z18c u
 have := Z18c u'
 rcases Nat.lt_trichotomy j j' with h | h | h
 ·have := Z1bc _ _ _ _ e1 h; omega
 ·exact h
 ·have := Z1bc _ _ _ _ f1 h; omega
theorem Z1gi {l : List Nd} (hT : TreeN l) {i : Nat} {nd : Nd} (hn : l[i]? = some nd) (cols : List Col) (n : Nat) {j x : Nat} (hx : nd.kids[j]? = some x) : wantF l cols n x = askF nd.t.kind (cols.getD i col0) j := by
 obtain ⟨u, m, e1, e2, e3, e4, e5, _⟩ := (hT.nok i nd hn).kids j x hx
 rw [wantF, e3]
 simp only
 rw [e5, if_neg (by omega), Int.toNat_natCast, hn]
 simp only
 have hm := List.mem_of_getElem? hx
 have h2 : nd.kids[nd.kids.idxOf x]? = some x := by
  rw [List.getElem?_eq_getElem (List.idxOf_lt_length_of_mem hm), List.getElem_idxOf]
 rw [Z1gh hT hn h2 hx]
noncomputable def faultF (l : List Nd) (cols : List Col) (keep : List Bool) (n i : Nat) : Nat :=
 match l[i]? with
 | none => 0
 | some nd => if keep.getD i false = true then wrongF nd (cols.getD i col0) (wantF l cols n i) (!(keyF l i)) else 0
def Z1gj (f : Nat → Nat) : Nat → Nat → Nat
 | 0, _ => 0
 | r + 1, i => if f i ≠ 0 then f i else Z1gj f r (i + 1)
theorem Z1gk {f : Nat → Nat} : ∀ (r i : Nat), (∀ x, x < i + r → f x = 0) → Z1gj f r i = 0
 | 0, i, h => rfl
 | r + 1, i, h => by
  rw [Z1gj, if_neg (by rw [h i (by omega)]; simp)]
  exact Z1gk r (i + 1) fun x hx => h x (by omega)
theorem Z1gl {f : Nat → Nat} {i : Nat} (hi : f i ≠ 0) (hb : ∀ x, x < i → f x = 0) : ∀ (r k : Nat), k ≤ i → i < k + r → Z1gj f r k = f i
 | 0, k, h1, h2 => by omega
 | r + 1, k, h1, h2 => by
  rw [Z1gj]
  by_cases e : k = i
  ·subst e; rw [if_pos hi]
  ·rw [if_neg (by rw [hb k (by omega)]; simp)]
   exact Z1gl hi hb r (k + 1) (by omega) (by omega)
noncomputable def bresF (l : List Nd) (cols : List Col) (keep : List Bool) (t : Ty) (n : Nat) : List Vl × Nat :=
 if Z1gj (faultF l cols keep n) l.length 0 ≠ 0 then ([], Z1gj (faultF l cols keep n) l.length 0) else
 match takeR cols keep t n ⟨List.replicate l.length 0, List.replicate l.length 0⟩ with
 | some (VS, _) => (VS, 0)
 | none => ([], 0)
theorem Z1gm {l : List Nd} {cols : List Col} {keep : List Bool} {t : Ty} {n w : Nat} (h : Z1gj (faultF l cols keep n) l.length 0 = w) (hw : w ≠ 0) : bresF l cols keep t n = ([], w) := by
 rw [bresF, if_pos (by rw [h]; exact hw), h]
theorem Z1gn {l : List Nd} {cols : List Col} {keep : List Bool} {t : Ty} {n : Nat} (h : Z1gj (faultF l cols keep n) l.length 0 = 0) {VS : List Vl} {sE : Tk} (hR : takeR cols keep t n ⟨List.replicate l.length 0, List.replicate l.length 0⟩ = some (VS, sE)) : bresF l cols keep t n = (VS, 0) := by
 rw [bresF, if_neg (by rw [h]; simp), hR]
structure ColIn (c : Col) : Prop where
 here : c.here.length ≤ 16384
 int : ∀ v ∈ c.ints, -9223372036854775808 ≤ v ∧ v ≤ 9223372036854775807
 text : ∀ b ∈ c.texts, b.length ≤ 9223372036854775807
def Clean (l : List Nd) (cols : List Col) (keep : List Bool) (n i : Nat) : Prop := ∀ x, x < i → faultF l cols keep n x = 0
theorem Clean.next {l : List Nd} {cols : List Col} {keep : List Bool} {n i : Nat} (h : Clean l cols keep n i) (hi : faultF l cols keep n i = 0) : Clean l cols keep n (i + 1) := fun x hx => by
 by_cases e : x = i
 ·subst e; exact hi
 ·exact h x (by omega)
theorem Right.lens16 {n : Nd} {c : Col} {w : Nat} {b : Bool} (hR : Right n c w b) : ∀ v ∈ c.lens, v ≤ 16384 := by
 intro v hv
 by_cases hk : n.t.kind = 10 ∨ n.t.kind = 11
 ·have hs := hR.sum (by rcases hk with h | h <;> simp [lenF, h])
  rw [askF, if_pos hk] at hs
  have key : ∀ (ls : List Int) (out : Nat), sumL ls out ≤ 16384 → ∀ v ∈ ls, v ≤ 16384 := by
   intro ls
   induction ls with
   | nil => intro _ _ v hv; cases hv
   | cons x xs ih =>
    intro out h v hv
    rw [sumL] at h
    split at h
    ·omega
    ·rcases List.mem_cons.1 hv with e | e
     ·subst e; omega
     ·exact ih _ h v e
  exact key _ _ hs v hv
 ·have h0 := hR.good.lens
  rw [if_neg hk] at h0
  rw [List.length_eq_zero_iff.1 h0] at hv
  cases hv
theorem Z1go {l : List Nd} (hT : TreeN l) (hK : Z12x l) (hok : ∀ n ∈ l, n.t.Ok) {n0 : Nd} (hn0 : l[0]? = some n0) {cols : List Col} {keep : List Bool} {n : Nat} (hin : ∀ i, keep.getD i false = true → ColIn (cols.getD i col0)) (hcl : cols.length = l.length) (h : Clean l cols keep n l.length) :
  Asks l cols keep n (wantF l cols n) (keyF l) ∧ ColsT l cols keep := by
 have hr : ∀ i nd, l[i]? = some nd → keep.getD i false = true → Right nd (cols.getD i col0) (wantF l cols n i) (!(keyF l i)) := by
  intro i nd hnd hk
  have hi := (List.getElem?_eq_some_iff.1 hnd).1
  have h0 := h i hi
  rw [faultF, hnd] at h0
  simp only at h0
  rw [if_pos hk] at h0
  have hI := hin i hk
  exact Z18o (hK.num nd (List.mem_of_getElem? hnd)) (hok nd (List.mem_of_getElem? hnd)) (hT.nok i nd hnd).len hI.here hI.int h0
 have hg : ∀ i c, cols[i]? = some c → keep.getD i false = true → ∃ nd w b, Right nd c w b := by
  intro i c hc hk
  have hi := (List.getElem?_eq_some_iff.1 hc).1
  have := hr i _ (List.getElem?_eq_getElem (show i < l.length by omega)) hk
  rw [List.getD_eq_getElem?_getD, hc] at this
  exact ⟨_, _, _, this⟩
 refine ⟨⟨Z1gf hT hn0 cols n, Z1gg hT hn0, fun i nd hnd hk j x hx => ⟨Z1gi hT hnd cols n hx, Z1ac hT hnd hx⟩, hr⟩, hcl, fun i c hc hk => ?_, fun i c hc hk => ?_, fun i c hc hk => ?_⟩
 ·obtain ⟨nd, w, b, h⟩ := hg i c hc hk; exact h.sm
 ·obtain ⟨nd, w, b, h⟩ := hg i c hc hk; exact h.rng.text
 ·obtain ⟨nd, w, b, h⟩ := hg i c hc hk; exact h.lens16
theorem Z1gp {l : List Nd} (hT : TreeN l) {cols : List Col} {keep : List Bool} {want : Nat → Nat} {key : Nat → Bool} {i j : Nat} {W : List Int} {B : List Bool} {nd : Nd} (hA : ∀ (j x : Nat), nd.kids[j]? = some x → want x = askF nd.t.kind (cols.getD i col0) j ∧ key x = (decide (nd.t.kind = 11) && decide (j = 0))) (h : AskI l keep want key i j W B)
  (hnd : l[i]? = some nd) {x : Nat} (hx : nd.kids[j]? = some x) :
  AskI l keep want key i (j + 1) (W.set x (askF nd.t.kind (cols.getD i col0) j : Nat)) (B.set x (decide (nd.t.kind = 11) && decide (j = 0))) := by
 obtain ⟨u, m, e1, e2, e3, e4, e5, _⟩ := (hT.nok i nd hnd).kids j x hx
 have hxl := (List.getElem?_eq_some_iff.1 e3).1
 refine ⟨by rw [List.length_set]; exact h.lw, by rw [List.length_set]; exact h.lb, fun y hy hky hd => ?_⟩
 obtain ⟨k1, k2⟩ := hA j x hx
 by_cases e : y = x
 ·subst e
  rw [List.getElem?_set_self (by rw [h.lw]; exact hy), List.getElem?_set_self (by rw [h.lb]; exact hy), k1, k2]
  exact ⟨rfl, rfl⟩
 ·rw [List.getElem?_set_ne (fun e' => e e'.symm), List.getElem?_set_ne (fun e' => e e'.symm)]
  refine h.eq y hy hky ?_
  rcases hd with rfl | ⟨p, q, m', h1, h2, h3⟩
  ·exact .inl rfl
  ·refine .inr ⟨p, q, m', h1, h2, ?_⟩
   rcases h3 with h3 | ⟨rfl, h3⟩
   ·exact .inl h3
   ·refine .inr ⟨rfl, ?_⟩
    rw [hnd] at h1
    cases h1
    rcases Nat.lt_or_eq_of_le (Nat.le_of_lt_succ h3) with h4 | h4
    ·exact h4
    ·subst h4
     rw [hx] at h2
     cases h2
     exact absurd rfl e
theorem Z1gq (t : Ty) (ht : t.Fit) (h0 : Zm8 t = 0) (cols : List Col) (n : Nat) (hn : n ≤ 4096) (kb keep : List Bool) (hkb : (kb = [] ∧ keep = List.replicate (Zmf t).length true) ∨ (keep = kb ∧ kb ≠ []))
  (hkl : keep.length = (Zmf t).length) (hk0 : keep.getD 0 false = true) (hclen : cols.length = (Zmf t).length) (hin : ∀ c ∈ cols, ColIn c) (hW : Whole (Zmf t) keep) (g f : Bool) (σ : Zc) :
  Z1s Try.prog Zcz [encT t, .slc 5 (cols.map Kc) g, .int .i64 (n : Int), .slc 1 (kb.map .bool) f] σ fun r σ' => r = .tup [.slc 5 (Zmg (bresF (Zmf t) cols keep t n).1) false, .int .i64 ((bresF (Zmf t) cols keep t n).2 : Nat)] ∧ σ' = σ := by
 have hfl := Zxe t ht
 have hT := Z18f t
 have hK := Z1a7 t
 have hpos : 0 < (Zmf t).length := by
  obtain ⟨n0, e, _⟩ := Z18j h0
  exact (List.getElem?_eq_some_iff.1 e).1
 obtain ⟨n0, hn0, hn0t⟩ := Z18j h0
 have hL100 := Zxj t
 have hok := Z13m t
 have hcnt : cnt t = (Zmf t).length := by rw [Zmf, if_pos h0, Zmc]
 rw [Zm0] at hfl ⊢
 generalize Zmf t = l at *
 have hll : (l.map encN).length = l.length := List.length_map ..
 have hcl : (cols.map Kc).length = cols.length := List.length_map ..
 have hbl : (kb.map Z0.bool).length = kb.length := List.length_map ..
 refine Z94 rfl Z1g9 (Nat.le_of_ble_eq_true rfl) ?_
 refine Za1 ?_
 refine Z9n rfl (Kfi rfl) fun b4 hb4 => ?_
 repeat refine Kq rfl rfl rfl ?_
 (refine Z99 ?_; (repeat(first|refine Z9x rfl ?_|refine Z9y ?_)); refine Z9w ?_)
 refine Zaj (d := 4) (cs := Zlz t) rfl ?_
 (repeat(first|refine Kq rfl rfl rfl ?_|refine Ks ?_|refine Zb1 (fun _ _ => rfl) ?_))
 refine Z9v rfl (hfl _) ?_
 (repeat(first|refine Kq rfl rfl rfl ?_|(refine Z99 ?_; (repeat(first|refine Z9x rfl ?_|refine Z9y ?_)); refine Z9w ?_)|refine Ks ?_|refine Zb1 (fun _ _ => rfl) ?_))
 rw [hll]
 (rw [decide_eq_false (p := (l.length : Int) = 0) (by omega)])
 (repeat(first|refine Kq rfl rfl rfl ?_|refine Z96 rfl (Kq rfl rfl rfl ?_)))
 (rw [decide_eq_false (p := (n : Int) < 0) (by omega)])
 skip
 (rw [decide_eq_false (p := (4096 : Int) < (n : Int)) (by omega)])
 (repeat(first|refine Kq rfl rfl rfl ?_|refine Z96 rfl (Kq rfl rfl rfl ?_)))
 rw [hcl, hll]
 (rw [decide_eq_false (p := (cols.length : Int) ≠ (l.length : Int)) (by omega)])
 (repeat refine Z96 rfl (Kq rfl rfl rfl ?_))
 rw [hbl]
 have main : ∀ (f : Bool), AWp Try.prog Z1ch.n (Z1ch.code.snd 4) (ARet Z1ch.res fun r σ' => r = .tup [.slc 5 (Zmg (bresF l cols keep t n).1) false, .int .i64 ((bresF l cols keep t n).2 : Nat)] ∧ σ' = σ)
   (fset 1 (some (.slc 5 (cols.map Kc) g)) (fset 2 (some (.int .i64 (n : Int))) (fset 3 (some (.slc 1 (keep.map .bool) f)) (fset 10 (some (.slc 8 (l.map encN) true)) Z28)))) σ := by
  intro f
  clear hkb
  have hkm : (keep.map Z0.bool).length = keep.length := List.length_map ..
  have hz1 : List.replicate ((l.length : Nat) : Int).toNat (Z0.int .i64 0) = (List.replicate l.length (0 : Int)).map (.int .i64) := by rw [List.map_replicate, Int.toNat_natCast]
  have hz2 : List.replicate ((l.length : Nat) : Int).toNat (Z0.bool false) = (List.replicate l.length false).map .bool := by rw [List.map_replicate, Int.toNat_natCast]
  refine Za1 ?_
  repeat refine Kq rfl rfl rfl ?_
  rw [hll]
  refine Z9p rfl (Kfi rfl) (by omega) (by omega) (by omega) (by omega) fun b11 hb11 => ?_
  repeat refine Kq rfl rfl rfl ?_
  (refine Z99 ?_; (repeat(first|refine Z9x rfl ?_|refine Z9y ?_)); refine Z9w ?_)
  refine Za1 ?_
  repeat refine Kq rfl rfl rfl ?_
  rw [hll]
  refine Z9p rfl (Kfi rfl) (by omega) (by omega) (by omega) (by omega) fun b12 hb12 => ?_
  have hne : b12 ≠ b11 := fun e => hb12 (by rw [e]; simp [Zh])
  repeat refine Kq rfl rfl rfl ?_
  (refine Z99 ?_; (repeat(first|refine Z9x rfl ?_|refine Z9y ?_)); refine Z9w ?_)
  rw [hz1, hz2, Int.toNat_natCast]
  refine Za1 ?_
  repeat refine Kq rfl rfl rfl ?_
  refine Z9e rfl ⟨by omega, by omega⟩ ?_
  have hx1 : ((List.replicate l.length (0 : Int)).map (Z0.int .i64))[0 + (0 : Int).toNat]? = some (.int .i64 0) := by
   rw [List.getElem?_map, List.getElem?_replicate, if_pos (by simpa using hpos)]; rfl
  have hx2 : ((List.replicate l.length false).map Z0.bool)[0 + (0 : Int).toNat]? = some (.bool false) := by
   rw [List.getElem?_map, List.getElem?_replicate, if_pos (by simpa using hpos)]; rfl
  refine Z9g rfl (Z9b hne Z9a) hx1 (by decide) (Kfi rfl) (fun _ => ⟨rfl, rfl⟩) (Z9i hne Z9h) ?_
  repeat refine Kq rfl rfl rfl ?_
  refine Z9e rfl ⟨by omega, by omega⟩ ?_
  refine Z9g rfl Z9a hx2 (by decide) (Kfi rfl) (fun _ => ⟨rfl, rfl⟩) Z9h ?_
  (refine Z99 ?_; (repeat(first|refine Z9x rfl ?_|refine Z9y ?_)); refine Z9w ?_)
  have e1 : ((List.replicate l.length (0 : Int)).map (Z0.int .i64)).set (0 + (0 : Int).toNat) (Z1t (.int .i64 0) 0 (Z0.int .i64 (n : Int)).cells) = ((List.replicate l.length (0 : Int)).set 0 (n : Int)).map (.int .i64) := by rw [List.map_set]; rfl
  have e2 : ((List.replicate l.length false).map Z0.bool).set (0 + (0 : Int).toNat) (Z1t (.bool false) 0 (Z0.bool true).cells) = ((List.replicate l.length false).set 0 true).map .bool := by rw [List.map_set]; rfl
  rw [e1, e2]
  have hI0 : AskI l keep (wantF l cols n) (keyF l) 0 0 ((List.replicate l.length (0 : Int)).set 0 (n : Int)) ((List.replicate l.length false).set 0 true) := by
   refine ⟨by simp, by simp, fun x hx hkx hd => ?_⟩
   rcases hd with rfl | ⟨p, q, m, _, _, h3⟩
   ·rw [List.getElem?_set_self (by rw [List.length_replicate]; exact hx), List.getElem?_set_self (by rw [List.length_replicate]; exact hx), Z1gf hT hn0, Z1gg hT hn0]
    exact ⟨rfl, rfl⟩
   ·omega
  generalize (List.replicate l.length (0 : Int)).set 0 (n : Int) = W0 at hI0 ⊢
  generalize (List.replicate l.length false).set 0 true = B0 at hI0 ⊢
  (repeat(first|refine Kq rfl rfl rfl ?_|(refine Z99 ?_; (repeat(first|refine Z9x rfl ?_|refine Z9y ?_)); refine Z9w ?_)|refine Ks ?_|refine Zb1 (fun _ _ => rfl) ?_|refine Z8s ?_))
  rw [hll]
  obtain ⟨I, hI⟩ : ∃ I : Nat → Z27 → Zc → Prop, I = fun m F σ' => ∃ (i : Nat) (W : List Int) (B : List Bool), F = fset 1 (some (.slc 5 (cols.map Kc) g)) (fset 2 (some (.int .i64 (n : Int))) (fset 3 (some (.slc 1 (keep.map .bool) f)) (fset 10 (some (.slc 8 (l.map encN) true)) (fset 11 (some (.arr 1 b11 0 l.length)) (fset 12 (some (.arr 1 b12 0 l.length)) (fset 76 (some (.int .i64 (l.length : Nat))) (fset 77 (some (.int .i64 (i : Nat))) Z28))))))) ∧
   (b12, Zb.cells 1 (B.map .bool)) :: (b11, Zb.cells 1 (W.map (.int .i64))) :: σ = σ' ∧ i ≤ l.length ∧ AskI l keep (wantF l cols n) (keyF l) i 0 W B ∧ Clean l cols keep n i ∧ m = l.length - i := ⟨_, rfl⟩
  refine Za6 I (n := l.length) (by rw [hI]; exact ⟨0, W0, B0, rfl, rfl, by omega, hI0, fun x hx => by omega, by omega⟩) ?_
  intro m0 F σ' hIm
  rw [hI] at hIm
  obtain ⟨i, W, B, rfl, rfl, hi, hAI, hCl, rfl⟩ := hIm
  (repeat(first|refine Kq rfl rfl rfl ?_|(refine Z99 ?_; (repeat(first|refine Z9x rfl ?_|refine Z9y ?_)); refine Z9w ?_)|refine Ks ?_|refine Zb1 (fun _ _ => rfl) ?_))
  refine Za2 (p := (i : Int) < (l.length : Nat)) rfl (fun h3 => ?_) (fun h3 => ?_)
  ·have hil : i < l.length := by omega
   have hic : i < cols.length := by omega
   have hgN := Zrn (f := encN) hil
   have hgC := Zrn (f := Kc) hic
   have hgK := Zrn (f := Z0.bool) (show i < keep.length by omega)
   have hlI := List.getElem?_eq_getElem hil
   have hcD : cols.getD i col0 = cols[i] := by rw [List.getD_eq_getElem?_getD, List.getElem?_eq_getElem hic]; rfl
   have hdK : keep.getD i false = keep[i] := by rw [List.getD_eq_getElem?_getD, List.getElem?_eq_getElem (by omega)]; rfl
   have hnx : i + 1 ≤ l.length := hil
   have round : ∀ (W' : List Int) (B' : List Bool), AskI l keep (wantF l cols n) (keyF l) (i + 1) 0 W' B' → Clean l cols keep n (i + 1) → ∀ Q : Z8i, AWp Try.prog Z1ch.n (.region Z1c5 [1, 2, 3, 10, 11, 12, 76, 77]) (Za5 I (l.length - i) Q)
     (fset 1 (some (.slc 5 (cols.map Kc) g)) (fset 2 (some (.int .i64 (n : Int))) (fset 3 (some (.slc 1 (keep.map .bool) f)) (fset 10 (some (.slc 8 (l.map encN) true)) (fset 11 (some (.arr 1 b11 0 l.length)) (fset 12 (some (.arr 1 b12 0 l.length)) (fset 76 (some (.int .i64 (l.length : Nat))) (fset 77 (some (.int .i64 (i : Nat))) Z28))))))))
     ((b12, Zb.cells 1 (B'.map .bool)) :: (b11, Zb.cells 1 (W'.map (.int .i64))) :: σ) := by
    intro W' B' hA' hC' Q
    refine Zb4 ?_
    repeat refine Kq rfl rfl rfl ?_
    rw [Kwr i (by omega)]
    (refine Z99 ?_; (repeat(first|refine Z9x rfl ?_|refine Z9y ?_)); refine Z9w ?_)
    refine ⟨_, l.length - (i + 1), HSub.refl _, ?_, by omega⟩
    rw [hI]
    exact ⟨i + 1, W', B', rfl, rfl, hnx, hA', hC', rfl⟩
   have hIn := hin cols[i] (List.getElem_mem hic)
   have hnok := hok l[i] (List.getElem_mem hil)
   have hnlen := (hT.nok i l[i] hlI).len
   have hft : faultF l cols keep n i = if keep.getD i false = true then wrongF l[i] (cols.getD i col0) (wantF l cols n i) (!(keyF l i)) else 0 := by rw [faultF, hlI]
   have hhit : faultF l cols keep n i ≠ 0 → bresF l cols keep t n = ([], faultF l cols keep n i) := fun h => Z1gm (Z1gl h hCl _ _ (Nat.zero_le _) (by omega)) h
   have hnx2 := fun (h : faultF l cols keep n i = 0) => hCl.next h
   have hkid := fun (hk : keep.getD i false = true) (j : Nat) (W : List Int) (B : List Bool) (h : AskI l keep (wantF l cols n) (keyF l) i j W B) (x : Nat) => Z1gp hT (fun j x hx => ⟨Z1gi hT hlI cols n hx, Z1ac hT hlI hx⟩) h hlI (x := x)
   have hnext := fun (j : Nat) (W : List Int) (B : List Bool) (h : AskI l keep (wantF l cols n) (keyF l) i j W B) => AskI.next hT h hlI (j := j)
   have hskip := fun (h : keep.getD i false = false) => AskI.skip hT hW hAI hlI h
   have hat := fun (h : keep.getD i false = true) => AskI.at hT hAI hlI h
   have hkx := hK.lt _ (List.getElem_mem hil)
   have hkn1 := hK.num _ (List.getElem_mem hil)
   rw [hcD] at hft
   rw [hcD] at hkid
   rw [hdK] at hft hkid hskip hat
   generalize l[i] = nd at hgN hft hkid hnext hkx hkn1 hnok hnlen
   generalize cols[i] = c at hgC hft hkid hIn
   generalize keep[i] = ki at hgK hft hkid hskip hat
   have hkn : (ints nd.kids).length = nd.kids.length := List.length_map ..
   (repeat(first|refine Kq rfl rfl rfl ?_|(refine Z99 ?_; (repeat(first|refine Z9x rfl ?_|refine Z9y ?_)); refine Z9w ?_)|refine Ks ?_|refine Zb1 (fun _ _ => rfl) ?_|refine Z8s ?_|refine Zb2 (fun _ _ => rfl) ?_))
   refine Z9d rfl (by omega) hgK ?_
   repeat refine Kq rfl rfl rfl ?_
   (refine Z99 ?_; (repeat(first|refine Z9x rfl ?_|refine Z9y ?_)); refine Z9w ?_)
   cases ki with
   | false =>
    refine Kc1 rfl ?_
    refine Zb3 (fun _ _ => rfl) ?_
    (refine Za0 (keep := [1, 2, 3, 10, 11, 12, 76, 77]) ?_; ((repeat(first|refine Z9x rfl ?_|refine Z9y ?_)); refine Z9w ?_))
    exact round W B (hskip rfl) (hnx2 (by rw [hft, if_neg (by simp)])) _
   | true =>
    obtain ⟨hw1, hw2⟩ := hat rfl
    rw [if_pos rfl] at hft
    have hwr := Z186 nd c (wantF l cols n i) (!keyF l i) hkn1 hnok hnlen hIn.here hIn.int hIn.text
    have hRt : wrongF nd c (wantF l cols n i) (!keyF l i) = 0 → Right nd c (wantF l cols n i) (!keyF l i) := fun h => Z18o hkn1 hnok hnlen hIn.here hIn.int h
    rw [← hft] at hwr hRt
    generalize faultF l cols keep n i = w at hwr hRt hhit hnx2
    have hwl : i < W.length := by rw [hAI.lw]; exact hil
    have hbl2 : i < B.length := by rw [hAI.lb]; exact hil
    have hgW : (W.map (Z0.int .i64))[0 + ((i : Nat) : Int).toNat]? = some (.int .i64 ((wantF l cols n i : Nat) : Int)) := by rw [Nat.zero_add, Int.toNat_natCast, List.getElem?_map, hw1]; rfl
    have hgB : (B.map Z0.bool)[0 + ((i : Nat) : Int).toNat]? = some (.bool (keyF l i)) := by rw [Nat.zero_add, Int.toNat_natCast, List.getElem?_map, hw2]; rfl
    refine Kc2 rfl ?_
    refine Zb2 (fun _ _ => rfl) ?_
    (refine Za0 (keep := [1, 2, 3, 10, 11, 12, 13, 76, 77]) ?_; ((repeat(first|refine Z9x rfl ?_|refine Z9y ?_)); refine Z9w ?_))
    rw [encN] at hgN hwr
    refine Ks ?_
    refine Ks ?_
    refine Zb1 (fun _ _ => rfl) ?_
    repeat refine Kq rfl rfl rfl ?_
    refine Z9d rfl (by omega) hgN ?_
    repeat refine Kq rfl rfl rfl ?_
    refine Z9d rfl (by omega) hgC ?_
    repeat refine Kq rfl rfl rfl ?_
    refine Z9e rfl ⟨by omega, by omega⟩ ?_
    refine Z9c rfl (Z9b hne Z9a) hgW rfl ?_
    repeat refine Kq rfl rfl rfl ?_
    refine Z9e rfl ⟨by omega, by omega⟩ ?_
    refine Z9c rfl Z9a hgB rfl ?_
    repeat refine Kq rfl rfl rfl ?_
    refine Z9v rfl (hwr _) ?_
    repeat refine Kq rfl rfl rfl ?_
    (refine Z99 ?_; (repeat(first|refine Z9x rfl ?_|refine Z9y ?_)); refine Z9w ?_)
    by_cases hw0 : w = 0
    rotate_left
    ·(repeat(first|refine Kq rfl rfl rfl ?_|(refine Z99 ?_; (repeat(first|refine Z9x rfl ?_|refine Z9y ?_)); refine Z9w ?_)|refine Ks ?_|refine Zb1 (fun _ _ => rfl) ?_))
     (rw [decide_eq_true (p := (w : Int) ≠ 0) (by omega)])
     (repeat(first|refine Kq rfl rfl rfl ?_|(refine Z99 ?_; (repeat(first|refine Z9x rfl ?_|refine Z9y ?_)); refine Z9w ?_)|refine Ks ?_|refine Zb1 (fun _ _ => rfl) ?_|refine Kc1 rfl ?_))
     refine Z8o ?_
     rw [hhit hw0]
     refine Zag (vs := [.slc 0 [] true, .int .i64 (w : Nat)]) rfl ?_ (HSub.of_sublist ((List.sublist_cons_self _ _).trans (List.sublist_cons_self _ _))) ⟨rfl, rfl⟩
     exact VRle.tup (VRle.cons (VRle.nilF _ _) (VRle.refl _))
    have hsm := (hRt hw0).sm
    have hAs := fun j σ => Zxs nd.t.kind j (Zmd nd) rfl rfl (Zxk nd) c hsm σ
    have hnx3 := hnx2 hw0
    (repeat(first|refine Kq rfl rfl rfl ?_|(refine Z99 ?_; (repeat(first|refine Z9x rfl ?_|refine Z9y ?_)); refine Z9w ?_)|refine Ks ?_|refine Zb1 (fun _ _ => rfl) ?_))
    (rw [decide_eq_false (p := (w : Int) ≠ 0) (by omega)])
    (repeat(first|refine Kq rfl rfl rfl ?_|refine Ks ?_|refine Zb1 (fun _ _ => rfl) ?_|refine Zb2 (fun _ _ => rfl) ?_|refine Kc2 rfl ?_))
    refine Z9d rfl (by omega) hgN ?_
    rw [Zmd] at hgN
    (repeat(first|refine Kq rfl rfl rfl ?_|(refine Z99 ?_; (repeat(first|refine Z9x rfl ?_|refine Z9y ?_)); refine Z9w ?_)|refine Z8s ?_))
    rw [hkn]
    refine Za6 (fun m F σ' => ∃ (j : Nat) (W : List Int) (B : List Bool), F = fset 1 (some (.slc 5 (cols.map Kc) g)) (fset 2 (some (.int .i64 (n : Int))) (fset 3 (some (.slc 1 (keep.map .bool) f)) (fset 10 (some (.slc 8 (l.map encN) true)) (fset 11 (some (.arr 1 b11 0 l.length)) (fset 12 (some (.arr 1 b12 0 l.length)) (fset 13 (some (.int .i64 (i : Nat))) (fset 76 (some (.int .i64 (l.length : Nat))) (fset 77 (some (.int .i64 (i : Nat))) (fset 110 (some (.slc 1 (ints nd.kids) true)) (fset 111 (some (.int .i64 (nd.kids.length : Nat))) (fset 112 (some (.int .i64 (j : Nat))) Z28))))))))))) ∧
     (b12, Zb.cells 1 (B.map .bool)) :: (b11, Zb.cells 1 (W.map (.int .i64))) :: σ = σ' ∧ j ≤ nd.kids.length ∧ AskI l keep (wantF l cols n) (keyF l) i j W B ∧ m = nd.kids.length - j) (n := nd.kids.length)
     ⟨0, W, B, rfl, rfl, by omega, hAI, by omega⟩ ?_
    rintro m1 F σ' ⟨j, W1, B1, rfl, rfl, hj, hAJ, rfl⟩
    (repeat(first|refine Kq rfl rfl rfl ?_|(refine Z99 ?_; (repeat(first|refine Z9x rfl ?_|refine Z9y ?_)); refine Z9w ?_)|refine Ks ?_|refine Zb1 (fun _ _ => rfl) ?_))
    refine Za2 (p := (j : Int) < (nd.kids.length : Nat)) rfl (fun h4 => ?_) (fun h4 => ?_)
    ·have hjl : j < nd.kids.length := by omega
     have hx : (ints nd.kids)[((j : Nat) : Int).toNat]? = some (.int .i64 ((nd.kids[j] : Nat) : Int)) := by rw [Int.toNat_natCast, ints, List.getElem?_map, List.getElem?_eq_getElem hjl]; rfl
     have hxlt := hkx _ (List.getElem_mem hjl)
     have hup := hkid rfl j W1 B1 hAJ nd.kids[j] (List.getElem?_eq_getElem hjl)
     generalize nd.kids[j] = x at hx hxlt hup
     have hWl := hAJ.lw
     have hBl := hAJ.lb
     have hwx : (W1.map (Z0.int .i64))[0 + (x : Int).toNat]? = some (.int .i64 W1[x]) := by
      rw [Nat.zero_add, Int.toNat_natCast, List.getElem?_map, List.getElem?_eq_getElem (by omega)]; rfl
     have hbx : (B1.map Z0.bool)[0 + (x : Int).toNat]? = some (.bool B1[x]) := by
      rw [Nat.zero_add, Int.toNat_natCast, List.getElem?_map, List.getElem?_eq_getElem (by omega)]; rfl
     have s1 : (W1.map (Z0.int .i64)).set (0 + (x : Int).toNat) (Z1t (.int .i64 W1[x]) 0 (Z0.int .i64 (askF nd.t.kind c (j : Int) : Nat)).cells) = (W1.set x (askF nd.t.kind c (j : Int) : Nat)).map (.int .i64) := by rw [Nat.zero_add, Int.toNat_natCast, List.map_set]; rfl
     have s2 : ∀ y : Bool, (B1.map Z0.bool).set (0 + (x : Int).toNat) (Z1t (.bool B1[x]) 0 (Z0.bool y).cells) = (B1.set x y).map .bool := fun y => by rw [Nat.zero_add, Int.toNat_natCast, List.map_set]; rfl
     have rest : ∀ y : Bool, y = (decide (nd.t.kind = 11) && decide (j = 0)) → ∀ Q : Z8i, AWp Try.prog Z1ch.n (.region Z1c3 [1, 2, 3, 10, 11, 12, 13, 76, 77, 110, 111, 112]) (Za5 (fun m F σ' => ∃ (j : Nat) (W : List Int) (B : List Bool), F = fset 1 (some (.slc 5 (cols.map Kc) g)) (fset 2 (some (.int .i64 (n : Int))) (fset 3 (some (.slc 1 (keep.map .bool) f)) (fset 10 (some (.slc 8 (l.map encN) true)) (fset 11 (some (.arr 1 b11 0 l.length)) (fset 12 (some (.arr 1 b12 0 l.length)) (fset 13 (some (.int .i64 (i : Nat))) (fset 76 (some (.int .i64 (l.length : Nat))) (fset 77 (some (.int .i64 (i : Nat))) (fset 110 (some (.slc 1 (ints nd.kids) true)) (fset 111 (some (.int .i64 (nd.kids.length : Nat))) (fset 112 (some (.int .i64 (j : Nat))) Z28))))))))))) ∧
        (b12, Zb.cells 1 (B.map .bool)) :: (b11, Zb.cells 1 (W.map (.int .i64))) :: σ = σ' ∧ j ≤ nd.kids.length ∧ AskI l keep (wantF l cols n) (keyF l) i j W B ∧ m = nd.kids.length - j) (nd.kids.length - j) Q)
       (fset 1 (some (.slc 5 (cols.map Kc) g)) (fset 2 (some (.int .i64 (n : Int))) (fset 3 (some (.slc 1 (keep.map .bool) f)) (fset 10 (some (.slc 8 (l.map encN) true)) (fset 11 (some (.arr 1 b11 0 l.length)) (fset 12 (some (.arr 1 b12 0 l.length)) (fset 13 (some (.int .i64 (i : Nat))) (fset 76 (some (.int .i64 (l.length : Nat))) (fset 77 (some (.int .i64 (i : Nat))) (fset 110 (some (.slc 1 (ints nd.kids) true)) (fset 111 (some (.int .i64 (nd.kids.length : Nat))) (fset 112 (some (.int .i64 (j : Nat))) Z28))))))))))))
       ((b12, Zb.cells 1 ((B1.set x y).map .bool)) :: (b11, Zb.cells 1 ((W1.set x (askF nd.t.kind c (j : Int) : Nat)).map (.int .i64))) :: σ) := by
      intro y hy Q
      subst hy
      refine Zb4 ?_
      repeat refine Kq rfl rfl rfl ?_
      rw [Kwr j (by omega)]
      (refine Z99 ?_; (repeat(first|refine Z9x rfl ?_|refine Z9y ?_)); refine Z9w ?_)
      exact ⟨_, nd.kids.length - (j + 1), HSub.refl _, ⟨j + 1, _, _, rfl, rfl, by omega, hup, rfl⟩, by omega⟩
     (repeat(first|refine Kq rfl rfl rfl ?_|refine Ks ?_|refine Zb1 (fun _ _ => rfl) ?_|refine Z8s ?_|refine Zb2 (fun _ _ => rfl) ?_))
     refine Z9d rfl (by omega) hx ?_
     (repeat(first|refine Kq rfl rfl rfl ?_|(refine Z99 ?_; (repeat(first|refine Z9x rfl ?_|refine Z9y ?_)); refine Z9w ?_)|refine Ks ?_|refine Zb1 (fun _ _ => rfl) ?_))
     refine Z9d rfl (by omega) hgN ?_
     repeat refine Kq rfl rfl rfl ?_
     refine Z9d rfl (by omega) hgC ?_
     repeat refine Kq rfl rfl rfl ?_
     refine Z9v rfl (hAs _ _) ?_
     refine Z9e rfl ⟨by omega, by omega⟩ ?_
     refine Z9g rfl (Z9b hne Z9a) hwx (by decide) (Kfi rfl) (fun _ => ⟨rfl, rfl⟩) (Z9i hne Z9h) ?_
     rw [s1]
     (refine Z99 ?_; (repeat(first|refine Z9x rfl ?_|refine Z9y ?_)); refine Z9w ?_)
     refine Zb1 (fun _ _ => rfl) ?_
     repeat refine Kq rfl rfl rfl ?_
     refine Z9d rfl (by omega) hgN ?_
     repeat refine Kq rfl rfl rfl ?_
     by_cases k11 : nd.t.kind = 11
     ·(rw [decide_eq_true (p := nd.t.kind = 11) (by omega)])
      by_cases j0 : j = 0
      ·(repeat(first|refine Kq rfl rfl rfl ?_|refine Z96 rfl (Kq rfl rfl rfl ?_)))
       (rw [decide_eq_true (p := (j : Int) = 0) (by omega)])
       skip
       refine Z9e rfl ⟨by omega, by omega⟩ ?_
       refine Z9g (v := .bool true) rfl Z9a hbx (by decide) (Kfi rfl) (fun _ => ⟨rfl, rfl⟩) Z9h ?_
       rw [s2]
       (refine Z99 ?_; (repeat(first|refine Z9x rfl ?_|refine Z9y ?_)); refine Z9w ?_)
       exact rest true (by simp [k11, j0]) _
      ·(repeat(first|refine Kq rfl rfl rfl ?_|refine Z96 rfl (Kq rfl rfl rfl ?_)))
       (rw [decide_eq_false (p := (j : Int) = 0) (by omega)])
       skip
       refine Z9e rfl ⟨by omega, by omega⟩ ?_
       refine Z9g (v := .bool false) rfl Z9a hbx (by decide) (Kfi rfl) (fun _ => ⟨rfl, rfl⟩) Z9h ?_
       rw [s2]
       (refine Z99 ?_; (repeat(first|refine Z9x rfl ?_|refine Z9y ?_)); refine Z9w ?_)
       exact rest false (by simp [j0]) _
     ·(rw [decide_eq_false (p := nd.t.kind = 11) (by omega)])
      (repeat(first|refine Kq rfl rfl rfl ?_|refine Z97 rfl ?_))
      refine Z9e rfl ⟨by omega, by omega⟩ ?_
      refine Z9g (v := .bool false) rfl Z9a hbx (by decide) (Kfi rfl) (fun _ => ⟨rfl, rfl⟩) Z9h ?_
      rw [s2]
      (refine Z99 ?_; (repeat(first|refine Z9x rfl ?_|refine Z9y ?_)); refine Z9w ?_)
      exact rest false (by simp [k11]) _
    ·refine Zb3 (fun _ _ => rfl) ?_
     (refine Za0 (keep := [1, 2, 3, 10, 11, 12, 76, 77]) ?_; ((repeat(first|refine Z9x rfl ?_|refine Z9y ?_)); refine Z9w ?_))
     exact round W1 B1 (hnext j W1 B1 hAJ (by omega)) hnx3 _
  have hCl2 : Clean l cols keep n l.length := by rw [show l.length = i by omega]; exact hCl
  obtain ⟨hA, hC⟩ := Z1go hT hK hok hn0 (fun i hk => by
   by_cases hi : i < cols.length
   ·rw [List.getD_eq_getElem?_getD, List.getElem?_eq_getElem hi]; exact hin _ (List.getElem_mem hi)
   ·rw [List.getD_eq_getElem?_getD, List.getElem?_eq_none (by omega)]
    exact ⟨by simp [col0], by simp [col0], by simp [col0]⟩) hclen hCl2
  have hff := Z1gk l.length 0 (f := faultF l cols keep n) (fun x hx => hCl2 x (by omega))
  obtain ⟨VS, sE, hR⟩ := Z1bh hT hA hW hn0 (by rw [hn0t]; exact hcnt) hk0
  rw [hn0t] at hR
  rw [Z1gn hff hR]
  refine Zb3 (fun _ _ => rfl) ?_
  (refine Za0 (keep := [1, 2, 3, 10]) ?_; ((repeat(first|refine Z9x rfl ?_|refine Z9y ?_)); refine Z9w ?_))
  refine Z8l (FSub.refl _) (HSub.of_sublist ((List.sublist_cons_self _ _).trans (List.sublist_cons_self _ _))) ?_
  have hrA : ∀ m : Nat, List.replicate ((m : Nat) : Int).toNat (Z0.int .i64 0) = ints (List.replicate m 0) := fun m => by rw [Int.toNat_natCast, ints, List.map_replicate]; rfl
  refine Za1 ?_
  repeat refine Kq rfl rfl rfl ?_
  rw [hll]
  refine Z9p rfl (Kfi rfl) (by omega) (by omega) (by omega) (by omega) fun ba hba => ?_
  repeat refine Kq rfl rfl rfl ?_
  rw [hll]
  refine Z9p rfl (Kfi rfl) (by omega) (by omega) (by omega) (by omega) fun bh hbh => ?_
  have hab : ba ≠ bh := fun e => hbh (by rw [← e]; simp [Zh])
  rw [hrA, Int.toNat_natCast]
  repeat refine Kq rfl rfl rfl ?_
  refine Z9n rfl (Kfi rfl) fun bs hbs => ?_
  repeat refine Kq rfl rfl rfl ?_
  (refine Z99 ?_; (repeat(first|refine Z9x rfl ?_|refine Z9y ?_)); refine Z9w ?_)
  refine Zaj (d := 17) (cs := Z19a l cols keep g f ba bh) rfl ?_
  (refine Za0 (keep := [2, 3, 10, 17]) ?_; ((repeat(first|refine Z9x rfl ?_|refine Z9y ?_)); refine Z9w ?_))
  (repeat(first|refine Kq rfl rfl rfl ?_|refine Ks ?_|refine Zb1 (fun _ _ => rfl) ?_))
  refine Z9v rfl (Z190 l hK keep hkl hW true f _) ?_
  (repeat(first|refine Kq rfl rfl rfl ?_|(refine Z99 ?_; (repeat(first|refine Z9x rfl ?_|refine Z9y ?_)); refine Z9w ?_)|refine Ks ?_|refine Zb1 (fun _ _ => rfl) ?_|refine Zb2 (fun _ _ => rfl) ?_|refine Kc2 rfl ?_))
  refine Z9p rfl (Kfi rfl) (by omega) (by omega) (by omega) (by omega) fun bo hbo => ?_
  have hoa : bo ≠ ba := fun e => hbo (by rw [e]; simp [Zh])
  have hoh : bo ≠ bh := fun e => hbo (by rw [e]; simp [Zh])
  (repeat(first|refine Kq rfl rfl rfl ?_|(refine Z99 ?_; (repeat(first|refine Z9x rfl ?_|refine Z9y ?_)); refine Z9w ?_)|refine Ks ?_|refine Zb1 (fun _ _ => rfl) ?_|refine Z8s ?_))
  refine Za6 (fun m F σ' => ∃ (i : Nat) (s : Tk) (us : List Vl) (bo : Nat), F = fset 17 (some (.iptr (Z19a l cols keep g f ba bh))) (fset 18 (some (.arr 5 bo 0 (Zmg us).length)) (fset 162 (some (.int .i64 (n : Int))) (fset 163 (some (.int .i64 (i : Nat))) Z28))) ∧
   (bo, Zb.cells 5 (Zmg us)) :: (bh, Zb.cells 1 (ints s.he)) :: (ba, Zb.cells 1 (ints s.at_)) :: σ = σ' ∧ bo ≠ ba ∧ bo ≠ bh ∧ s.sz l.length ∧ i ≤ n ∧ us.length = i ∧ (∃ ws, takeR cols keep t (n - i) s = some (ws, sE) ∧ us ++ ws = VS) ∧ m = n - i) (n := n)
   ⟨0, ⟨List.replicate l.length 0, List.replicate l.length 0⟩, [], bo, rfl, rfl, hoa, hoh, ⟨List.length_replicate, List.length_replicate⟩, by omega, rfl, ⟨VS, hR, rfl⟩, by omega⟩ ?_
  rintro m0 F σ' ⟨i, s, us, bo', rfl, rfl, hoa', hoh', hsz, hi, hul, ⟨ws, hw, hVS⟩, rfl⟩
  (repeat(first|refine Kq rfl rfl rfl ?_|(refine Z99 ?_; (repeat(first|refine Z9x rfl ?_|refine Z9y ?_)); refine Z9w ?_)|refine Ks ?_|refine Zb1 (fun _ _ => rfl) ?_))
  refine Za2 (p := (i : Int) < (n : Int)) rfl (fun h3 => ?_) (fun h3 => ?_)
  ·have hin : i < n := by omega
   rw [show n - i = (n - (i + 1)) + 1 by omega, takeR] at hw
   split at hw
   ·cases hw
   rename_i v s1 ht1
   split at hw
   ·cases hw
   rename_i vs s2 hw2
   simp only [Option.some.injEq, Prod.mk.injEq] at hw
   obtain ⟨rfl, rfl⟩ := hw
   have hs1 := Z18s cols keep l.length _ _ _ _ _ ht1 hsz
   have hcall := Z19b hT hK hC hkl hW g f ba bh hab t 0 n0 hn0 hn0t hk0 s s1 v hsz ht1 ((bo', Zb.cells 5 (Zmg us)) :: (bh, Zb.cells 1 (ints s.he)) :: (ba, Zb.cells 1 (ints s.at_)) :: σ)
    (Z9b hoa' (Z9b (fun e => hab e.symm) Z9a)) (Z9b hoh' Z9a)
   have hHS : HS ((bo', Zb.cells 5 (Zmg us)) :: (bh, Zb.cells 1 (ints s.he)) :: (ba, Zb.cells 1 (ints s.at_)) :: σ) ba bh s1 = (bo', Zb.cells 5 (Zmg us)) :: (bh, Zb.cells 1 (ints s1.he)) :: (ba, Zb.cells 1 (ints s1.at_)) :: σ := by
    rw [Z195 hoa' hoh']
    unfold HS
    rw [Z9i (fun e => hab e.symm) Z9h, Z9h]
   rw [hHS, Zmi] at hcall
   have heA : Zmg us ++ [Z0.agg (Zmh v)] = Zmg (us ++ [v]) := by rw [Zmj, Zmj, List.map_append, ← Zmi]; rfl
   refine Zb2 (fun _ _ => rfl) ?_
   refine Ks ?_
   refine Z8s ?_
   refine Zb1 (fun _ _ => rfl) ?_
   repeat refine Kq rfl rfl rfl ?_
   refine Z9v rfl hcall ?_
   repeat refine Kq rfl rfl rfl ?_
   refine Zb6 (β := [(bo', Zb.cells 5 (Zmg us))]) (xs := Zmg us) (ys := [.agg (Zmh v)]) Zb5.mk rfl rfl (by rw [Zmk, List.length_singleton]; omega) fun b' hb' => ?_
   have hb1 : b' ≠ ba := fun e => hb' (by rw [e]; simp [Zh])
   have hb2 : b' ≠ bh := fun e => hb' (by rw [e]; simp [Zh])
   rw [heA]
   repeat refine Kq rfl rfl rfl ?_
   (refine Z99 ?_; (repeat(first|refine Z9x rfl ?_|refine Z9y ?_)); refine Z9w ?_)
   refine Zb4 ?_
   repeat refine Kq rfl rfl rfl ?_
   rw [Kwr i (by omega)]
   (refine Z99 ?_; (repeat(first|refine Z9x rfl ?_|refine Z9y ?_)); refine Z9w ?_)
   exact ⟨_, n - (i + 1), HSub.refl _, ⟨i + 1, s1, us ++ [v], b', rfl, rfl, hb1, hb2, hs1, by omega, by rw [List.length_append, List.length_singleton, hul], ⟨vs, hw2, by rw [List.append_assoc]; exact hVS⟩, rfl⟩, by omega⟩
  ·rw [show n - i = 0 by omega, takeR] at hw
   simp only [Option.some.injEq, Prod.mk.injEq] at hw
   obtain ⟨rfl, rfl⟩ := hw
   rw [List.append_nil] at hVS
   subst hVS
   (repeat(first|refine Kq rfl rfl rfl ?_|(refine Z99 ?_; (repeat(first|refine Z9x rfl ?_|refine Z9y ?_)); refine Z9w ?_)|refine Ks ?_|refine Zb1 (fun _ _ => rfl) ?_|refine Zb3 (fun _ _ => rfl) ?_))
   refine Zai (d := 8) (xs := Zmg us) rfl ?_
   refine Z8o ?_
   exact ares rfl (HSub.of_sublist ((List.sublist_cons_self _ _).trans (List.sublist_cons_self _ _))) ⟨rfl, rfl⟩
 rcases hkb with ⟨rfl, hkr⟩ | ⟨hkr, hne⟩
 ·rw [show decide ((0 : Int) < (([] : List Bool).length : Nat)) = false from rfl]
  (repeat(first|refine Kq rfl rfl rfl ?_|refine Z96 rfl (Kq rfl rfl rfl ?_)|refine Z97 rfl ?_|refine Z98 rfl ?_))
  (refine Z99 ?_; (repeat(first|refine Z9x rfl ?_|refine Z9y ?_)); refine Z9w ?_)
  refine Kc2 rfl ?_
  refine Za3 ?_
  (repeat(first|refine Kq rfl rfl rfl ?_|(refine Z99 ?_; (repeat(first|refine Z9x rfl ?_|refine Z9y ?_)); refine Z9w ?_)|refine Ks ?_|refine Zb1 (fun _ _ => rfl) ?_|refine Kc1 rfl ?_))
  rw [hll]
  refine Z9v rfl (Z18z l.length (by omega) (by omega) true _) ?_
  repeat refine Kq rfl rfl rfl ?_
  (refine Z99 ?_; (repeat(first|refine Z9x rfl ?_|refine Z9y ?_)); refine Z9w ?_)
  subst hkr
  have := main false
  rw [List.map_replicate] at this
  exact this
 ·subst hkr
  have hk1 : 0 < keep.length := by omega
  have hg0 : (keep.map Z0.bool)[(0 : Int).toNat]? = some (.bool true) := by
   have h := List.getElem?_eq_getElem hk1
   rw [List.getD_eq_getElem?_getD, h, Option.getD_some] at hk0
   show (keep.map Z0.bool)[0]? = _
   rw [List.getElem?_map, h, hk0]; rfl
  (rw [decide_eq_true (p := (0 : Int) < (keep.length : Nat)) (by omega)])
  (repeat refine Z96 rfl (Kq rfl rfl rfl ?_))
  rw [hbl, hll]
  (rw [decide_eq_false (p := (keep.length : Int) ≠ (l.length : Int)) (by omega)])
  (repeat refine Z96 rfl (Kq rfl rfl rfl ?_))
  refine Z96 rfl (Z9d rfl (by omega) hg0 ?_)
  (repeat(first|refine Kq rfl rfl rfl ?_|refine Z96 rfl (Kq rfl rfl rfl ?_)))
  (refine Z99 ?_; (repeat(first|refine Z9x rfl ?_|refine Z9y ?_)); refine Z9w ?_)
  refine Kc2 rfl ?_
  refine Za3 ?_
  refine Ks ?_
  refine Ks ?_
  refine Zb1 (fun _ _ => rfl) ?_
  repeat refine Kq rfl rfl rfl ?_
  rw [hbl]
  (rw [decide_eq_false (p := (keep.length : Int) = 0) (by omega)])
  (refine Z99 ?_; (repeat(first|refine Z9x rfl ?_|refine Z9y ?_)); refine Z9w ?_)
  refine Kc2 rfl ?_
  refine Zb2 (fun _ _ => rfl) ?_
  (refine Za0 (keep := [1, 2, 3, 10]) ?_; ((repeat(first|refine Z9x rfl ?_|refine Z9y ?_)); refine Z9w ?_))
  exact main f
end Go.Abs
namespace Go.Abs
open Go Go.Proofs
attribute [local irreducible] AWp aops KP
theorem Z1gr {n : Nd} (hkidl : n.kids.length = n.t.kids.length) (b : List UInt8) : vchk (tyK n) (.mk false 0 0 b []) = vchk n.t (.mk false 0 0 b []) := by
 have e : ownV (tyK n) 0 0 b ([] : List Vl).length = ownV n.t 0 0 b ([] : List Vl).length := by
  unfold ownV
  rw [Z18m, hkidl]; rfl
 rw [vchk, vchk, e]
 simp only [Zmr]
theorem Z1gs {n : Nd} (hkidl : n.kids.length = n.t.kids.length) (hi : intF n.t.kind = true) (v m : Int) (hm : n.t.kind ≠ 9 → m = 0) : Z17x (tyK n) v m = Zmp n.t.kind n.t.kids.length n.t.prec v m := by
 rw [Z18n hkidl hi]
 split
 ·rename_i h
  rw [hm (by omega), h]
  simp [Zmp]
 ·rfl
theorem Z1gt (n : Nd) (c : Col) (count : Nat) (root key : Bool) (htok : n.t.Ok) (hkidl : n.kids.length = n.t.kids.length) (hsm0 : c.here.length ≤ 16384)
  (hint : ∀ v ∈ c.ints, -9223372036854775808 ≤ v ∧ v ≤ 9223372036854775807) (htx : ∀ b ∈ c.texts, b.length ≤ 9223372036854775807) (σ : Zc) : Z1s Try.prog Zef [encT n.t, Kc c, .int .i64 count, .bool root, .bool key] σ fun r σ' => r = .int .i64 (wrongF n c count (!(root || key)) : Nat) ∧ σ' = σ := by
 have hle : Zxn c ≤ 16384 := Nat.le_trans List.count_le_length hsm0
 have hHere := Zxq c (by omega)
 have el : ∀ {α : Type} (f : α → Z0) (l : List α), (l.map f).length = l.length := fun f l => List.length_map ..
 have hTxt := Zmx n.t.kind
 have hTx : ∀ b ∈ c.texts, ∀ σ, Z1s Try.prog Zco [.agg (Zlz n.t), .agg (Zmh (.mk false 0 0 b []))] σ fun r σ' => r = .int .i64 (vchk (tyK n) (.mk false 0 0 b []) : Nat) ∧ σ' = σ := by
  intro b hb
  have := Zqx (.mk false 0 0 b []) (.mk (by simp [Vl.i]) (by have := htx b hb; simp only [Vl.b]; omega) (by simp [Vl.kids]) (by simp [Vl.kids])) n.t htok
  rw [Zm0, Zmi] at this
  rw [Z1gr hkidl]
  exact this
 have hNu : ∀ (i : Nat) v, c.ints[i]? = some v → ∀ m σ, Z1s Try.prog Zdy [.agg (Zlz n.t), .int .i64 v, .int .i64 m] σ fun r σ' => r = .bool (Zmp n.t.kind n.t.kids.length n.t.prec v m) ∧ σ' = σ := by
  intro i v hv m
  have h := hint v (List.mem_of_getElem? hv)
  have := Zn4 n.t v m h.1 h.2
  rw [Zm0] at this
  exact this
 rw [Zm0]
 have main2 : ∀ (I N T L : Nat), I = (if intF n.t.kind = true then Zxn c else 0) → N = (if n.t.kind = 9 then Zxn c else 0) → T = (if Zmm n.t.kind = true then Zxn c else 0) → L = (if lenF n.t.kind = true then Zxn c else 0) →
   AWp Try.prog Z1eq.n (Z1eq.code.snd 8) (ARet Z1eq.res fun r σ' => r = .int .i64 (wrongF n c count (!(root || key)) : Nat) ∧ σ' = σ)
    (fset 2 (some (.int .i64 (count : Nat))) (fset 3 (some (.bool root)) (fset 4 (some (.bool key)) (fset 5 (some (.iptr (Zlz n.t))) (fset 6 (some (.iptr (Zrl c))) (fset 11 (some (.int .i64 (Zxn c : Nat))) (fset 12 (some (.int .i64 (I : Nat))) (fset 13 (some (.int .i64 (N : Nat))) (fset 14 (some (.int .i64 (T : Nat))) (fset 15 (some (.int .i64 (L : Nat))) Z28)))))))))) σ := by
  intro I N T L hI hN hT hL
  have hIl : I ≤ Zxn c := by rw [hI]; split <;> omega
  have hNl : N ≤ Zxn c := by rw [hN]; split <;> omega
  have hTl : T ≤ Zxn c := by rw [hT]; split <;> omega
  have hLl : L ≤ Zxn c := by rw [hL]; split <;> omega
  (repeat(first|refine Kq rfl rfl rfl ?_|refine Ks ?_|refine Zb1 (fun _ _ => rfl) ?_))
  rw [el]
  by_cases s0 : c.here.length = count
  rotate_left
  ·(rw [decide_eq_true (p := (c.here.length : Int) ≠ (count : Int)) (by omega)])
   (repeat(first|refine Kq rfl rfl rfl ?_|refine Z97 rfl ?_|(refine Z99 ?_; (repeat(first|refine Z9x rfl ?_|refine Z9y ?_)); refine Z9w ?_)|refine Ks ?_|refine Zb1 (fun _ _ => rfl) ?_|refine Kc1 rfl ?_))
   refine Z8o ?_
   rw [Z181 (fun h => s0 h.here)]
   exact Kar rfl ⟨rfl, rfl⟩
  (rw [decide_eq_false (p := (c.here.length : Int) ≠ (count : Int)) (by omega)])
  (repeat(first|refine Kq rfl rfl rfl ?_|refine Z96 rfl (Kq rfl rfl rfl ?_)))
  rw [el]
  by_cases s_ints : c.ints.length = I
  rotate_left
  ·(rw [decide_eq_true (p := (c.ints.length : Int) ≠ (I : Int)) (by omega)])
   (repeat(first|refine Kq rfl rfl rfl ?_|refine Z97 rfl ?_|(refine Z99 ?_; (repeat(first|refine Z9x rfl ?_|refine Z9y ?_)); refine Z9w ?_)|refine Ks ?_|refine Zb1 (fun _ _ => rfl) ?_|refine Kc1 rfl ?_))
   refine Z8o ?_
   rw [Z181 (fun h => s_ints (by have := h.ints; rw [hI]; by_cases k9 : intF n.t.kind = true <;> simp [k9] at this ⊢ <;> omega))]
   exact Kar rfl ⟨rfl, rfl⟩
  (rw [decide_eq_false (p := (c.ints.length : Int) ≠ (I : Int)) (by omega)])
  (repeat(first|refine Kq rfl rfl rfl ?_|refine Z96 rfl (Kq rfl rfl rfl ?_)))
  rw [el]
  by_cases s_ns : c.ns.length = N
  rotate_left
  ·(rw [decide_eq_true (p := (c.ns.length : Int) ≠ (N : Int)) (by omega)])
   (repeat(first|refine Kq rfl rfl rfl ?_|refine Z97 rfl ?_|(refine Z99 ?_; (repeat(first|refine Z9x rfl ?_|refine Z9y ?_)); refine Z9w ?_)|refine Ks ?_|refine Zb1 (fun _ _ => rfl) ?_|refine Kc1 rfl ?_))
   refine Z8o ?_
   rw [Z181 (fun h => s_ns (by have := h.ns; rw [hN]; by_cases k9 : n.t.kind = 9 <;> simp [k9] at this ⊢ <;> omega))]
   exact Kar rfl ⟨rfl, rfl⟩
  (rw [decide_eq_false (p := (c.ns.length : Int) ≠ (N : Int)) (by omega)])
  (repeat(first|refine Kq rfl rfl rfl ?_|refine Z96 rfl (Kq rfl rfl rfl ?_)))
  rw [el]
  by_cases s_texts : c.texts.length = T
  rotate_left
  ·(rw [decide_eq_true (p := (c.texts.length : Int) ≠ (T : Int)) (by omega)])
   (repeat(first|refine Kq rfl rfl rfl ?_|refine Z97 rfl ?_|(refine Z99 ?_; (repeat(first|refine Z9x rfl ?_|refine Z9y ?_)); refine Z9w ?_)|refine Ks ?_|refine Zb1 (fun _ _ => rfl) ?_|refine Kc1 rfl ?_))
   refine Z8o ?_
   rw [Z181 (fun h => s_texts (by have := h.texts; rw [hT]; by_cases k9 : Zmm n.t.kind = true <;> simp [k9] at this ⊢ <;> omega))]
   exact Kar rfl ⟨rfl, rfl⟩
  (rw [decide_eq_false (p := (c.texts.length : Int) ≠ (T : Int)) (by omega)])
  (repeat(first|refine Kq rfl rfl rfl ?_|refine Z96 rfl (Kq rfl rfl rfl ?_)))
  rw [el]
  by_cases s_lens : c.lens.length = L
  rotate_left
  ·(rw [decide_eq_true (p := (c.lens.length : Int) ≠ (L : Int)) (by omega)])
   (repeat(first|refine Kq rfl rfl rfl ?_|(refine Z99 ?_; (repeat(first|refine Z9x rfl ?_|refine Z9y ?_)); refine Z9w ?_)|refine Ks ?_|refine Zb1 (fun _ _ => rfl) ?_|refine Kc1 rfl ?_))
   refine Z8o ?_
   rw [Z181 (fun h => s_lens (by have := h.lens; rw [hL]; by_cases k9 : lenF n.t.kind = true <;> simp [k9] at this ⊢ <;> omega))]
   exact Kar rfl ⟨rfl, rfl⟩
  (rw [decide_eq_false (p := (c.lens.length : Int) ≠ (L : Int)) (by omega)])
  have hSz : Z180 n c count := by
   refine ⟨s0, ?_, ?_, ?_, ?_⟩
   ·rw [s_ints, hI]; split <;> rfl
   ·rw [s_ns, hN]; simp only [decide_eq_true_eq]; split <;> rfl
   ·rw [s_texts, hT]; split <;> rfl
   ·rw [s_lens, hL]; split <;> rfl
  have hsm := hSz.sm hsm0
  obtain ⟨l1, l2, l3, l4, l5⟩ := hsm
  (repeat(first|refine Kq rfl rfl rfl ?_|(refine Z99 ?_; (repeat(first|refine Z9x rfl ?_|refine Z9y ?_)); refine Z9w ?_)|refine Ks ?_|refine Zb1 (fun _ _ => rfl) ?_|refine Z8s ?_|refine Zb2 (fun _ _ => rfl) ?_|refine Kc2 rfl ?_))
  refine Za6 (fun m F σ' => ∃ i : Nat, F = fset 2 (some (.int .i64 (count : Nat))) (fset 3 (some (.bool root)) (fset 4 (some (.bool key)) (fset 5 (some (.iptr (Zlz n.t))) (fset 6 (some (.iptr (Zrl c))) (fset 11 (some (.int .i64 (Zxn c : Nat))) (fset 12 (some (.int .i64 (I : Nat))) (fset 13 (some (.int .i64 (N : Nat))) (fset 14 (some (.int .i64 (T : Nat))) (fset 15 (some (.int .i64 (L : Nat))) (fset 16 (some (.int .i64 (i : Nat))) Z28)))))))))) ∧ σ = σ' ∧ i ≤ I ∧ (∀ (j : Nat) v, j < i → c.ints[j]? = some v → Z17x (tyK n) v (nanoF n c j) = true) ∧ m = I - i) (n := I)
   ⟨0, rfl, rfl, by omega, fun j v h => by omega, by omega⟩ ?_
  rintro m F σ' ⟨i, rfl, rfl, hi, hgd, rfl⟩
  (repeat(first|refine Kq rfl rfl rfl ?_|(refine Z99 ?_; (repeat(first|refine Z9x rfl ?_|refine Z9y ?_)); refine Z9w ?_)|refine Ks ?_|refine Zb1 (fun _ _ => rfl) ?_))
  refine Za2 (p := (i : Int) < (I : Nat)) rfl (fun h3 => ?_) (fun h3 => ?_)
  ·have hil : i < c.ints.length := by omega
   have hint : intF n.t.kind = true := by
    cases e : intF n.t.kind with
    | true => rfl
    | false => rw [e] at hI; simp at hI; omega
   have hx := Zrn (f := Z0.int .i64) hil
   have hvi := List.getElem?_eq_getElem hil
   have hn := hNu i c.ints[i] hvi
   have hnk := Z1gs hkidl hint c.ints[i]
   have hnx : Z17x (tyK n) c.ints[i] (nanoF n c i) = true → ∀ (j : Nat) v, j < i + 1 → c.ints[j]? = some v → Z17x (tyK n) v (nanoF n c j) = true := fun h j v hj hv => by
    by_cases e : j = i
    ·subst e
     rw [hvi] at hv
     cases hv
     exact h
    ·exact hgd j v (by omega) hv
   have hbad : Z17x (tyK n) c.ints[i] (nanoF n c i) = false → wrongF n c count (!(root || key)) = 2 := fun h => Z182 hSz fun hh => by rw [hh i _ hvi] at h; cases h
   generalize c.ints[i] = v at hx hn hnx hbad hnk
   by_cases k9 : n.t.kind = 9
   ·rw [if_pos k9] at hN
    rw [if_pos hint] at hI
    have hin : i < c.ns.length := by omega
    have hy := Zrn (f := Z0.int .i64) hin
    have e9 : nanoF n c i = c.ns[i] := by rw [nanoF, if_pos k9, List.getD_eq_getElem?_getD, List.getElem?_eq_getElem hin, Option.getD_some]
    rw [e9] at hnx hbad
    have hn := hn c.ns[i]
    rw [← hnk _ (fun h => absurd k9 h)] at hn
    generalize c.ns[i] = y at hy hn hnx hbad
    generalize Z17x (tyK n) v y = z at hn hnx hbad
    (repeat(first|refine Kq rfl rfl rfl ?_|(refine Z99 ?_; (repeat(first|refine Z9x rfl ?_|refine Z9y ?_)); refine Z9w ?_)|refine Ks ?_|refine Zb1 (fun _ _ => rfl) ?_|refine Z8s ?_|refine Zb2 (fun _ _ => rfl) ?_))
    (rw [decide_eq_true (p := (N : Int) > 0) (by omega)])
    (repeat(first|refine Kq rfl rfl rfl ?_|refine Zb1 (fun _ _ => rfl) ?_|refine Kc1 rfl ?_))
    refine Z9d rfl (by omega) hy ?_
    (repeat(first|refine Kq rfl rfl rfl ?_|(refine Z99 ?_; (repeat(first|refine Z9x rfl ?_|refine Z9y ?_)); refine Z9w ?_)|refine Ks ?_|refine Zb1 (fun _ _ => rfl) ?_))
    refine Z9d rfl (by omega) hx ?_
    (repeat refine Kq rfl rfl rfl ?_)
    refine Z9v rfl (hn _) ?_
    cases z with
    | false =>
     (repeat(first|refine Kq rfl rfl rfl ?_|(refine Z99 ?_; (repeat(first|refine Z9x rfl ?_|refine Z9y ?_)); refine Z9w ?_)|refine Ks ?_|refine Zb1 (fun _ _ => rfl) ?_|refine Kc1 rfl ?_))
     refine Z8o ?_
     rw [hbad rfl]
     exact Kar rfl ⟨rfl, rfl⟩
    | true =>
     (repeat(first|refine Kq rfl rfl rfl ?_|(refine Z99 ?_; (repeat(first|refine Z9x rfl ?_|refine Z9y ?_)); refine Z9w ?_)|refine Zb2 (fun _ _ => rfl) ?_|refine Kc2 rfl ?_))
     refine Zb4 ?_
     repeat refine Kq rfl rfl rfl ?_
     rw [Kwr i (by omega)]
     (refine Z99 ?_; (repeat(first|refine Z9x rfl ?_|refine Z9y ?_)); refine Z9w ?_)
     exact ⟨_, I - (i + 1), HSub.refl _, ⟨i + 1, rfl, rfl, by omega, hnx rfl, rfl⟩, by omega⟩
   ·rw [if_neg k9] at hN
    have e9 : nanoF n c i = 0 := by rw [nanoF, if_neg k9]
    rw [e9] at hnx hbad
    have hn := hn 0
    rw [← hnk _ (fun _ => rfl)] at hn
    generalize Z17x (tyK n) v 0 = z at hn hnx hbad
    (repeat(first|refine Kq rfl rfl rfl ?_|(refine Z99 ?_; (repeat(first|refine Z9x rfl ?_|refine Z9y ?_)); refine Z9w ?_)|refine Ks ?_|refine Zb1 (fun _ _ => rfl) ?_|refine Z8s ?_|refine Zb2 (fun _ _ => rfl) ?_))
    (rw [decide_eq_false (p := (N : Int) > 0) (by omega)])
    (repeat(first|refine Kq rfl rfl rfl ?_|refine Ks ?_|refine Zb1 (fun _ _ => rfl) ?_|refine Zb2 (fun _ _ => rfl) ?_|refine Kc2 rfl ?_))
    refine Z9d rfl (by omega) hx ?_
    (repeat refine Kq rfl rfl rfl ?_)
    refine Z9v rfl (hn _) ?_
    cases z with
    | false =>
     (repeat(first|refine Kq rfl rfl rfl ?_|(refine Z99 ?_; (repeat(first|refine Z9x rfl ?_|refine Z9y ?_)); refine Z9w ?_)|refine Ks ?_|refine Zb1 (fun _ _ => rfl) ?_|refine Kc1 rfl ?_))
     refine Z8o ?_
     rw [hbad rfl]
     exact Kar rfl ⟨rfl, rfl⟩
    | true =>
     (repeat(first|refine Kq rfl rfl rfl ?_|(refine Z99 ?_; (repeat(first|refine Z9x rfl ?_|refine Z9y ?_)); refine Z9w ?_)|refine Zb2 (fun _ _ => rfl) ?_|refine Kc2 rfl ?_))
     refine Zb4 ?_
     repeat refine Kq rfl rfl rfl ?_
     rw [Kwr i (by omega)]
     (refine Z99 ?_; (repeat(first|refine Z9x rfl ?_|refine Z9y ?_)); refine Z9w ?_)
     exact ⟨_, I - (i + 1), HSub.refl _, ⟨i + 1, rfl, rfl, by omega, hnx rfl, rfl⟩, by omega⟩
  have hIn : ∀ (j : Nat) v, c.ints[j]? = some v → Z17x (tyK n) v (nanoF n c j) = true := fun j v hv => hgd j v (by have := (List.getElem?_eq_some_iff.1 hv).1; omega) hv
  (repeat(first|refine Kq rfl rfl rfl ?_|(refine Z99 ?_; (repeat(first|refine Z9x rfl ?_|refine Z9y ?_)); refine Z9w ?_)|refine Ks ?_|refine Zb1 (fun _ _ => rfl) ?_|refine Z8s ?_|refine Zb3 (fun _ _ => rfl) ?_))
  refine Za6 (fun m F σ' => ∃ i : Nat, F = fset 2 (some (.int .i64 (count : Nat))) (fset 3 (some (.bool root)) (fset 4 (some (.bool key)) (fset 5 (some (.iptr (Zlz n.t))) (fset 6 (some (.iptr (Zrl c))) (fset 11 (some (.int .i64 (Zxn c : Nat))) (fset 14 (some (.int .i64 (T : Nat))) (fset 15 (some (.int .i64 (L : Nat))) (fset 18 (some (.int .i64 (i : Nat))) Z28)))))))) ∧ σ = σ' ∧ i ≤ T ∧ (∀ (j : Nat) b, j < i → c.texts[j]? = some b → vchk (tyK n) (.mk false 0 0 b []) = 0) ∧ m = T - i) (n := T)
   ⟨0, rfl, rfl, by omega, fun j v h => by omega, by omega⟩ ?_
  rintro m F σ' ⟨i, rfl, rfl, hi, hgd, rfl⟩
  (repeat(first|refine Kq rfl rfl rfl ?_|(refine Z99 ?_; (repeat(first|refine Z9x rfl ?_|refine Z9y ?_)); refine Z9w ?_)|refine Ks ?_|refine Zb1 (fun _ _ => rfl) ?_))
  refine Za2 (p := (i : Int) < (T : Nat)) rfl (fun h3 => ?_) (fun h3 => ?_)
  ·have hil : i < c.texts.length := by omega
   have hx := Zrn (f := fun b => Z0.slc 1 (bytes b) false) hil
   have hvi := List.getElem?_eq_getElem hil
   have hn := hTx c.texts[i] (List.getElem_mem hil)
   have hnx : vchk (tyK n) (.mk false 0 0 c.texts[i] []) = 0 → ∀ (j : Nat) b, j < i + 1 → c.texts[j]? = some b → vchk (tyK n) (.mk false 0 0 b []) = 0 := fun h j v hj hv => by
    by_cases e : j = i
    ·subst e
     rw [hvi] at hv
     cases hv
     exact h
    ·exact hgd j v (by omega) hv
   have hbad : vchk (tyK n) (.mk false 0 0 c.texts[i] []) ≠ 0 → wrongF n c count (!(root || key)) = 2 := fun h => Z183 hSz hIn fun hh => h (hh _ (List.getElem_mem hil))
   generalize c.texts[i] = v at hx hn hnx hbad
   generalize vchk (tyK n) (.mk false 0 0 v []) = z at hn hnx hbad
   (repeat(first|refine Kq rfl rfl rfl ?_|refine Ks ?_|refine Zb1 (fun _ _ => rfl) ?_|refine Z8s ?_|refine Zb2 (fun _ _ => rfl) ?_))
   refine Z9d rfl (by omega) hx ?_
   (repeat refine Kq rfl rfl rfl ?_)
   refine Z9v rfl (Z1s.args (by
    simp only [Zmh, Vl.null, Vl.i, Vl.n, Vl.b, Vl.kids, Zmg]
    (repeat(first|exact VRle.refl _ | exact Zbf|refine Zbg rfl rfl ?_|refine Zbh rfl ?_|refine Zbe ?_ ?_))) (hn _)) ?_
   (repeat(first|refine Kq rfl rfl rfl ?_|(refine Z99 ?_; (repeat(first|refine Z9x rfl ?_|refine Z9y ?_)); refine Z9w ?_)))
   by_cases hz : z = 0
   ·(rw [decide_eq_false (p := (z : Int) ≠ 0) (by omega)])
    (repeat(first|refine Zb2 (fun _ _ => rfl) ?_|refine Kc2 rfl ?_))
    refine Zb4 ?_
    repeat refine Kq rfl rfl rfl ?_
    rw [Kwr i (by omega)]
    (refine Z99 ?_; (repeat(first|refine Z9x rfl ?_|refine Z9y ?_)); refine Z9w ?_)
    exact ⟨_, T - (i + 1), HSub.refl _, ⟨i + 1, rfl, rfl, by omega, hnx hz, rfl⟩, by omega⟩
   ·(rw [decide_eq_true (p := (z : Int) ≠ 0) (by omega)])
    (repeat(first|refine Kq rfl rfl rfl ?_|(refine Z99 ?_; (repeat(first|refine Z9x rfl ?_|refine Z9y ?_)); refine Z9w ?_)|refine Ks ?_|refine Zb1 (fun _ _ => rfl) ?_|refine Kc1 rfl ?_))
    refine Z8o ?_
    rw [hbad hz]
    exact Kar rfl ⟨rfl, rfl⟩
  have hTt : ∀ b ∈ c.texts, vchk (tyK n) (.mk false 0 0 b []) = 0 := fun b hb => by
   obtain ⟨j, hj⟩ := List.getElem?_of_mem hb
   exact hgd j b (by have := (List.getElem?_eq_some_iff.1 hj).1; omega) hj
  (repeat(first|refine Kq rfl rfl rfl ?_|(refine Z99 ?_; (repeat(first|refine Z9x rfl ?_|refine Z9y ?_)); refine Z9w ?_)|refine Ks ?_|refine Zb1 (fun _ _ => rfl) ?_|refine Z8s ?_|refine Zb3 (fun _ _ => rfl) ?_))
  refine Za6 (fun m F σ' => ∃ i : Nat, F = fset 2 (some (.int .i64 (count : Nat))) (fset 3 (some (.bool root)) (fset 4 (some (.bool key)) (fset 5 (some (.iptr (Zlz n.t))) (fset 6 (some (.iptr (Zrl c))) (fset 11 (some (.int .i64 (Zxn c : Nat))) (fset 15 (some (.int .i64 (L : Nat))) (fset 19 (some (.int .i64 (i : Nat))) Z28))))))) ∧ σ = σ' ∧ i ≤ L ∧ (∀ (j : Nat) v, j < i → c.lens[j]? = some v → 0 ≤ v) ∧ m = L - i) (n := L)
   ⟨0, rfl, rfl, by omega, fun j v h => by omega, by omega⟩ ?_
  rintro m F σ' ⟨i, rfl, rfl, hi, hgd, rfl⟩
  (repeat(first|refine Kq rfl rfl rfl ?_|(refine Z99 ?_; (repeat(first|refine Z9x rfl ?_|refine Z9y ?_)); refine Z9w ?_)|refine Ks ?_|refine Zb1 (fun _ _ => rfl) ?_))
  refine Za2 (p := (i : Int) < (L : Nat)) rfl (fun h3 => ?_) (fun h3 => ?_)
  ·have hil : i < c.lens.length := by omega
   have hx := Zrn (f := Z0.int .i64) hil
   have hvi := List.getElem?_eq_getElem hil
   have hnx : 0 ≤ c.lens[i] → ∀ (j : Nat) v, j < i + 1 → c.lens[j]? = some v → 0 ≤ v := fun h j v hj hv => by
    by_cases e : j = i
    ·subst e
     rw [hvi] at hv
     cases hv
     exact h
    ·exact hgd j v (by omega) hv
   have hbad : ¬ 0 ≤ c.lens[i] → wrongF n c count (!(root || key)) = 2 := fun h => Z184 hSz hIn hTt fun hh => h (hh _ (List.getElem_mem hil))
   generalize c.lens[i] = v at hx hnx hbad
   (repeat(first|refine Kq rfl rfl rfl ?_|refine Ks ?_|refine Zb1 (fun _ _ => rfl) ?_|refine Z8s ?_|refine Zb2 (fun _ _ => rfl) ?_))
   refine Z9d rfl (by omega) hx ?_
   (repeat(first|refine Kq rfl rfl rfl ?_|(refine Z99 ?_; (repeat(first|refine Z9x rfl ?_|refine Z9y ?_)); refine Z9w ?_)))
   by_cases hz : v < 0
   ·(rw [decide_eq_true (p := v < 0) (by omega)])
    (repeat(first|refine Kq rfl rfl rfl ?_|(refine Z99 ?_; (repeat(first|refine Z9x rfl ?_|refine Z9y ?_)); refine Z9w ?_)|refine Ks ?_|refine Zb1 (fun _ _ => rfl) ?_|refine Kc1 rfl ?_))
    refine Z8o ?_
    rw [hbad (by omega)]
    exact Kar rfl ⟨rfl, rfl⟩
   ·(rw [decide_eq_false (p := v < 0) (by omega)])
    (repeat(first|refine Zb2 (fun _ _ => rfl) ?_|refine Kc2 rfl ?_))
    refine Zb4 ?_
    repeat refine Kq rfl rfl rfl ?_
    rw [Kwr i (by omega)]
    (refine Z99 ?_; (repeat(first|refine Z9x rfl ?_|refine Z9y ?_)); refine Z9w ?_)
    exact ⟨_, L - (i + 1), HSub.refl _, ⟨i + 1, rfl, rfl, by omega, hnx (by omega), rfl⟩, by omega⟩
  have hLs : ∀ v ∈ c.lens, 0 ≤ v := fun v hv => by
   obtain ⟨j, hj⟩ := List.getElem?_of_mem hv
   exact hgd j v (by have := (List.getElem?_eq_some_iff.1 hj).1; omega) hj
  have hAsk := fun σ => Z12u n.t.kind 0 (Zlz n.t) rfl rfl (by intro c hc; simp only [Zlz, List.mem_cons, List.not_mem_nil, or_false] at hc; rcases hc with rfl | rfl | rfl | rfl | rfl | rfl <;> rfl) c (hSz.sm hsm0) hLs σ
  have hlast := Z185 (nulls := !(root || key)) hSz hIn hTt hLs
  have fin : ¬ ((!(root || key)) = false ∧ Zxn c ≠ count) → AWp Try.prog Z1eq.n (Z1eq.code.snd 13) (ARet Z1eq.res fun r σ' => r = .int .i64 (wrongF n c count (!(root || key)) : Nat) ∧ σ' = σ)
    (fset 5 (some (.iptr (Zlz n.t))) (fset 6 (some (.iptr (Zrl c))) (fset 15 (some (.int .i64 (L : Nat))) Z28))) σ := by
   intro hno
   rw [if_neg hno] at hlast
   have w4 : lenF n.t.kind = true → 16384 < askF n.t.kind c 0 → wrongF n c count (!(root || key)) = 4 := fun a b => by rw [hlast, if_pos ⟨a, b⟩]
   have w0 : ¬ (lenF n.t.kind = true ∧ 16384 < askF n.t.kind c 0) → wrongF n c count (!(root || key)) = 0 := fun a => by rw [hlast, if_neg a]
   (repeat(first|refine Kq rfl rfl rfl ?_|refine Ks ?_|refine Zb1 (fun _ _ => rfl) ?_))
   by_cases hL0 : L = 0
   ·(rw [decide_eq_false (p := (L : Int) > 0) (by omega)])
    (repeat(first|refine Kq rfl rfl rfl ?_|refine Z97 rfl ?_|(refine Z99 ?_; (repeat(first|refine Z9x rfl ?_|refine Z9y ?_)); refine Z9w ?_)|refine Ks ?_|refine Zb1 (fun _ _ => rfl) ?_|refine Zb2 (fun _ _ => rfl) ?_|refine Kc2 rfl ?_))
    have e : ¬ (lenF n.t.kind = true ∧ 16384 < askF n.t.kind c 0) := by
     rintro ⟨h1, h2⟩
     have h0 : c.lens = [] := List.length_eq_zero_iff.1 (by omega)
     have hk : n.t.kind = 10 ∨ n.t.kind = 11 := by simpa [lenF] using h1
     rw [askF, if_pos hk, h0, sumL] at h2
     omega
    rw [w0 e]
    skip
    refine Z8o ?_
    exact Kar rfl ⟨rfl, rfl⟩
   ·(rw [decide_eq_true (p := (L : Int) > 0) (by omega)])
    (repeat refine Z96 rfl (Kq rfl rfl rfl ?_))
    refine Z96 rfl (Z9v rfl (hAsk _) ?_)
    (repeat(first|refine Kq rfl rfl rfl ?_|refine Z96 rfl (Kq rfl rfl rfl ?_)))
    have hk : lenF n.t.kind = true := by
     cases e : lenF n.t.kind with
     | true => rfl
     | false => rw [e] at hL; simp at hL; omega
    by_cases h2 : 16384 < askF n.t.kind c 0
    ·rw [w4 hk h2]
     (rw [decide_eq_true (p := (askF n.t.kind c 0 : Int) > 16384) (by omega)])
     (repeat(first|refine Kq rfl rfl rfl ?_|(refine Z99 ?_; (repeat(first|refine Z9x rfl ?_|refine Z9y ?_)); refine Z9w ?_)|refine Ks ?_|refine Zb1 (fun _ _ => rfl) ?_|refine Kc1 rfl ?_))
     refine Z8o ?_
     exact Kar rfl ⟨rfl, rfl⟩
    ·rw [w0 (fun h => h2 h.2)]
     (rw [decide_eq_false (p := (askF n.t.kind c 0 : Int) > 16384) (by omega)])
     (repeat(first|refine Kq rfl rfl rfl ?_|(refine Z99 ?_; (repeat(first|refine Z9x rfl ?_|refine Z9y ?_)); refine Z9w ?_)|refine Ks ?_|refine Zb1 (fun _ _ => rfl) ?_|refine Zb2 (fun _ _ => rfl) ?_|refine Kc2 rfl ?_))
     refine Z8o ?_
     exact Kar rfl ⟨rfl, rfl⟩
  have stop : ((!(root || key)) = false ∧ Zxn c ≠ count) → wrongF n c count (!(root || key)) = 2 := fun h => by rw [hlast, if_pos h]
  refine Zb3 (fun _ _ => rfl) ?_
  by_cases hh : Zxn c = count
  ·have fin := fin (fun h => h.2 hh)
   cases root <;> cases key
   ·skip
    refine Ks ?_
    refine Ks ?_
    refine Zb1 (fun _ _ => rfl) ?_
    (repeat(first|refine Kq rfl rfl rfl ?_|refine Z96 rfl (Kq rfl rfl rfl ?_)|refine Z97 rfl ?_))
    (refine Z99 ?_; (repeat(first|refine Z9x rfl ?_|refine Z9y ?_)); refine Z9w ?_)
    refine Kc2 rfl ?_
    refine Zb2 (fun _ _ => rfl) ?_
    (refine Za0 (keep := [5, 6, 15]) ?_; ((repeat(first|refine Z9x rfl ?_|refine Z9y ?_)); refine Z9w ?_))
    exact fin
   ·skip
    refine Ks ?_
    refine Ks ?_
    refine Zb1 (fun _ _ => rfl) ?_
    (repeat(first|refine Kq rfl rfl rfl ?_|refine Z96 rfl (Kq rfl rfl rfl ?_)))
    (rw [decide_eq_false (p := (Zxn c : Int) ≠ (count : Int)) (by omega)])
    skip
    (refine Z99 ?_; (repeat(first|refine Z9x rfl ?_|refine Z9y ?_)); refine Z9w ?_)
    refine Kc2 rfl ?_
    refine Zb2 (fun _ _ => rfl) ?_
    (refine Za0 (keep := [5, 6, 15]) ?_; ((repeat(first|refine Z9x rfl ?_|refine Z9y ?_)); refine Z9w ?_))
    exact fin
   ·skip
    refine Ks ?_
    refine Ks ?_
    refine Zb1 (fun _ _ => rfl) ?_
    (repeat(first|refine Kq rfl rfl rfl ?_|refine Z96 rfl (Kq rfl rfl rfl ?_)|refine Z97 rfl ?_))
    (rw [decide_eq_false (p := (Zxn c : Int) ≠ (count : Int)) (by omega)])
    skip
    (refine Z99 ?_; (repeat(first|refine Z9x rfl ?_|refine Z9y ?_)); refine Z9w ?_)
    refine Kc2 rfl ?_
    refine Zb2 (fun _ _ => rfl) ?_
    (refine Za0 (keep := [5, 6, 15]) ?_; ((repeat(first|refine Z9x rfl ?_|refine Z9y ?_)); refine Z9w ?_))
    exact fin
   ·skip
    refine Ks ?_
    refine Ks ?_
    refine Zb1 (fun _ _ => rfl) ?_
    (repeat(first|refine Kq rfl rfl rfl ?_|refine Z96 rfl (Kq rfl rfl rfl ?_)|refine Z97 rfl ?_))
    (rw [decide_eq_false (p := (Zxn c : Int) ≠ (count : Int)) (by omega)])
    skip
    (refine Z99 ?_; (repeat(first|refine Z9x rfl ?_|refine Z9y ?_)); refine Z9w ?_)
    refine Kc2 rfl ?_
    refine Zb2 (fun _ _ => rfl) ?_
    (refine Za0 (keep := [5, 6, 15]) ?_; ((repeat(first|refine Z9x rfl ?_|refine Z9y ?_)); refine Z9w ?_))
    exact fin
  ·cases root <;> cases key
   ·have fin := fin (fun h => by cases h.1)
    refine Ks ?_
    refine Ks ?_
    refine Zb1 (fun _ _ => rfl) ?_
    (repeat(first|refine Kq rfl rfl rfl ?_|refine Z96 rfl (Kq rfl rfl rfl ?_)|refine Z97 rfl ?_))
    (refine Z99 ?_; (repeat(first|refine Z9x rfl ?_|refine Z9y ?_)); refine Z9w ?_)
    refine Kc2 rfl ?_
    refine Zb2 (fun _ _ => rfl) ?_
    (refine Za0 (keep := [5, 6, 15]) ?_; ((repeat(first|refine Z9x rfl ?_|refine Z9y ?_)); refine Z9w ?_))
    exact fin
   ·rw [stop ⟨rfl, hh⟩]
    refine Ks ?_
    refine Ks ?_
    refine Zb1 (fun _ _ => rfl) ?_
    (repeat(first|refine Kq rfl rfl rfl ?_|refine Z96 rfl (Kq rfl rfl rfl ?_)))
    (rw [decide_eq_true (p := (Zxn c : Int) ≠ (count : Int)) (by omega)])
    skip
    (refine Z99 ?_; (repeat(first|refine Z9x rfl ?_|refine Z9y ?_)); refine Z9w ?_)
    (repeat(first|refine Kq rfl rfl rfl ?_|(refine Z99 ?_; (repeat(first|refine Z9x rfl ?_|refine Z9y ?_)); refine Z9w ?_)|refine Ks ?_|refine Zb1 (fun _ _ => rfl) ?_|refine Kc1 rfl ?_))
    refine Z8o ?_
    exact Kar rfl ⟨rfl, rfl⟩
   ·rw [stop ⟨rfl, hh⟩]
    refine Ks ?_
    refine Ks ?_
    refine Zb1 (fun _ _ => rfl) ?_
    (repeat(first|refine Kq rfl rfl rfl ?_|refine Z96 rfl (Kq rfl rfl rfl ?_)|refine Z97 rfl ?_))
    (rw [decide_eq_true (p := (Zxn c : Int) ≠ (count : Int)) (by omega)])
    skip
    (refine Z99 ?_; (repeat(first|refine Z9x rfl ?_|refine Z9y ?_)); refine Z9w ?_)
    (repeat(first|refine Kq rfl rfl rfl ?_|(refine Z99 ?_; (repeat(first|refine Z9x rfl ?_|refine Z9y ?_)); refine Z9w ?_)|refine Ks ?_|refine Zb1 (fun _ _ => rfl) ?_|refine Kc1 rfl ?_))
    refine Z8o ?_
    exact Kar rfl ⟨rfl, rfl⟩
   ·rw [stop ⟨rfl, hh⟩]
    refine Ks ?_
    refine Ks ?_
    refine Zb1 (fun _ _ => rfl) ?_
    (repeat(first|refine Kq rfl rfl rfl ?_|refine Z96 rfl (Kq rfl rfl rfl ?_)|refine Z97 rfl ?_))
    (rw [decide_eq_true (p := (Zxn c : Int) ≠ (count : Int)) (by omega)])
    skip
    (refine Z99 ?_; (repeat(first|refine Z9x rfl ?_|refine Z9y ?_)); refine Z9w ?_)
    (repeat(first|refine Kq rfl rfl rfl ?_|(refine Z99 ?_; (repeat(first|refine Z9x rfl ?_|refine Z9y ?_)); refine Z9w ?_)|refine Ks ?_|refine Zb1 (fun _ _ => rfl) ?_|refine Kc1 rfl ?_))
    refine Z8o ?_
    exact Kar rfl ⟨rfl, rfl⟩
 have main : ∀ (I T L : Nat), I = (if intF n.t.kind = true then Zxn c else 0) → T = (if Zmm n.t.kind = true then Zxn c else 0) → L = (if lenF n.t.kind = true then Zxn c else 0) →
   AWp Try.prog Z1eq.n (Z1eq.code.snd 7) (ARet Z1eq.res fun r σ' => r = .int .i64 (wrongF n c count (!(root || key)) : Nat) ∧ σ' = σ)
    (fset 2 (some (.int .i64 (count : Nat))) (fset 3 (some (.bool root)) (fset 4 (some (.bool key)) (fset 5 (some (.iptr (Zlz n.t))) (fset 6 (some (.iptr (Zrl c))) (fset 11 (some (.int .i64 (Zxn c : Nat))) (fset 12 (some (.int .i64 (I : Nat))) (fset 13 (some (.int .i64 (0 : Nat))) (fset 14 (some (.int .i64 (T : Nat))) (fset 15 (some (.int .i64 (L : Nat))) Z28)))))))))) σ := by
  intro I T L hI hT hL
  by_cases k9 : n.t.kind = 9
  ·have main2 := main2 I (Zxn c) T L hI (by rw [if_pos k9]) hT hL
   refine Ks ?_
   refine Ks ?_
   refine Zb1 (fun _ _ => rfl) ?_
   repeat refine Kq rfl rfl rfl ?_
   (rw [decide_eq_true (p := n.t.kind = 9) (by omega)])
   (refine Z99 ?_; (repeat(first|refine Z9x rfl ?_|refine Z9y ?_)); refine Z9w ?_)
   refine Kc1 rfl ?_
   refine Zb1 (fun _ _ => rfl) ?_
   repeat refine Kq rfl rfl rfl ?_
   (refine Z99 ?_; (repeat(first|refine Z9x rfl ?_|refine Z9y ?_)); refine Z9w ?_)
   exact main2
  ·have main2 := main2 I 0 T L hI (by rw [if_neg k9]) hT hL
   refine Ks ?_
   refine Ks ?_
   refine Zb1 (fun _ _ => rfl) ?_
   repeat refine Kq rfl rfl rfl ?_
   (rw [decide_eq_false (p := n.t.kind = 9) (by omega)])
   (refine Z99 ?_; (repeat(first|refine Z9x rfl ?_|refine Z9y ?_)); refine Z9w ?_)
   refine Kc2 rfl ?_
   refine Zb2 (fun _ _ => rfl) ?_
   (refine Za0 (keep := [2, 3, 4, 5, 6, 11, 12, 13, 14, 15]) ?_; ((repeat(first|refine Z9x rfl ?_|refine Z9y ?_)); refine Z9w ?_))
   exact main2
 clear main2
 refine Z94 rfl Z1gb (Nat.le_of_ble_eq_true rfl) ?_
 refine Za1 ?_
 refine Z9n rfl (Kfi rfl) fun b5 hb5 => ?_
 refine Z9n rfl (Kfi rfl) fun b6 hb6 => ?_
 repeat refine Kq rfl rfl rfl ?_
 (refine Z99 ?_; (repeat(first|refine Z9x rfl ?_|refine Z9y ?_)); refine Z9w ?_)
 refine Zaj (d := 6) (cs := Zrl c) rfl ?_
 refine Zaj (d := 5) (cs := Zlz n.t) rfl ?_
 (repeat(first|refine Kq rfl rfl rfl ?_|refine Ks ?_|refine Zb1 (fun _ _ => rfl) ?_))
 refine Z9v rfl (hHere _) ?_
 (repeat(first|refine Kq rfl rfl rfl ?_|(refine Z99 ?_; (repeat(first|refine Z9x rfl ?_|refine Z9y ?_)); refine Z9w ?_)|refine Ks ?_|refine Zb1 (fun _ _ => rfl) ?_|refine Z8s ?_))
 refine Z9v rfl (hTxt _) ?_
 by_cases kt : Zmm n.t.kind = true
 ·have hi : intF n.t.kind = false := by simp [intF, kt]
  have hl : lenF n.t.kind = false := by
   simp only [Zmm, Bool.or_eq_true, decide_eq_true_eq] at kt
   simp only [lenF, Bool.or_eq_false_iff, decide_eq_false_iff_not]
   omega
  have main := main 0 (Zxn c) 0 (by rw [hi]; simp) (by rw [if_pos kt]) (by rw [hl]; simp)
  rw [kt]
  repeat refine Kq rfl rfl rfl ?_
  (refine Z99 ?_; (repeat(first|refine Z9x rfl ?_|refine Z9y ?_)); refine Z9w ?_)
  refine Kc1 rfl ?_
  refine Zb1 (fun _ _ => rfl) ?_
  repeat refine Kq rfl rfl rfl ?_
  (refine Z99 ?_; (repeat(first|refine Z9x rfl ?_|refine Z9y ?_)); refine Z9w ?_)
  exact main
 have kt2 : Zmm n.t.kind = false := by simpa using kt
 rw [kt2]
 repeat refine Kq rfl rfl rfl ?_
 (refine Z99 ?_; (repeat(first|refine Z9x rfl ?_|refine Z9y ?_)); refine Z9w ?_)
 refine Kc2 rfl ?_
 refine Ks ?_
 refine Zb1 (fun _ _ => rfl) ?_
 (repeat refine Kq rfl rfl rfl ?_)
 by_cases kl : n.t.kind = 10 ∨ n.t.kind = 11
 ·have hi : intF n.t.kind = false := by rcases kl with e | e <;> simp [intF, e]
  have hl : lenF n.t.kind = true := by rcases kl with e | e <;> simp [lenF, e]
  have main := main 0 0 (Zxn c) (by rw [hi]; simp) (by rw [kt2]; simp) (by rw [if_pos hl])
  by_cases k10 : n.t.kind = 10
  ·(rw [decide_eq_true (p := n.t.kind = 10) (by omega)])
   (repeat(first|refine Kq rfl rfl rfl ?_|refine Z97 rfl ?_))
   (refine Z99 ?_; (repeat(first|refine Z9x rfl ?_|refine Z9y ?_)); refine Z9w ?_)
   refine Kc1 rfl ?_
   refine Zb1 (fun _ _ => rfl) ?_
   repeat refine Kq rfl rfl rfl ?_
   (refine Z99 ?_; (repeat(first|refine Z9x rfl ?_|refine Z9y ?_)); refine Z9w ?_)
   exact main
  ·(rw [decide_eq_false (p := n.t.kind = 10) (by omega)])
   (repeat(first|refine Kq rfl rfl rfl ?_|refine Z96 rfl (Kq rfl rfl rfl ?_)))
   (rw [decide_eq_true (p := n.t.kind = 11) (by omega)])
   skip
   (refine Z99 ?_; (repeat(first|refine Z9x rfl ?_|refine Z9y ?_)); refine Z9w ?_)
   refine Kc1 rfl ?_
   refine Zb1 (fun _ _ => rfl) ?_
   repeat refine Kq rfl rfl rfl ?_
   (refine Z99 ?_; (repeat(first|refine Z9x rfl ?_|refine Z9y ?_)); refine Z9w ?_)
   exact main
 ·have hl : lenF n.t.kind = false := by simp only [lenF, Bool.or_eq_false_iff, decide_eq_false_iff_not]; omega
  (rw [decide_eq_false (p := n.t.kind = 10) (by omega)])
  (repeat(first|refine Kq rfl rfl rfl ?_|refine Z96 rfl (Kq rfl rfl rfl ?_)))
  (rw [decide_eq_false (p := n.t.kind = 11) (by omega)])
  skip
  (refine Z99 ?_; (repeat(first|refine Z9x rfl ?_|refine Z9y ?_)); refine Z9w ?_)
  refine Kc2 rfl ?_
  refine Ks ?_
  refine Zb1 (fun _ _ => rfl) ?_
  repeat refine Kq rfl rfl rfl ?_
  by_cases k12 : n.t.kind = 12
  ·have hi : intF n.t.kind = false := by simp [intF, k12]
   have main := main 0 0 0 (by rw [hi]; simp) (by rw [kt2]; simp) (by rw [hl]; simp)
   (rw [decide_eq_false (p := n.t.kind ≠ 12) (by omega)])
   repeat refine Kq rfl rfl rfl ?_
   (refine Z99 ?_; (repeat(first|refine Z9x rfl ?_|refine Z9y ?_)); refine Z9w ?_)
   refine Kc2 rfl ?_
   refine Zb2 (fun _ _ => rfl) ?_
   (refine Za0 (keep := [2, 3, 4, 5, 6, 11, 12, 13, 14, 15]) ?_; ((repeat(first|refine Z9x rfl ?_|refine Z9y ?_)); refine Z9w ?_))
   exact main
  ·have hi : intF n.t.kind = true := by
    simp only [intF, kt2, Bool.or_false, Bool.not_eq_true', Bool.or_eq_false_iff, decide_eq_false_iff_not]
    omega
   have main := main (Zxn c) 0 0 (by rw [if_pos hi]) (by rw [kt2]; simp) (by rw [hl]; simp)
   (rw [decide_eq_true (p := n.t.kind ≠ 12) (by omega)])
   repeat refine Kq rfl rfl rfl ?_
   (refine Z99 ?_; (repeat(first|refine Z9x rfl ?_|refine Z9y ?_)); refine Z9w ?_)
   refine Kc1 rfl ?_
   refine Zb1 (fun _ _ => rfl) ?_
   repeat refine Kq rfl rfl rfl ?_
   (refine Z99 ?_; (repeat(first|refine Z9x rfl ?_|refine Z9y ?_)); refine Z9w ?_)
   exact main
end Go.Abs
namespace Go.Abs
open Go Go.Proofs
attribute [local irreducible] AWp aops KP
def Z1gu (n ba bh : Nat) : List Z0 := [.arr 1 ba 0 n, .arr 1 bh 0 n]
theorem Z1gv {l : List Nd} (hT : TreeN l) (hK : Z12x l) {cols : List Col} {keep : List Bool} (hC : ColsT l cols keep) (hkl : keep.length = l.length) (hWh : Whole l keep) (e g h : Bool) (ba bh : Nat) (hab : ba ≠ bh) :
  ∀ (t : Ty) (a : Nat) (nd : Nd), l[a]? = some nd → nd.t = t → nd.t.Ok → (∀ x ∈ l, x.t.Ok) → keep.getD a false = true → ∀ (s s' : Tk) (v : Vl), s.sz l.length → takeT cols keep t a s = some (v, s') → ∀ (H : Zc), Zd H ba = some (.cells 1 (ints s.at_)) → Zd H bh = some (.cells 1 (ints s.he)) →
   Z1s Try.prog Zeg [.slc 9 (l.map encR) e, .slc 5 (cols.map Kc) g, .slc 1 (keep.map .bool) h, .int .i64 (a : Int), .iptr (Z1gu l.length ba bh)] H fun r H' => r = encV v ∧ H' = HS H ba bh s' := by
 refine Ty.ind fun k ns ks le pr sc ih a nd hnd hndt hndok hlok hka s s' v hsz htk H hHa hHh => ?_
 have hal : a < l.length := (List.getElem?_eq_some_iff.1 hnd).1
 have hac : a < cols.length := by rw [hC.len]; exact hal
 have hN := hT.nok a nd hnd
 obtain ⟨c, hc⟩ : ∃ c, cols[a]? = some c := ⟨_, List.getElem?_eq_getElem hac⟩
 have hsm := hC.sm a c hc hka
 have hcD : cols.getD a col0 = c := by rw [List.getD_eq_getElem?_getD, hc]; rfl
 have hgN : (l.map encR)[((a : Nat) : Int).toNat]? = some (encR nd) := by rw [Int.toNat_natCast, List.getElem?_map, hnd]; rfl
 have hgC : (cols.map Kc)[((a : Nat) : Int).toNat]? = some (Kc c) := by rw [Int.toNat_natCast, List.getElem?_map, hc]; rfl
 rw [encR, Zme, Zlz] at hgN
 have hk : nd.t.kind = k := by rw [hndt]; rfl
 have hks : nd.t.kids = ks := by rw [hndt]; rfl
 have hkal := hK.num nd (List.mem_of_getElem? hnd)
 have hkn : (ints nd.kids).length = nd.kids.length := List.length_map ..
 have hkl2 : nd.kids.length = ks.length := by rw [hN.len, hks]
 have hkk : Zm6 k ns.length ks.length = true := by
  have := hndok.kinds.1
  rw [hndt] at this
  exact this
 have hkidx : ∀ (j : Nat) (u : Ty), ks[j]? = some u → ∃ m, (ints nd.kids)[((j : Nat) : Int).toNat]? = some (.int .i64 ((a + 1 + cntL (ks.take j) : Nat) : Int)) ∧ l[a + 1 + cntL (ks.take j)]? = some m ∧ m.t = u ∧ (a + 1 + cntL (ks.take j)) ∈ nd.kids := by
  intro j u hu
  have hjl : j < nd.kids.length := by rw [hkl2]; exact (List.getElem?_eq_some_iff.1 hu).1
  obtain ⟨u', m, e1, e2, e3, e4, _⟩ := hN.kids j _ (List.getElem?_eq_getElem hjl)
  rw [hks, hu] at e1
  cases e1
  rw [hks] at e2
  refine ⟨m, ?_, by rw [← e2]; exact e3, e4, by rw [← e2]; exact List.getElem_mem hjl⟩
  rw [Int.toNat_natCast, ints, List.getElem?_map, List.getElem?_eq_getElem hjl, e2]; rfl
 have hla : a < s.at_.length := by rw [hsz.1]; exact hal
 have hlh : a < s.he.length := by rw [hsz.2]; exact hal
 rw [takeT, hcD] at htk
 generalize hi : s.at_.getD a 0 = i at htk
 generalize hj : s.he.getD a 0 = j at htk
 obtain ⟨hb, hhb⟩ : ∃ hb, c.here[i]? = some hb := by
  cases e : c.here[i]? with
  | none => rw [e] at htk; cases htk
  | some hb => exact ⟨hb, rfl⟩
 have hil : i < c.here.length := (List.getElem?_eq_some_iff.1 hhb).1
 have hi1 := hsm.here
 have hgx : (c.here.map Z0.bool)[((i : Nat) : Int).toNat]? = some (.bool hb) := by rw [Int.toNat_natCast, List.getElem?_map, hhb]; rfl
 rw [hhb] at htk
 refine Z94 rfl Z1gc (Nat.le_of_ble_eq_true rfl) ?_
 refine Za1 ?_
 refine Z9o (by simp [Z0.cells, Z0.one]) fun b10 hb10 => ?_
 (refine Z99 ?_; (repeat(first|refine Z9x rfl ?_|refine Z9y ?_)); refine Z9w ?_)
 have h4a : b10 ≠ ba := fun e => by subst e; exact hb10 (by have := Zk hHa; exact List.mem_map_of_mem (f := (·.1)) this)
 have h4h : b10 ≠ bh := fun e => by subst e; exact hb10 (by have := Zk hHh; exact List.mem_map_of_mem (f := (·.1)) this)
 refine Za1 ?_
 repeat refine Kq rfl rfl rfl ?_
 refine Z9d rfl (by omega) hgC ?_
 repeat refine Kq rfl rfl rfl ?_
 refine Z9o (by simp [Z0.cells, Z0.one]) fun b11 hb11 => ?_
 refine Z9g rfl Z9a rfl (by decide) (Kfi rfl) (fun h => by cases h) Z9h ?_
 (refine Z99 ?_; (repeat(first|refine Z9x rfl ?_|refine Z9y ?_)); refine Z9w ?_)
 refine Zaj (d := 11) (cs := Zrl c) rfl ?_
 (refine Za0 (keep := [0, 1, 2, 3, 4, 10, 11]) ?_; ((repeat(first|refine Z9x rfl ?_|refine Z9y ?_)); refine Z9w ?_))
 rw [show (Z0.agg [.bool false, .int .i64 0, .int .i64 0, .slc 0 [] true, .slc 0 [] true]).cells.length = 5 from rfl]
 have hxa := Z198 hla
 have hxh := Z198 hlh
 rw [hi] at hxa
 rw [hj] at hxh
 refine Za1 ?_
 repeat refine Kq rfl rfl rfl ?_
 refine Z9e rfl ⟨by omega, by omega⟩ ?_
 refine Z9c rfl (Z9b h4a hHa) hxa rfl ?_
 repeat refine Kq rfl rfl rfl ?_
 (refine Z99 ?_; (repeat(first|refine Z9x rfl ?_|refine Z9y ?_)); refine Z9w ?_)
 refine Za1 ?_
 repeat refine Kq rfl rfl rfl ?_
 rw [Kwr i (by omega)]
 refine Z9e rfl ⟨by omega, by omega⟩ ?_
 refine Z9g rfl (Z9b h4a hHa) hxa (by decide) (Kfi rfl) (fun _ => ⟨rfl, rfl⟩) (Z9i h4a rfl) ?_
 rw [Z199 _ (by rw [hi])]
 (refine Z99 ?_; (repeat(first|refine Z9x rfl ?_|refine Z9y ?_)); refine Z9w ?_)
 refine Ks ?_
 refine Ks ?_
 refine Zb1 (fun _ _ => rfl) ?_
 repeat refine Kq rfl rfl rfl ?_
 refine Z9d rfl (by omega) hgx ?_
 repeat refine Kq rfl rfl rfl ?_
 (refine Z99 ?_; (repeat(first|refine Z9x rfl ?_|refine Z9y ?_)); refine Z9w ?_)
 cases hb with
 | false =>
  simp only [Option.some.injEq, Prod.mk.injEq] at htk
  obtain ⟨rfl, rfl⟩ := htk
  refine Kc1 rfl ?_
  refine Za1 ?_
  repeat refine Kq rfl rfl rfl ?_
  (first|refine Z9g rfl Z9a rfl (by decide) (Kfi rfl) (fun h => by cases h) Z9h ?_|refine Z96 rfl (Z9g rfl Z9a rfl (by decide) (Kfi rfl) (fun h => by cases h) Z9h ?_))
  (refine Z99 ?_; (repeat(first|refine Z9x rfl ?_|refine Z9y ?_)); refine Z9w ?_)
  refine Z8o ?_
  refine Zag (vs := [.agg [.bool true, .int .i64 0, .int .i64 0, .slc 0 [] true, .slc 0 [] true]]) (Zsj rfl Z9a rfl) ?_ (HSub.tail _ _) ⟨rfl, ?_⟩
  ·rw [nullV, encV]
   (repeat(first|exact VRle.refl _ | exact Zbf|refine Zbg rfl rfl ?_|refine Zbh rfl ?_|refine Zbe ?_ ?_))
  ·unfold HS
   exact (Z5q (by rw [Z193 (fun e => hab e.symm)]; exact hHh)).symm
 | true =>
 refine Kc2 rfl ?_
 refine Zb2 (fun _ _ => rfl) ?_
 (refine Za0 (keep := [0, 1, 2, 3, 4, 10, 11]) ?_; ((repeat(first|refine Z9x rfl ?_|refine Z9y ?_)); refine Z9w ?_))
 simp only at htk
 by_cases hji : i < j
 ·rw [if_pos hji] at htk; cases htk
 rw [if_neg hji] at htk
 have hHh1 : Zd (Ze H ba (.cells 1 (ints (s.at_.set a (i + 1))))) bh = some (.cells 1 (ints s.he)) := by rw [Z193 (fun e => hab e.symm)]; exact hHh
 refine Za1 ?_
 repeat refine Kq rfl rfl rfl ?_
 refine Z9e rfl ⟨by omega, by omega⟩ ?_
 refine Z9c rfl (Z9b h4h hHh1) hxh rfl ?_
 repeat refine Kq rfl rfl rfl ?_
 (refine Z99 ?_; (repeat(first|refine Z9x rfl ?_|refine Z9y ?_)); refine Z9w ?_)
 refine Za1 ?_
 repeat refine Kq rfl rfl rfl ?_
 rw [Kwr j (by omega)]
 refine Z9e rfl ⟨by omega, by omega⟩ ?_
 refine Z9g rfl (Z9b h4h hHh1) hxh (by decide) (Kfi rfl) (fun _ => ⟨rfl, rfl⟩) (Z9i h4h rfl) ?_
 rw [Z199 _ (by rw [hj])]
 (refine Z99 ?_; (repeat(first|refine Z9x rfl ?_|refine Z9y ?_)); refine Z9w ?_)
 have hHS2 : Ze (Ze H ba (.cells 1 (ints (s.at_.set a (i + 1))))) bh (.cells 1 (ints (s.he.set a (j + 1)))) = HS H ba bh ⟨s.at_.set a (i + 1), s.he.set a (j + 1)⟩ := rfl
 rw [hHS2]
 have hsz2 : (⟨s.at_.set a (i + 1), s.he.set a (j + 1)⟩ : Tk).sz l.length := ⟨by rw [List.length_set]; exact hsz.1, by rw [List.length_set]; exact hsz.2⟩
 generalize (⟨s.at_.set a (i + 1), s.he.set a (j + 1)⟩ : Tk) = s2 at htk hsz2 ⊢
 refine Za1 ?_
 repeat refine Kq rfl rfl rfl ?_
 refine Z9d rfl (by omega) hgN ?_
 repeat refine Kq rfl rfl rfl ?_
 refine Z9o (by simp [Z0.cells, Z0.one]) fun b14 hb14 => ?_
 refine Z9g rfl Z9a rfl (by decide) (Kfi rfl) (fun h => by cases h) Z9h ?_
 (refine Z99 ?_; (repeat(first|refine Z9x rfl ?_|refine Z9y ?_)); refine Z9w ?_)
 refine Zaj (d := 14) (cs := Zlz nd.t) rfl ?_
 (refine Za0 (keep := [0, 1, 2, 3, 4, 10, 11, 13, 14]) ?_; ((repeat(first|refine Z9x rfl ?_|refine Z9y ?_)); refine Z9w ?_))
 refine Za1 ?_
 repeat refine Kq rfl rfl rfl ?_
 refine Z9o (by simp [Z0.cells, Z0.one]) fun b15 hb15 => ?_
 refine Z9g rfl Z9a rfl (by decide) (Kfi rfl) (fun h => by cases h) Z9h ?_
 (refine Z99 ?_; (repeat(first|refine Z9x rfl ?_|refine Z9y ?_)); refine Z9w ?_)
 have h94 : b15 ≠ b10 := fun e => hb15 (by rw [e]; simp [Zh])
 have h9H : b15 ∉ Zh H := fun hm => hb15 (by rw [Zj, Z197]; exact List.mem_cons_of_mem _ hm)
 have h9a : b15 ≠ ba := fun e => by subst e; exact h9H (by have := Zk hHa; exact List.mem_map_of_mem (f := (·.1)) this)
 have h9h : b15 ≠ bh := fun e => by subst e; exact h9H (by have := Zk hHh; exact List.mem_map_of_mem (f := (·.1)) this)
 (refine Za0 (keep := [0, 1, 2, 3, 4, 10, 11, 13, 14, 15]) ?_; ((repeat(first|refine Z9x rfl ?_|refine Z9y ?_)); refine Z9w ?_))
 have fin0 : ∀ (s3 : Tk) (xs : List Vl) (f : Bool) (i m : Int) (bv : Z0), VRle [.agg [.bool false, .int .i64 i, .int .i64 m, bv, .slc 5 (Zmg xs) f]] [encV v] → bv.one = true → s' = s3 →
   AWp Try.prog Z1fu.n (Z1fu.code.snd 10) (ARet Z1fu.res fun r H' => r = encV v ∧ H' = HS H ba bh s') (fset 10 (some (.ptr b10 0 0)) (fset 15 (some (.ptr b15 0 0)) Z28))
    ((b15, .cells 5 [.agg [.bool false, .int .i64 i, .int .i64 m, bv, .slc 5 (Zmg xs) f]]) :: (b10, .cells 5 [.agg [.bool false, .int .i64 0, .int .i64 0, .slc 0 [] true, .slc 0 [] true]]) :: HS H ba bh s3) := by
  intro s3 xs f i m bv hv hbv e
  subst e
  refine Za1 ?_
  refine Z9c rfl Z9a rfl rfl ?_
  refine Z9g rfl (Z9b h94 Z9a) rfl (by decide) (valE (xs := Zmg xs) (f := f) hbv) (fun h => by cases h) (Z9i h94 Z9h) ?_
  (refine Z99 ?_; (repeat(first|refine Z9x rfl ?_|refine Z9y ?_)); refine Z9w ?_)
  refine Z8o ?_
  exact Zag (vs := [.agg [.bool false, .int .i64 i, .int .i64 m, bv, .slc 5 (Zmg xs) f]]) (Zsj rfl (Z9b h94 Z9a) rfl) hv (HSub.of_sublist ((List.sublist_cons_self _ _).trans (List.sublist_cons_self _ _))) ⟨rfl, rfl⟩
 have fin : ∀ (s3 : Tk) (kv : Z0) (xs : List Vl) (β : Zc) (i m : Int) (bv : Z0), Zb5 5 kv (Zmg xs) β → VRle [.agg [.bool false, .int .i64 i, .int .i64 m, bv, .slc 5 (Zmg xs) false]] [encV v] → bv.one = true → s' = s3 →
   AWp Try.prog Z1fu.n (Z1fu.code.snd 10) (ARet Z1fu.res fun r H' => r = encV v ∧ H' = HS H ba bh s') (fset 10 (some (.ptr b10 0 0)) (fset 15 (some (.ptr b15 0 0)) Z28))
    (β ++ ((b15, .cells 5 [.agg [.bool false, .int .i64 i, .int .i64 m, bv, kv]]) :: (b10, .cells 5 [.agg [.bool false, .int .i64 0, .int .i64 0, .slc 0 [] true, .slc 0 [] true]]) :: HS H ba bh s3)) := by
  intro s3 kv xs β i m bv ho hv hbv e
  refine Zak (β := β) (γ := [(b15, _)]) ?_
  refine Zba (HShift.cellS (β := β) (A := []) (B := []) (p := [.bool false, .int .i64 i, .int .i64 m, bv]) (q := []) ho (by intro y hy; simp only [List.nil_append, List.mem_singleton] at hy; subst hy; exact valE (xs := Zmg xs) (f := false) hbv)) ?_
  exact fin0 s3 xs false i m bv hv hbv e
 have call : ∀ (u : Ty), u ∈ ks → ∀ (x : Nat) (m : Nd), l[x]? = some m → m.t = u → keep.getD x false = true → ∀ (st s1 : Tk) (vj : Vl), st.sz l.length → takeT cols keep u x st = some (vj, s1) → ∀ (β : Zc) (V : Zb), ba ∉ Zh β → bh ∉ Zh β →
   Z1s Try.prog Zeg [.slc 9 (l.map encR) e, .slc 5 (cols.map Kc) g, .slc 1 (keep.map .bool) h, .int .i64 (x : Int), .iptr (Z1gu l.length ba bh)] (β ++ ((b15, V) :: (b10, .cells 5 [.agg [.bool false, .int .i64 0, .int .i64 0, .slc 0 [] true, .slc 0 [] true]]) :: HS H ba bh st)) fun r H' => r = .agg (Zmh vj) ∧ H' = β ++ ((b15, V) :: (b10, .cells 5 [.agg [.bool false, .int .i64 0, .int .i64 0, .slc 0 [] true, .slc 0 [] true]]) :: HS H ba bh s1) := by
  intro u hu x m hm hmt hkx st s1 vj hst ht β V h1 h2
  have := ih u hu x m hm hmt (hlok m (List.mem_of_getElem? hm)) hlok hkx st s1 vj hst ht (β ++ ((b15, V) :: (b10, .cells 5 [.agg [.bool false, .int .i64 0, .int .i64 0, .slc 0 [] true, .slc 0 [] true]]) :: HS H ba bh st))
   (by rw [Za9 h1]; exact Z9b h9a (Z9b h4a (HS_a hab hHa st)))
   (by rw [Za9 h2]; exact Z9b h9h (Z9b h4h (HS_h hab hHh st)))
  rw [Z196 h1 h2, Z195 h9a h9h, Z195 h4a h4h, HS_HS hab, Zmi] at this
  exact this
 have kept : ∀ (x : List Z0) (β : Zc) (V : Zb) (σ1 σ2 : Zc), x = [.ptr b15 0 0] → b15 ∉ Zh β → Z24 x (β ++ ((b15, V) :: σ1)) (β ++ ((b15, V) :: σ2)) := by
  intro x β V σ1 σ2 hx hn v hv b hb
  subst hx
  simp only [List.mem_singleton] at hv
  subst hv
  simp only [Z1p, Option.some.injEq] at hb
  subst hb
  rw [Za9 hn, Za9 hn, Z9a, Z9a]
 have fresh' : ∀ (b' : Nat) (β : Zc) (V : Zb) (st : Tk), b' ∉ Zh (β ++ ((b15, V) :: (b10, .cells 5 [.agg [.bool false, .int .i64 0, .int .i64 0, .slc 0 [] true, .slc 0 [] true]]) :: HS H ba bh st)) → b' ≠ b15 ∧ b' ≠ ba ∧ b' ≠ bh := by
  intro b' β V st hb'
  refine ⟨fun e => hb' (by rw [e]; simp [Zh]), fun e => hb' ?_, fun e => hb' ?_⟩
  ·subst e
   have := Zk hHa
   have h1 : b' ∈ Zh (HS H b' bh st) := by rw [Z197]; exact List.mem_map_of_mem (f := (·.1)) this
   simp only [Zh, List.map_append, List.map_cons, List.mem_append, List.mem_cons] at h1 ⊢
   exact .inr (.inr (.inr h1))
  ·subst e
   have := Zk hHh
   have h1 : b' ∈ Zh (HS H ba b' st) := by rw [Z197]; exact List.mem_map_of_mem (f := (·.1)) this
   simp only [Zh, List.map_append, List.map_cons, List.mem_append, List.mem_cons] at h1 ⊢
   exact .inr (.inr (.inr h1))
 have heA : ∀ (us : List Vl) (vj : Vl), Zmg us ++ [Z0.agg (Zmh vj)] = Zmg (us ++ [vj]) := fun us vj => by rw [Zmj, Zmj, List.map_append, ← Zmi]; rfl
 have nk : ∀ (b' k : Nat) (x : Zb), b' ≠ k → k ∉ Zh [(b', x)] := fun b' k x h hm => by simp only [Zh, List.map_cons, List.map_nil, List.mem_singleton] at hm; exact h hm.symm
 have hil2 : ∀ {α : Type} (f : α → Z0) (xs : List α) (y : α), xs[j]? = some y → (xs.map f)[((j : Nat) : Int).toNat]? = some (f y) := fun f xs y hy => by rw [Int.toNat_natCast, List.getElem?_map, hy]; rfl
 have hvle : ∀ (i m : Int) (xs : List Vl), VRle [.agg [.bool false, .int .i64 i, .int .i64 m, .slc 0 [] true, .slc 5 (Zmg xs) false]] [encV (.mk false i m [] xs)] := fun i m xs => by
  rw [encV]
  refine VRle.agg (by simp [Z0.one]) ?_
  refine VRle.cons (VRle.refl _) (VRle.cons (VRle.refl _) (VRle.cons (VRle.refl _) (VRle.cons ?_ (VRle.refl _))))
  rw [show bytes [] = [] from rfl]; exact VRle.nilF _ _
 have hTxt := Zmx k
 refine Ks ?_
 refine Z8s ?_
 refine Ks ?_
 refine Zb1 (fun _ _ => rfl) ?_
 repeat refine Kq rfl rfl rfl ?_
 rw [hk]
 refine Z9v rfl (hTxt _) ?_
 repeat refine Kq rfl rfl rfl ?_
 (refine Z99 ?_; (repeat(first|refine Z9x rfl ?_|refine Z9y ?_)); refine Z9w ?_)
 by_cases hT7 : Zmm k = true
 ·rw [if_neg (by intro e; rcases e with rfl | rfl <;> cases hT7), if_neg (by intro e; subst e; cases hT7), if_neg (by intro e; subst e; cases hT7), if_pos hT7] at htk
  obtain ⟨bs, hbs⟩ : ∃ bs, c.texts[j]? = some bs := by
   cases e : c.texts[j]? with
   | none => rw [e] at htk; cases htk
   | some n => exact ⟨n, rfl⟩
  rw [hbs] at htk
  simp only [Option.some.injEq, Prod.mk.injEq] at htk
  obtain ⟨rfl, rfl⟩ := htk
  have hgt := hil2 (fun b => Z0.slc 1 (bytes b) false) c.texts bs hbs
  have hvb : VRle [.agg [.bool false, .int .i64 0, .int .i64 0, .slc 1 (bytes bs) false, .slc 5 (Zmg []) false]] [encV (.mk false 0 0 bs [])] := by
   rw [encV]
   exact VRle.refl _
  rw [hT7]
  refine Kc1 rfl ?_
  refine Zb1 (fun _ _ => rfl) ?_
  repeat refine Kq rfl rfl rfl ?_
  refine Z9d rfl (by omega) hgt ?_
  repeat refine Kq rfl rfl rfl ?_
  (first|refine Z9g rfl Z9a rfl (by decide) (Kfi rfl) (fun h => by cases h) Z9h ?_|refine Z96 rfl (Z9g rfl Z9a rfl (by decide) (Kfi rfl) (fun h => by cases h) Z9h ?_))
  (refine Z99 ?_; (repeat(first|refine Z9x rfl ?_|refine Z9y ?_)); refine Z9w ?_)
  (refine Za0 (keep := [10, 15]) ?_; ((repeat(first|refine Z9x rfl ?_|refine Z9y ?_)); refine Z9w ?_))
  exact fin s2 _ [] [] 0 0 _ (Zb5.nil 5 0) hvb rfl rfl
 have hT8 : Zmm k = false := by simpa using hT7
 rw [hT8]
 refine Kc2 rfl ?_
 refine Ks ?_
 refine Zb1 (fun _ _ => rfl) ?_
 repeat refine Kq rfl rfl rfl ?_
 rw [hk]
 have hks1000 : ks.length ≤ 1000 := by omega
 by_cases k10 : k = 10
 ·rw [if_pos (.inl k10)] at htk
  obtain ⟨n, hn⟩ : ∃ n, c.lens[j]? = some n := by
   cases e : c.lens[j]? with
   | none => rw [e] at htk; cases htk
   | some n => exact ⟨n, rfl⟩
  rw [hn] at htk
  have hn2 := hC.lens a c hc hka n (List.mem_of_getElem? hn)
  have hgl := hil2 (Z0.int .i64) c.lens n hn
  obtain ⟨VS, hts⟩ : ∃ VS, iterO (takeL cols keep ks (a + 1)) n.toNat s2 = some (VS, s') ∧ v = .mk false 0 0 [] VS := by
   simp only at htk
   split at htk
   ·cases htk
   ·rename_i vs s0 h0
    simp only [Option.some.injEq, Prod.mk.injEq] at htk
    obtain ⟨e1, rfl⟩ := htk
    exact ⟨vs, h0, e1.symm⟩
  obtain ⟨hts, rfl⟩ := hts
  subst k10
  have hk1 : ks.length = 1 := by
   rw [Zm6, if_pos rfl] at hkk
   simpa using hkk
  obtain ⟨u, rfl⟩ : ∃ u, ks = [u] := by
   match ks, hk1 with
   | [u], _ => exact ⟨u, rfl⟩
  obtain ⟨m, hx, hm, hmt, hxm⟩ := hkidx 0 u rfl
  rw [show a + 1 + cntL (List.take 0 [u]) = a + 1 by simp [cntL]] at hx hm hxm
  have hkx : keep.getD (a + 1) false = true := by
   rcases (hWh a nd hnd _ hxm).2 hka with e | e
   ·exact e
   ·omega
  rw [show decide ((10 : Int) = 10) = true from rfl]
  repeat refine Kq rfl rfl rfl ?_
  (refine Z99 ?_; (repeat(first|refine Z9x rfl ?_|refine Z9y ?_)); refine Z9w ?_)
  refine Kc1 rfl ?_
  refine Ks ?_
  refine Zb1 (fun _ _ => rfl) ?_
  repeat refine Kq rfl rfl rfl ?_
  (refine Z99 ?_; (repeat(first|refine Z9x rfl ?_|refine Z9y ?_)); refine Z9w ?_)
  refine Z8s ?_
  obtain ⟨I, hI⟩ : ∃ I : Nat → Z27 → Zc → Prop, I = fun m F σ' => ∃ (i' : Nat) (st : Tk) (us : List Vl) (kv : Z0) (β : Zc), F = (fset 0 (some (.slc 9 (l.map encR) e)) (fset 1 (some (.slc 5 (cols.map Kc) g)) (fset 2 (some (.slc 1 (keep.map .bool) h)) (fset 3 (some (.int .i64 (a : Int))) (fset 4 (some (.iptr (Z1gu l.length ba bh))) (fset 10 (some (.ptr b10 0 0)) (fset 11 (some (.iptr (Zrl c))) (fset 13 (some (.int .i64 (j : Nat))) (fset 15 (some (.ptr b15 0 0)) (fset 16 (some (.int .i64 (i' : Nat))) Z28)))))))))) ∧
   β ++ ((b15, Zb.cells 5 [.agg [.bool false, .int .i64 0, .int .i64 0, .slc 0 [] true, kv]]) :: (b10, .cells 5 [.agg [.bool false, .int .i64 0, .int .i64 0, .slc 0 [] true, .slc 0 [] true]]) :: HS H ba bh st) = σ' ∧ Zb5 5 kv (Zmg us) β ∧ b15 ∉ Zh β ∧ ba ∉ Zh β ∧ bh ∉ Zh β ∧ st.sz l.length ∧ i' ≤ n.toNat ∧ us.length ≤ i' ∧ (∃ ws, iterO (takeL cols keep [u] (a + 1)) (n.toNat - i') st = some (ws, s') ∧ us ++ ws = VS) ∧ m = n.toNat - i' := ⟨_, rfl⟩
  refine Za6 I (n := n.toNat) (by
   rw [hI]
   exact ⟨0, s2, [], .slc 0 [] true, [], rfl, rfl, Zb5.nil 5 0, by simp [Zh], by simp [Zh], by simp [Zh], hsz2, by omega, by simp, ⟨VS, hts, rfl⟩, by omega⟩) ?_
  intro m0 F σ' hIm
  rw [hI] at hIm
  obtain ⟨i', st, us, kv, β, rfl, rfl, ho, hnb, hna, hnh, hst, hi', hus, ⟨ws, hw, hVS⟩, rfl⟩ := hIm
  (repeat(first|refine Kq rfl rfl rfl ?_|refine Ks ?_|refine Zb1 (fun _ _ => rfl) ?_))
  refine Z9d rfl (by omega) hgl ?_
  (repeat(first|refine Kq rfl rfl rfl ?_|(refine Z99 ?_; (repeat(first|refine Z9x rfl ?_|refine Z9y ?_)); refine Z9w ?_)))
  refine Za2 (p := (i' : Int) < n) rfl (fun h5 => ?_) (fun h5 => ?_)
  ·have hrest : n.toNat - i' = (n.toNat - (i' + 1)) + 1 := by omega
   rw [hrest, iterO, takeL] at hw
   split at hw
   ·cases hw
   rename_i u1 sE hL
   split at hL
   ·cases hL
   rename_i vj s1 ht1
   rw [takeL] at hL
   simp only [Option.some.injEq, Prod.mk.injEq] at hL
   obtain ⟨rfl, rfl⟩ := hL
   split at hw
   ·cases hw
   rename_i u2 s3 hR
   simp only [Option.some.injEq, Prod.mk.injEq] at hw
   obtain ⟨rfl, rfl⟩ := hw
   have hst1 := Z18s cols keep l.length _ _ _ _ _ ht1 hst
   refine Zb2 (fun _ _ => rfl) ?_
   refine Ks ?_
   refine Z8s ?_
   refine Zb1 (fun _ _ => rfl) ?_
   repeat refine Kq rfl rfl rfl ?_
   refine Z191 rfl rfl (by rw [Za9 hnb]; exact Z9a) rfl rfl ?_
   repeat refine Kq rfl rfl rfl ?_
   refine Z9d rfl (by omega) hgN ?_
   repeat refine Kq rfl rfl rfl ?_
   refine Z9d rfl (by omega) hx ?_
   repeat refine Kq rfl rfl rfl ?_
   refine Z192 rfl (call _ (by simp) _ _ hm hmt hkx st s1 vj hst ht1 β _ hna hnh) (kept _ _ _ _ _ rfl hnb) ?_
   repeat refine Kq rfl rfl rfl ?_
   refine Zb6 (ys := [.agg (Zmh vj)]) ho rfl rfl (by rw [Zmk, List.length_singleton]; omega) fun b' hb' => ?_
   obtain ⟨f9, fa, fh⟩ := fresh' b' β _ s1 hb'
   rw [heA]
   repeat refine Kq rfl rfl rfl ?_
   refine Z9g rfl (Z9b f9 Z9a) rfl (by decide) (Kfi rfl) (fun h => by cases h) (Z9i f9 Z9h) ?_
   (refine Z99 ?_; (repeat(first|refine Z9x rfl ?_|refine Z9y ?_)); refine Z9w ?_)
   refine Zb4 ?_
   repeat refine Kq rfl rfl rfl ?_
   rw [show IntKind.wrap .i64 ((i' : Int) + 1) = ((i' + 1 : Nat) : Int) by rw [w64 _ (by omega) (by omega)]; omega]
   (refine Z99 ?_; (repeat(first|refine Z9x rfl ?_|refine Z9y ?_)); refine Z9w ?_)
   refine ⟨_, n.toNat - (i' + 1), HSub.refl _, ?_, by omega⟩
   rw [hI]
   exact ⟨i' + 1, s1, us ++ [vj], _, _, rfl, rfl, Zb5.mk, nk _ _ _ f9, nk _ _ _ fa, nk _ _ _ fh, hst1, by omega, by rw [List.length_append, List.length_singleton]; omega, ⟨u2, hR, by rw [List.append_assoc]; exact hVS⟩, rfl⟩
  ·have hz : n.toNat - i' = 0 := by omega
   rw [hz, iterO] at hw
   simp only [Option.some.injEq, Prod.mk.injEq] at hw
   obtain ⟨rfl, rfl⟩ := hw
   rw [List.append_nil] at hVS
   subst hVS
   refine Zb3 (fun _ _ => rfl) ?_
   (refine Za0 (keep := [10, 15]) ?_; ((repeat(first|refine Z9x rfl ?_|refine Z9y ?_)); refine Z9w ?_))
   exact fin st kv us β 0 0 _ ho (hvle _ _ _) rfl rfl
 rw [show decide (k = 10) = false from decide_eq_false k10]
 repeat refine Kq rfl rfl rfl ?_
 (refine Z99 ?_; (repeat(first|refine Z9x rfl ?_|refine Z9y ?_)); refine Z9w ?_)
 refine Kc2 rfl ?_
 refine Ks ?_
 refine Zb1 (fun _ _ => rfl) ?_
 repeat refine Kq rfl rfl rfl ?_
 rw [hk]
 by_cases k11 : k = 11
 ·rw [if_pos (.inr k11)] at htk
  obtain ⟨n, hn⟩ : ∃ n, c.lens[j]? = some n := by
   cases e : c.lens[j]? with
   | none => rw [e] at htk; cases htk
   | some n => exact ⟨n, rfl⟩
  rw [hn] at htk
  have hn2 := hC.lens a c hc hka n (List.mem_of_getElem? hn)
  have hgl := hil2 (Z0.int .i64) c.lens n hn
  obtain ⟨VS, hts⟩ : ∃ VS, iterO (takeL cols keep ks (a + 1)) n.toNat s2 = some (VS, s') ∧ v = .mk false 0 0 [] VS := by
   simp only at htk
   split at htk
   ·cases htk
   ·rename_i vs s0 h0
    simp only [Option.some.injEq, Prod.mk.injEq] at htk
    obtain ⟨e1, rfl⟩ := htk
    exact ⟨vs, h0, e1.symm⟩
  obtain ⟨hts, rfl⟩ := hts
  subst k11
  have hk1 : ks.length = 2 := by
   rw [Zm6, if_neg (by decide), if_pos rfl] at hkk
   simpa using hkk
  obtain ⟨u, w, rfl⟩ : ∃ u w, ks = [u, w] := by
   match ks, hk1 with
   | [u, w], _ => exact ⟨u, w, rfl⟩
  obtain ⟨m, hx, hm, hmt, hxm⟩ := hkidx 0 u rfl
  obtain ⟨m', hx', hm', hmt', hxm'⟩ := hkidx 1 w rfl
  rw [show a + 1 + cntL (List.take 0 [u, w]) = a + 1 by simp [cntL]] at hx hm hxm
  rw [show a + 1 + cntL (List.take 1 [u, w]) = a + 1 + cnt u by simp [cntL]] at hx' hm' hxm'
  have hkx : keep.getD (a + 1) false = true := by
   rcases (hWh a nd hnd _ hxm).2 hka with e | e
   ·exact e
   ·omega
  have hkx' : keep.getD (a + 1 + cnt u) false = true := by
   rcases (hWh a nd hnd _ hxm').2 hka with e | e
   ·exact e
   ·omega
  rw [show decide ((11 : Int) = 11) = true from rfl]
  repeat refine Kq rfl rfl rfl ?_
  (refine Z99 ?_; (repeat(first|refine Z9x rfl ?_|refine Z9y ?_)); refine Z9w ?_)
  refine Kc1 rfl ?_
  refine Ks ?_
  refine Zb1 (fun _ _ => rfl) ?_
  repeat refine Kq rfl rfl rfl ?_
  (refine Z99 ?_; (repeat(first|refine Z9x rfl ?_|refine Z9y ?_)); refine Z9w ?_)
  refine Z8s ?_
  obtain ⟨I, hI⟩ : ∃ I : Nat → Z27 → Zc → Prop, I = fun m F σ' => ∃ (i' : Nat) (st : Tk) (us : List Vl) (kv : Z0) (β : Zc), F = (fset 0 (some (.slc 9 (l.map encR) e)) (fset 1 (some (.slc 5 (cols.map Kc) g)) (fset 2 (some (.slc 1 (keep.map .bool) h)) (fset 3 (some (.int .i64 (a : Int))) (fset 4 (some (.iptr (Z1gu l.length ba bh))) (fset 10 (some (.ptr b10 0 0)) (fset 11 (some (.iptr (Zrl c))) (fset 13 (some (.int .i64 (j : Nat))) (fset 15 (some (.ptr b15 0 0)) (fset 17 (some (.int .i64 (i' : Nat))) Z28)))))))))) ∧
   β ++ ((b15, Zb.cells 5 [.agg [.bool false, .int .i64 0, .int .i64 0, .slc 0 [] true, kv]]) :: (b10, .cells 5 [.agg [.bool false, .int .i64 0, .int .i64 0, .slc 0 [] true, .slc 0 [] true]]) :: HS H ba bh st) = σ' ∧ Zb5 5 kv (Zmg us) β ∧ b15 ∉ Zh β ∧ ba ∉ Zh β ∧ bh ∉ Zh β ∧ st.sz l.length ∧ i' ≤ n.toNat ∧ us.length ≤ i' * 2 ∧ (∃ ws, iterO (takeL cols keep [u, w] (a + 1)) (n.toNat - i') st = some (ws, s') ∧ us ++ ws = VS) ∧ m = n.toNat - i' := ⟨_, rfl⟩
  refine Za6 I (n := n.toNat) (by
   rw [hI]
   exact ⟨0, s2, [], .slc 0 [] true, [], rfl, rfl, Zb5.nil 5 0, by simp [Zh], by simp [Zh], by simp [Zh], hsz2, by omega, by simp, ⟨VS, hts, rfl⟩, by omega⟩) ?_
  intro m0 F σ' hIm
  rw [hI] at hIm
  obtain ⟨i', st, us, kv, β, rfl, rfl, ho, hnb, hna, hnh, hst, hi', hus, ⟨ws, hw, hVS⟩, rfl⟩ := hIm
  (repeat(first|refine Kq rfl rfl rfl ?_|refine Ks ?_|refine Zb1 (fun _ _ => rfl) ?_))
  refine Z9d rfl (by omega) hgl ?_
  (repeat(first|refine Kq rfl rfl rfl ?_|(refine Z99 ?_; (repeat(first|refine Z9x rfl ?_|refine Z9y ?_)); refine Z9w ?_)))
  refine Za2 (p := (i' : Int) < n) rfl (fun h5 => ?_) (fun h5 => ?_)
  ·have hrest : n.toNat - i' = (n.toNat - (i' + 1)) + 1 := by omega
   rw [hrest, iterO, takeL] at hw
   split at hw
   ·cases hw
   rename_i u1 sE hL
   split at hL
   ·cases hL
   rename_i vj s1 ht1
   split at hL
   ·cases hL
   rename_i ww s1b hL2
   rw [takeL] at hL2
   split at hL2
   ·cases hL2
   rename_i vj2 s1c ht2
   rw [takeL] at hL2
   simp only [Option.some.injEq, Prod.mk.injEq] at hL2
   obtain ⟨rfl, rfl⟩ := hL2
   simp only [Option.some.injEq, Prod.mk.injEq] at hL
   obtain ⟨rfl, rfl⟩ := hL
   split at hw
   ·cases hw
   rename_i u2 s3 hR
   simp only [Option.some.injEq, Prod.mk.injEq] at hw
   obtain ⟨rfl, rfl⟩ := hw
   have hst1 := Z18s cols keep l.length _ _ _ _ _ ht1 hst
   have hst2 := Z18s cols keep l.length _ _ _ _ _ ht2 hst1
   refine Zb2 (fun _ _ => rfl) ?_
   refine Ks ?_
   refine Z8s ?_
   refine Ks ?_
   refine Zb1 (fun _ _ => rfl) ?_
   repeat refine Kq rfl rfl rfl ?_
   refine Z191 rfl rfl (by rw [Za9 hnb]; exact Z9a) rfl rfl ?_
   repeat refine Kq rfl rfl rfl ?_
   refine Z9d rfl (by omega) hgN ?_
   repeat refine Kq rfl rfl rfl ?_
   refine Z9d rfl (by omega) hx ?_
   repeat refine Kq rfl rfl rfl ?_
   refine Z192 rfl (call _ (by simp) _ _ hm hmt hkx st s1 vj hst ht1 β _ hna hnh) (kept _ _ _ _ _ rfl hnb) ?_
   repeat refine Kq rfl rfl rfl ?_
   refine Zb6 (ys := [.agg (Zmh vj)]) ho rfl rfl (by rw [Zmk, List.length_singleton]; omega) fun b' hb' => ?_
   obtain ⟨f9, fa, fh⟩ := fresh' b' β _ s1 hb'
   rw [heA]
   repeat refine Kq rfl rfl rfl ?_
   refine Z9g rfl (Z9b f9 Z9a) rfl (by decide) (Kfi rfl) (fun h => by cases h) (Z9i f9 Z9h) ?_
   (refine Z99 ?_; (repeat(first|refine Z9x rfl ?_|refine Z9y ?_)); refine Z9w ?_)
   refine Zb1 (fun _ _ => rfl) ?_
   repeat refine Kq rfl rfl rfl ?_
   refine Z191 rfl rfl (Z9b f9 Z9a) rfl rfl ?_
   repeat refine Kq rfl rfl rfl ?_
   refine Z9d rfl (by omega) hgN ?_
   repeat refine Kq rfl rfl rfl ?_
   refine Z9d rfl (by omega) hx' ?_
   repeat refine Kq rfl rfl rfl ?_
   refine Z192 rfl (call _ (by simp) _ _ hm' hmt' hkx' s1 s1c vj2 hst1 ht2 [(b', _)] _ (nk _ _ _ fa) (nk _ _ _ fh)) (kept _ [(b', _)] _ _ _ rfl (nk _ _ _ f9)) ?_
   repeat refine Kq rfl rfl rfl ?_
   refine Zb6 (β := [(b', _)]) (ys := [.agg (Zmh vj2)]) Zb5.mk rfl rfl (by rw [Zmk, List.length_append, List.length_singleton]; simp only [List.length_singleton]; omega) fun b2' hb2' => ?_
   obtain ⟨f92, fa2, fh2⟩ := fresh' b2' [(b', _)] _ s1c hb2'
   rw [heA]
   repeat refine Kq rfl rfl rfl ?_
   refine Z9g rfl (Z9b f92 Z9a) rfl (by decide) (Kfi rfl) (fun h => by cases h) (Z9i f92 Z9h) ?_
   (refine Z99 ?_; (repeat(first|refine Z9x rfl ?_|refine Z9y ?_)); refine Z9w ?_)
   refine Zb4 ?_
   repeat refine Kq rfl rfl rfl ?_
   rw [show IntKind.wrap .i64 ((i' : Int) + 1) = ((i' + 1 : Nat) : Int) by rw [w64 _ (by omega) (by omega)]; omega]
   (refine Z99 ?_; (repeat(first|refine Z9x rfl ?_|refine Z9y ?_)); refine Z9w ?_)
   refine ⟨_, n.toNat - (i' + 1), HSub.refl _, ?_, by omega⟩
   rw [hI]
   exact ⟨i' + 1, s1c, us ++ [vj] ++ [vj2], _, _, rfl, rfl, Zb5.mk, nk _ _ _ f92, nk _ _ _ fa2, nk _ _ _ fh2, hst2, by omega, by rw [List.length_append, List.length_append, List.length_singleton, List.length_singleton]; omega, ⟨u2, hR, by rw [List.append_assoc, List.append_assoc]; exact hVS⟩, rfl⟩
  ·have hz : n.toNat - i' = 0 := by omega
   rw [hz, iterO] at hw
   simp only [Option.some.injEq, Prod.mk.injEq] at hw
   obtain ⟨rfl, rfl⟩ := hw
   rw [List.append_nil] at hVS
   subst hVS
   refine Zb3 (fun _ _ => rfl) ?_
   (refine Za0 (keep := [10, 15]) ?_; ((repeat(first|refine Z9x rfl ?_|refine Z9y ?_)); refine Z9w ?_))
   exact fin st kv us β 0 0 _ ho (hvle _ _ _) rfl rfl
 rw [if_neg (by omega)] at htk
 rw [show decide (k = 11) = false from decide_eq_false k11]
 repeat refine Kq rfl rfl rfl ?_
 (refine Z99 ?_; (repeat(first|refine Z9x rfl ?_|refine Z9y ?_)); refine Z9w ?_)
 refine Kc2 rfl ?_
 refine Ks ?_
 refine Zb1 (fun _ _ => rfl) ?_
 repeat refine Kq rfl rfl rfl ?_
 rw [hk]
 by_cases k12 : k = 12
 ·subst k12
  rw [if_pos rfl] at htk
  obtain ⟨VS, hts⟩ : ∃ VS, takeS cols keep ks (a + 1) s2 = some (VS, s') ∧ v = .mk false 0 0 [] VS := by
   split at htk
   ·cases htk
   ·rename_i vs s0 h0
    simp only [Option.some.injEq, Prod.mk.injEq] at htk
    obtain ⟨e1, rfl⟩ := htk
    exact ⟨vs, h0, e1.symm⟩
  obtain ⟨hts, rfl⟩ := hts
  rw [show decide ((12 : Int) = 12) = true from rfl]
  repeat refine Kq rfl rfl rfl ?_
  (refine Z99 ?_; (repeat(first|refine Z9x rfl ?_|refine Z9y ?_)); refine Z9w ?_)
  refine Kc1 rfl ?_
  refine Ks ?_
  refine Zb1 (fun _ _ => rfl) ?_
  repeat refine Kq rfl rfl rfl ?_
  (refine Z99 ?_; (repeat(first|refine Z9x rfl ?_|refine Z9y ?_)); refine Z9w ?_)
  refine Z8s ?_
  obtain ⟨I, hI⟩ : ∃ I : Nat → Z27 → Zc → Prop, I = fun m F σ' => ∃ (i' : Nat) (st : Tk) (us : List Vl) (kv : Z0) (β : Zc), F = (fset 0 (some (.slc 9 (l.map encR) e)) (fset 1 (some (.slc 5 (cols.map Kc) g)) (fset 2 (some (.slc 1 (keep.map .bool) h)) (fset 3 (some (.int .i64 (a : Int))) (fset 4 (some (.iptr (Z1gu l.length ba bh))) (fset 10 (some (.ptr b10 0 0)) (fset 15 (some (.ptr b15 0 0)) (fset 18 (some (.int .i64 (i' : Nat))) Z28)))))))) ∧
   β ++ ((b15, Zb.cells 5 [.agg [.bool false, .int .i64 0, .int .i64 0, .slc 0 [] true, kv]]) :: (b10, .cells 5 [.agg [.bool false, .int .i64 0, .int .i64 0, .slc 0 [] true, .slc 0 [] true]]) :: HS H ba bh st) = σ' ∧ Zb5 5 kv (Zmg us) β ∧ b15 ∉ Zh β ∧ ba ∉ Zh β ∧ bh ∉ Zh β ∧ st.sz l.length ∧ i' ≤ nd.kids.length ∧ us.length ≤ i' ∧ (∃ ws, takeS cols keep (ks.drop i') (a + 1 + cntL (ks.take i')) st = some (ws, s') ∧ us ++ ws = VS) ∧ m = nd.kids.length - i' := ⟨_, rfl⟩
  refine Za6 I (n := nd.kids.length) (by
   rw [hI]
   exact ⟨0, s2, [], .slc 0 [] true, [], rfl, rfl, Zb5.nil 5 0, by simp [Zh], by simp [Zh], by simp [Zh], hsz2, by omega, by simp, ⟨VS, by simpa [cntL] using hts, rfl⟩, by omega⟩) ?_
  intro m0 F σ' hIm
  rw [hI] at hIm
  obtain ⟨j', st, us, kv, β, rfl, rfl, ho, hnb, hna, hnh, hst, hj', hus, ⟨ws, hw, hVS⟩, rfl⟩ := hIm
  (repeat(first|refine Kq rfl rfl rfl ?_|refine Ks ?_|refine Zb1 (fun _ _ => rfl) ?_))
  refine Z9d rfl (by omega) hgN ?_
  (repeat(first|refine Kq rfl rfl rfl ?_|(refine Z99 ?_; (repeat(first|refine Z9x rfl ?_|refine Z9y ?_)); refine Z9w ?_)))
  rw [hkn]
  refine Za2 (p := (j' : Int) < (nd.kids.length : Nat)) rfl (fun h5 => ?_) (fun h5 => ?_)
  ·have hjl : j' < nd.kids.length := by omega
   have hjk : j' < ks.length := by omega
   obtain ⟨m, hx, hm, hmt, hxm⟩ := hkidx j' ks[j'] (List.getElem?_eq_getElem hjk)
   have hcs := Z18q ks j' ks[j'] (List.getElem?_eq_getElem hjk)
   have humem : ks[j'] ∈ ks := List.getElem_mem hjk
   rw [List.drop_eq_getElem_cons hjk, takeS] at hw
   generalize ks[j'] = u at hm hmt hcs hw humem hx
   generalize hxe : a + 1 + cntL (ks.take j') = x at hx hm hw hxm
   have hxl : x < l.length := (List.getElem?_eq_some_iff.1 hm).1
   have hgk := Zrn (f := Z0.bool) (show x < keep.length by omega)
   have hdk : keep.getD x false = keep[x] := by rw [List.getD_eq_getElem?_getD, List.getElem?_eq_getElem (by omega)]; rfl
   rw [hdk] at hw
   generalize keep[x] = kx at hgk hw hdk
   have hcs2 : a + 1 + cntL (ks.take (j' + 1)) = x + cnt u := by omega
   refine Zb2 (fun _ _ => rfl) ?_
   refine Ks ?_
   refine Z8s ?_
   refine Ks ?_
   refine Zb1 (fun _ _ => rfl) ?_
   repeat refine Kq rfl rfl rfl ?_
   refine Z9d rfl (by omega) hgN ?_
   repeat refine Kq rfl rfl rfl ?_
   refine Z9d rfl (by omega) hx ?_
   repeat refine Kq rfl rfl rfl ?_
   refine Z9d rfl (by omega) hgk ?_
   repeat refine Kq rfl rfl rfl ?_
   (refine Z99 ?_; (repeat(first|refine Z9x rfl ?_|refine Z9y ?_)); refine Z9w ?_)
   cases kx with
   | false =>
    simp only [Bool.false_eq_true, if_false] at hw
    refine Kc2 rfl ?_
    refine Zb2 (fun _ _ => rfl) ?_
    (refine Za0 (keep := [0, 1, 2, 3, 4, 10, 15, 18]) ?_; ((repeat(first|refine Z9x rfl ?_|refine Z9y ?_)); refine Z9w ?_))
    refine Zb4 ?_
    repeat refine Kq rfl rfl rfl ?_
    rw [show IntKind.wrap .i64 ((j' : Int) + 1) = ((j' + 1 : Nat) : Int) by rw [w64 _ (by omega) (by omega)]; omega]
    (refine Z99 ?_; (repeat(first|refine Z9x rfl ?_|refine Z9y ?_)); refine Z9w ?_)
    refine ⟨_, nd.kids.length - (j' + 1), HSub.refl _, ?_, by omega⟩
    rw [hI]
    exact ⟨j' + 1, st, us, kv, β, rfl, rfl, ho, hnb, hna, hnh, hst, by omega, by omega, ⟨ws, by rw [hcs2]; exact hw, hVS⟩, rfl⟩
   | true =>
    have hkx := hdk
    simp only [if_true] at hw
    split at hw
    ·cases hw
    rename_i vj s1 ht1
    split at hw
    ·cases hw
    rename_i w2 s3 hw2
    simp only [Option.some.injEq, Prod.mk.injEq] at hw
    obtain ⟨rfl, rfl⟩ := hw
    have hst1 := Z18s cols keep l.length _ _ _ _ _ ht1 hst
    refine Kc1 rfl ?_
    refine Zb1 (fun _ _ => rfl) ?_
    repeat refine Kq rfl rfl rfl ?_
    refine Z191 rfl rfl (by rw [Za9 hnb]; exact Z9a) rfl rfl ?_
    repeat refine Kq rfl rfl rfl ?_
    refine Z9d rfl (by omega) hgN ?_
    repeat refine Kq rfl rfl rfl ?_
    refine Z9d rfl (by omega) hx ?_
    repeat refine Kq rfl rfl rfl ?_
    refine Z192 rfl (call _ humem _ _ hm hmt hkx st s1 vj hst ht1 β _ hna hnh) (kept _ _ _ _ _ rfl hnb) ?_
    repeat refine Kq rfl rfl rfl ?_
    refine Zb6 (ys := [.agg (Zmh vj)]) ho rfl rfl (by rw [Zmk, List.length_singleton]; omega) fun b' hb' => ?_
    obtain ⟨f9, fa, fh⟩ := fresh' b' β _ s1 hb'
    rw [heA]
    repeat refine Kq rfl rfl rfl ?_
    refine Z9g rfl (Z9b f9 Z9a) rfl (by decide) (Kfi rfl) (fun h => by cases h) (Z9i f9 Z9h) ?_
    (refine Z99 ?_; (repeat(first|refine Z9x rfl ?_|refine Z9y ?_)); refine Z9w ?_)
    refine Zb4 ?_
    repeat refine Kq rfl rfl rfl ?_
    rw [show IntKind.wrap .i64 ((j' : Int) + 1) = ((j' + 1 : Nat) : Int) by rw [w64 _ (by omega) (by omega)]; omega]
    (refine Z99 ?_; (repeat(first|refine Z9x rfl ?_|refine Z9y ?_)); refine Z9w ?_)
    refine ⟨_, nd.kids.length - (j' + 1), HSub.refl _, ?_, by omega⟩
    rw [hI]
    exact ⟨j' + 1, s1, us ++ [vj], _, _, rfl, rfl, Zb5.mk, nk _ _ _ f9, nk _ _ _ fa, nk _ _ _ fh, hst1, by omega, by rw [List.length_append, List.length_singleton]; omega, ⟨w2, by rw [hcs2]; exact hw2, by rw [List.append_assoc]; exact hVS⟩, rfl⟩
  ·rw [List.drop_of_length_le (by omega), takeS] at hw
   simp only [Option.some.injEq, Prod.mk.injEq] at hw
   obtain ⟨rfl, rfl⟩ := hw
   rw [List.append_nil] at hVS
   subst hVS
   refine Zb3 (fun _ _ => rfl) ?_
   (refine Za0 (keep := [10, 15]) ?_; ((repeat(first|refine Z9x rfl ?_|refine Z9y ?_)); refine Z9w ?_))
   exact fin st kv us β 0 0 _ ho (hvle _ _ _) rfl rfl
 rw [if_neg k12] at htk
 rw [show decide (k = 12) = false from decide_eq_false k12]
 repeat refine Kq rfl rfl rfl ?_
 (refine Z99 ?_; (repeat(first|refine Z9x rfl ?_|refine Z9y ?_)); refine Z9w ?_)
 refine Kc2 rfl ?_
 refine Ks ?_
 refine Zb1 (fun _ _ => rfl) ?_
 repeat refine Kq rfl rfl rfl ?_
 rw [hk]
 by_cases k13 : k = 13
 ·subst k13
  rw [if_pos rfl] at htk
  obtain ⟨n, hn⟩ : ∃ n, c.ints[j]? = some n := by
   cases e : c.ints[j]? with
   | none => rw [e] at htk; cases htk
   | some n => exact ⟨n, rfl⟩
  rw [hn] at htk
  have hgi := hil2 (Z0.int .i64) c.ints n hn
  simp only at htk
  split at htk
  ·cases htk
  rename_i hn0
  split at htk
  ·cases htk
  rename_i vj s1 hN1
  simp only [Option.some.injEq, Prod.mk.injEq] at htk
  obtain ⟨rfl, rfl⟩ := htk
  obtain ⟨u, hu, ht1⟩ := Z18p hN1
  obtain ⟨m, hx, hm, hmt, hxm⟩ := hkidx n.toNat u hu
  have humem := List.mem_of_getElem? hu
  have hxn : (ints nd.kids)[n.toNat]? = some (.int .i64 ((a + 1 + cntL (ks.take n.toNat) : Nat) : Int)) := by rw [← hx, Int.toNat_natCast]
  generalize a + 1 + cntL (ks.take n.toNat) = x at hx hm ht1 hxn hxm
  have hkx : keep.getD x false = true := by
   rcases (hWh a nd hnd x hxm).2 hka with e | e
   ·exact e
   ·rw [hk] at e; cases e
  rw [show decide ((13 : Int) = 13) = true from rfl]
  repeat refine Kq rfl rfl rfl ?_
  (refine Z99 ?_; (repeat(first|refine Z9x rfl ?_|refine Z9y ?_)); refine Z9w ?_)
  refine Kc1 rfl ?_
  refine Ks ?_
  refine Zb1 (fun _ _ => rfl) ?_
  repeat refine Kq rfl rfl rfl ?_
  refine Z9d rfl (by omega) hgi ?_
  repeat refine Kq rfl rfl rfl ?_
  (first|refine Z9g rfl Z9a rfl (by decide) (Kfi rfl) (fun h => by cases h) Z9h ?_|refine Z96 rfl (Z9g rfl Z9a rfl (by decide) (Kfi rfl) (fun h => by cases h) Z9h ?_))
  (refine Z99 ?_; (repeat(first|refine Z9x rfl ?_|refine Z9y ?_)); refine Z9w ?_)
  refine Zb1 (fun _ _ => rfl) ?_
  repeat refine Kq rfl rfl rfl ?_
  refine Z9d rfl (by omega) hgN ?_
  repeat refine Kq rfl rfl rfl ?_
  refine Z9c rfl Z9a rfl rfl ?_
  refine Z9d rfl (by omega) hxn ?_
  repeat refine Kq rfl rfl rfl ?_
  refine Z9v rfl (call u humem x m hm hmt hkx s2 s1 vj hsz2 ht1 [] _ (by simp [Zh]) (by simp [Zh])) ?_
  repeat refine Kq rfl rfl rfl ?_
  refine Z9g rfl Z9a rfl (by decide) (Kfi rfl) (fun h => by cases h) Z9h ?_
  (refine Z99 ?_; (repeat(first|refine Z9x rfl ?_|refine Z9y ?_)); refine Z9w ?_)
  (refine Za0 (keep := [10, 15]) ?_; ((repeat(first|refine Z9x rfl ?_|refine Z9y ?_)); refine Z9w ?_))
  have hF := fin0 s1 [vj] true n 0 (.slc 0 [] true) (by rw [encV]; refine VRle.agg (by simp [Z0.one]) ?_; exact VRle.cons (VRle.refl _) (VRle.cons (VRle.refl _) (VRle.cons (VRle.refl _) (VRle.cons (by rw [show bytes [] = [] from rfl]; exact VRle.nilF _ _) (VRle.cons VRle.full (VRle.refl _)))))) rfl rfl
  rw [show Zmg [vj] = [Z0.agg (Zmh vj)] from by rw [Zmj, List.map_cons, List.map_nil, Zmi]] at hF
  exact hF
 rw [if_neg k13, if_neg hT7] at htk
 rw [show decide (k = 13) = false from decide_eq_false k13]
 repeat refine Kq rfl rfl rfl ?_
 (refine Z99 ?_; (repeat(first|refine Z9x rfl ?_|refine Z9y ?_)); refine Z9w ?_)
 refine Kc2 rfl ?_
 refine Ks ?_
 refine Zb1 (fun _ _ => rfl) ?_
 by_cases k9 : k = 9
 ·subst k9
  rw [if_pos rfl] at htk
  split at htk
  ·rename_i m n hm hn
   simp only [Option.some.injEq, Prod.mk.injEq] at htk
   obtain ⟨rfl, rfl⟩ := htk
   have hgm := hil2 (Z0.int .i64) c.ns m hm
   have hgn := hil2 (Z0.int .i64) c.ints n hn
   repeat refine Kq rfl rfl rfl ?_
   refine Z9d rfl (by omega) hgn ?_
   repeat refine Kq rfl rfl rfl ?_
   (first|refine Z9g rfl Z9a rfl (by decide) (Kfi rfl) (fun h => by cases h) Z9h ?_|refine Z96 rfl (Z9g rfl Z9a rfl (by decide) (Kfi rfl) (fun h => by cases h) Z9h ?_))
   (refine Z99 ?_; (repeat(first|refine Z9x rfl ?_|refine Z9y ?_)); refine Z9w ?_)
   refine Ks ?_
   refine Zb1 (fun _ _ => rfl) ?_
   repeat refine Kq rfl rfl rfl ?_
   rw [hk, show decide ((9 : Int) = 9) = true from rfl]
   (refine Z99 ?_; (repeat(first|refine Z9x rfl ?_|refine Z9y ?_)); refine Z9w ?_)
   refine Kc1 rfl ?_
   refine Zb1 (fun _ _ => rfl) ?_
   repeat refine Kq rfl rfl rfl ?_
   refine Z9d rfl (by omega) hgm ?_
   repeat refine Kq rfl rfl rfl ?_
   (first|refine Z9g rfl Z9a rfl (by decide) (Kfi rfl) (fun h => by cases h) Z9h ?_|refine Z96 rfl (Z9g rfl Z9a rfl (by decide) (Kfi rfl) (fun h => by cases h) Z9h ?_))
   (refine Z99 ?_; (repeat(first|refine Z9x rfl ?_|refine Z9y ?_)); refine Z9w ?_)
   (refine Za0 (keep := [10, 15]) ?_; ((repeat(first|refine Z9x rfl ?_|refine Z9y ?_)); refine Z9w ?_))
   exact fin s2 _ [] [] n m _ (Zb5.nil 5 0) (hvle _ _ _) rfl rfl
  ·cases htk
 rw [if_neg k9] at htk
 obtain ⟨n, hn⟩ : ∃ n, c.ints[j]? = some n := by
  cases e : c.ints[j]? with
  | none => rw [e] at htk; cases htk
  | some n => exact ⟨n, rfl⟩
 rw [hn] at htk
 simp only [Option.some.injEq, Prod.mk.injEq] at htk
 obtain ⟨rfl, rfl⟩ := htk
 have hgn := hil2 (Z0.int .i64) c.ints n hn
 repeat refine Kq rfl rfl rfl ?_
 refine Z9d rfl (by omega) hgn ?_
 repeat refine Kq rfl rfl rfl ?_
 (first|refine Z9g rfl Z9a rfl (by decide) (Kfi rfl) (fun h => by cases h) Z9h ?_|refine Z96 rfl (Z9g rfl Z9a rfl (by decide) (Kfi rfl) (fun h => by cases h) Z9h ?_))
 (refine Z99 ?_; (repeat(first|refine Z9x rfl ?_|refine Z9y ?_)); refine Z9w ?_)
 refine Ks ?_
 refine Zb1 (fun _ _ => rfl) ?_
 repeat refine Kq rfl rfl rfl ?_
 rw [hk, show decide (k = 9) = false from decide_eq_false k9]
 (refine Z99 ?_; (repeat(first|refine Z9x rfl ?_|refine Z9y ?_)); refine Z9w ?_)
 refine Kc2 rfl ?_
 refine Zb2 (fun _ _ => rfl) ?_
 (refine Za0 (keep := [10, 15]) ?_; ((repeat(first|refine Z9x rfl ?_|refine Z9y ?_)); refine Z9w ?_))
 exact fin s2 _ [] [] n 0 _ (Zb5.nil 5 0) (hvle _ _ _) rfl rfl
end Go.Abs
namespace Go.Abs
open Go Go.Proofs
theorem kp_eq {keep : List Nat} {F G0 : Z27} {R : Z27 → Prop} (h : KP keep F fun G => G = G0) (h' : R G0) : KP keep F R := by
 obtain ⟨G, hG, rfl⟩ := h
 exact ⟨_, hG, h'⟩
attribute [local irreducible] AWp aops KP
theorem Z1gw {xs : List Bool} {i : Nat} {x y : Bool} : (xs.map Z0.bool).set (0 + (i : Int).toNat) (Z1t (.bool x) 0 (Z0.bool y).cells) = (xs.set i y).map .bool := by rw [Nat.zero_add, Int.toNat_natCast, List.map_set]; rfl
theorem Z1gx {xs : List Int} {i : Nat} {x y : Int} : (xs.map (Z0.int .i64)).set (0 + (i : Int).toNat) (Z1t (.int .i64 x) 0 (Z0.int .i64 y).cells) = (xs.set i y).map (.int .i64) := by rw [Nat.zero_add, Int.toNat_natCast, List.map_set]; rfl
theorem Z1gy (t : Ty) (ht : t.Fit) (h0 : Zm8 t = 0) (cols : List Col) (n : Nat) (hn : n ≤ 4096) (kb keep : List Bool) (hkb : (kb = [] ∧ keep = List.replicate (Zmf t).length true) ∨ (keep = kb ∧ kb ≠ []))
  (hkl : keep.length = (Zmf t).length) (hk0 : keep.getD 0 false = true) (hclen : cols.length = (Zmf t).length) (hin : ∀ c ∈ cols, ColIn c) (hW : Whole (Zmf t) keep) (g f : Bool) (σ : Zc) :
  Z1s Try.prog Zd5 [encT t, .slc 5 (cols.map Kc) g, .int .i64 (n : Int), .slc 1 (kb.map .bool) f] σ fun r σ' => r = .tup [.slc 5 (Zmg (bresF (Zmf t) cols keep t n).1) false, .int .i64 ((bresF (Zmf t) cols keep t n).2 : Nat)] ∧ σ' = σ := by
 have hfl := Zrb t (Znn t ht)
 have hck := Znn t ht
 have hT := Z18f t
 have hK := Z1a7 t
 have hpos : 0 < (Zmf t).length := by
  obtain ⟨n0, e, _⟩ := Z18j h0
  exact (List.getElem?_eq_some_iff.1 e).1
 obtain ⟨n0, hn0, hn0t⟩ := Z18j h0
 have hL100 := Zxj t
 have hok := Z13m t
 have hcnt : cnt t = (Zmf t).length := by rw [Zmf, if_pos h0, Zmc]
 rw [h0] at hck
 rw [Zm0] at hfl hck ⊢
 generalize Zmf t = l at *
 have hll : (l.map encR).length = l.length := List.length_map ..
 have hcl : (cols.map Kc).length = cols.length := List.length_map ..
 have hbl : (kb.map Z0.bool).length = kb.length := List.length_map ..
 have hz0 : ∀ m : Nat, List.replicate ((m : Nat) : Int).toNat (Z0.int .i64 0) = (List.replicate m (0 : Int)).map (.int .i64) := fun m => by rw [List.map_replicate, Int.toNat_natCast]
 have hzb : ∀ m : Nat, List.replicate ((m : Nat) : Int).toNat (Z0.bool false) = (List.replicate m false).map .bool := fun m => by rw [List.map_replicate, Int.toNat_natCast]
 have main : AWp Try.prog Z1dj.n (Z1dj.code.snd 5) (ARet Z1dj.res fun r σ' => r = .tup [.slc 5 (Zmg (bresF l cols keep t n).1) false, .int .i64 ((bresF l cols keep t n).2 : Nat)] ∧ σ' = σ)
   (fset 1 (some (.slc 5 (cols.map Kc) g)) (fset 2 (some (.int .i64 (n : Int))) (fset 10 (some (.slc 9 (l.map encR) false)) (fset 11 (some (.slc 1 (keep.map .bool) false)) Z28)))) σ := by
  clear hkb
  have hg0 : (keep.map Z0.bool)[(0 : Int).toNat]? = some (.bool true) := by
   have h := List.getElem?_eq_getElem (show 0 < keep.length by omega)
   rw [List.getD_eq_getElem?_getD, h, Option.getD_some] at hk0
   show (keep.map Z0.bool)[0]? = _
   rw [List.getElem?_map, h, hk0]; rfl
  refine Ks ?_
  refine Ks ?_
  refine Zb1 (fun _ _ => rfl) ?_
  repeat refine Kq rfl rfl rfl ?_
  refine Z9d rfl (by omega) hg0 ?_
  repeat refine Kq rfl rfl rfl ?_
  (refine Z99 ?_; (repeat(first|refine Z9x rfl ?_|refine Z9y ?_)); refine Z9w ?_)
  refine Kc2 rfl ?_
  refine Zb2 (fun _ _ => rfl) ?_
  refine Za1 ?_
  repeat refine Kq rfl rfl rfl ?_
  rw [hll]
  refine Z9p rfl (Kfi rfl) (by omega) (by omega) (by omega) (by omega) fun b13 hb13 => ?_
  repeat refine Kq rfl rfl rfl ?_
  (refine Z99 ?_; (repeat(first|refine Z9x rfl ?_|refine Z9y ?_)); refine Z9w ?_)
  rw [hz0, Int.toNat_natCast]
  refine Za1 ?_
  repeat refine Kq rfl rfl rfl ?_
  refine Z9e rfl ⟨by omega, by omega⟩ ?_
  have hx1 : ((List.replicate l.length (0 : Int)).map (Z0.int .i64))[0 + (0 : Int).toNat]? = some (.int .i64 0) := by
   rw [List.getElem?_map, List.getElem?_replicate, if_pos (by simpa using hpos)]; rfl
  refine Z9g rfl Z9a hx1 (by decide) (Kfi rfl) (fun _ => ⟨rfl, rfl⟩) Z9h ?_
  (refine Z99 ?_; (repeat(first|refine Z9x rfl ?_|refine Z9y ?_)); refine Z9w ?_)
  have e1 : ((List.replicate l.length (0 : Int)).map (Z0.int .i64)).set (0 + (0 : Int).toNat) (Z1t (.int .i64 0) 0 (Z0.int .i64 (n : Int)).cells) = ((List.replicate l.length (0 : Int)).set 0 (n : Int)).map (.int .i64) := by rw [List.map_set]; rfl
  rw [e1]
  have hI0 : AskI l keep (wantF l cols n) (keyF l) 0 0 ((List.replicate l.length (0 : Int)).set 0 (n : Int)) ((List.replicate l.length false).set 0 true) := by
   refine ⟨by simp, by simp, fun x hx hkx hd => ?_⟩
   rcases hd with rfl | ⟨p, q, m, _, _, h3⟩
   ·rw [List.getElem?_set_self (by rw [List.length_replicate]; exact hx), List.getElem?_set_self (by rw [List.length_replicate]; exact hx), Z1gf hT hn0, Z1gg hT hn0]
    exact ⟨rfl, rfl⟩
   ·omega
  generalize (List.replicate l.length (0 : Int)).set 0 (n : Int) = W0 at hI0 ⊢
  generalize (List.replicate l.length false).set 0 true = B0 at hI0
  refine Ks ?_
  refine Ks ?_
  refine Zb1 (fun _ _ => rfl) ?_
  repeat refine Kq rfl rfl rfl ?_
  (refine Z99 ?_; (repeat(first|refine Z9x rfl ?_|refine Z9y ?_)); refine Z9w ?_)
  refine Z8s ?_
  obtain ⟨I, hI⟩ : ∃ I : Nat → Z27 → Zc → Prop, I = fun m F σ' => ∃ (i : Nat) (W : List Int) (B : List Bool), F = fset 1 (some (.slc 5 (cols.map Kc) g)) (fset 2 (some (.int .i64 (n : Int))) (fset 10 (some (.slc 9 (l.map encR) false)) (fset 11 (some (.slc 1 (keep.map .bool) false)) (fset 13 (some (.arr 1 b13 0 l.length)) (fset 14 (some (.int .i64 (i : Nat))) Z28))))) ∧
   (b13, Zb.cells 1 (W.map (.int .i64))) :: σ = σ' ∧ i ≤ l.length ∧ AskI l keep (wantF l cols n) (keyF l) i 0 W B ∧ Clean l cols keep n i ∧ m = l.length - i := ⟨_, rfl⟩
  refine Za6 I (n := l.length) (by rw [hI]; exact ⟨0, W0, B0, rfl, rfl, by omega, hI0, fun x hx => by omega, by omega⟩) ?_
  intro m0 F σ' hIm
  rw [hI] at hIm
  obtain ⟨i, W, B, rfl, rfl, hi, hAI, hCl, rfl⟩ := hIm
  (repeat(first|refine Kq rfl rfl rfl ?_|(refine Z99 ?_; (repeat(first|refine Z9x rfl ?_|refine Z9y ?_)); refine Z9w ?_)|refine Ks ?_|refine Zb1 (fun _ _ => rfl) ?_))
  rw [hll]
  refine Za2 (p := (i : Int) < (l.length : Nat)) rfl (fun h3 => ?_) (fun h3 => ?_)
  ·have hil : i < l.length := by omega
   have hic : i < cols.length := by omega
   have hgN := Zrn (f := encR) hil
   have hgC := Zrn (f := Kc) hic
   have hgK := Zrn (f := Z0.bool) (show i < keep.length by omega)
   have hlI := List.getElem?_eq_getElem hil
   have hcD : cols.getD i col0 = cols[i] := by rw [List.getD_eq_getElem?_getD, List.getElem?_eq_getElem hic]; rfl
   have hdK : keep.getD i false = keep[i] := by rw [List.getD_eq_getElem?_getD, List.getElem?_eq_getElem (by omega)]; rfl
   have hnx : i + 1 ≤ l.length := hil
   have round : ∀ (W' : List Int) (B' : List Bool), AskI l keep (wantF l cols n) (keyF l) (i + 1) 0 W' B' → Clean l cols keep n (i + 1) → ∀ Q : Z8i, AWp Try.prog Z1dj.n (.region Z1d9 [1, 2, 10, 11, 13, 14]) (Za5 I (l.length - i) Q)
     (fset 1 (some (.slc 5 (cols.map Kc) g)) (fset 2 (some (.int .i64 (n : Int))) (fset 10 (some (.slc 9 (l.map encR) false)) (fset 11 (some (.slc 1 (keep.map .bool) false)) (fset 13 (some (.arr 1 b13 0 l.length)) (fset 14 (some (.int .i64 (i : Nat))) Z28))))))
     ((b13, Zb.cells 1 (W'.map (.int .i64))) :: σ) := by
    intro W' B' hA' hC' Q
    refine Zb4 ?_
    repeat refine Kq rfl rfl rfl ?_
    rw [Kwr i (by omega)]
    (refine Z99 ?_; (repeat(first|refine Z9x rfl ?_|refine Z9y ?_)); refine Z9w ?_)
    refine ⟨_, l.length - (i + 1), HSub.refl _, ?_, by omega⟩
    rw [hI]
    exact ⟨i + 1, W', B', rfl, rfl, hnx, hA', hC', rfl⟩
   have hIn := hin cols[i] (List.getElem_mem hic)
   have hnok := hok l[i] (List.getElem_mem hil)
   have hnlen := (hT.nok i l[i] hlI).len
   have hft : faultF l cols keep n i = if keep.getD i false = true then wrongF l[i] (cols.getD i col0) (wantF l cols n i) (!(keyF l i)) else 0 := by rw [faultF, hlI]
   have hhit : faultF l cols keep n i ≠ 0 → bresF l cols keep t n = ([], faultF l cols keep n i) := fun h => Z1gm (Z1gl h hCl _ _ (Nat.zero_le _) (by omega)) h
   have hnx2 := fun (h : faultF l cols keep n i = 0) => hCl.next h
   have hkid := fun (hk : keep.getD i false = true) (j : Nat) (W : List Int) (B : List Bool) (h : AskI l keep (wantF l cols n) (keyF l) i j W B) (x : Nat) => Z1gp hT (fun j x hx => ⟨Z1gi hT hlI cols n hx, Z1ac hT hlI hx⟩) h hlI (x := x)
   have hnext := fun (j : Nat) (W : List Int) (B : List Bool) (h : AskI l keep (wantF l cols n) (keyF l) i j W B) => AskI.next hT h hlI (j := j)
   have hskip := fun (h : keep.getD i false = false) => AskI.skip hT hW hAI hlI h
   have hat := fun (h : keep.getD i false = true) => AskI.at hT hAI hlI h
   have hkx := hK.lt _ (List.getElem_mem hil)
   have hkn1 := hK.num _ (List.getElem_mem hil)
   have hkey : (i = 0 ∧ l[i].parent = -1 ∧ keyF l i = true) ∨ (i ≠ 0 ∧ ∃ (p : Nat) (q : Nd), l[i].parent = (p : Int) ∧ l[p]? = some q ∧ keyF l i = (decide (q.t.kind = 11) && decide (q.kids[0]? = some i)) ∧ (q.t.kind = 11 → 0 < q.kids.length)) := by
    by_cases h : i = 0
    ·subst h
     exact .inl ⟨rfl, (hT.root _ hlI).1, Z1gg hT hlI⟩
    ·obtain ⟨⟨p, q, j, e1, e2, e3, e4, _⟩⟩ := hT.par i _ hlI (by omega)
     refine .inr ⟨h, p, q, e1, e3, ?_, fun _ => by have := (List.getElem?_eq_some_iff.1 e4).1; omega⟩
     rw [keyF, hlI]
     simp only
     rw [e1, if_neg (by omega), Int.toNat_natCast, e3]
   rw [hcD] at hft
   rw [hcD] at hkid
   rw [hdK] at hft hkid hskip hat
   generalize l[i] = nd at hgN hft hkid hnext hkx hkn1 hnok hnlen hkey
   generalize cols[i] = c at hgC hft hkid hIn
   generalize keep[i] = ki at hgK hft hkid hskip hat
   have hkn : (ints nd.kids).length = nd.kids.length := List.length_map ..
   refine Zb2 (fun _ _ => rfl) ?_
   refine Ks ?_
   refine Z8s ?_
   refine Ks ?_
   refine Ks ?_
   refine Zb1 (fun _ _ => rfl) ?_
   repeat refine Kq rfl rfl rfl ?_
   refine Z9d rfl (by omega) hgK ?_
   repeat refine Kq rfl rfl rfl ?_
   (refine Z99 ?_; (repeat(first|refine Z9x rfl ?_|refine Z9y ?_)); refine Z9w ?_)
   cases ki with
   | false =>
    refine Kc1 rfl ?_
    refine Zb3 (fun _ _ => rfl) ?_
    (refine Za0 (keep := [1, 2, 10, 11, 13, 14]) ?_; ((repeat(first|refine Z9x rfl ?_|refine Z9y ?_)); refine Z9w ?_))
    exact round W B (hskip rfl) (hnx2 (by rw [hft, if_neg (by simp)])) _
   | true =>
    obtain ⟨hw1, hw2⟩ := hat rfl
    rw [if_pos rfl] at hft
    have hRt : wrongF nd c (wantF l cols n i) (!keyF l i) = 0 → Right nd c (wantF l cols n i) (!keyF l i) := fun h => Z18o hkn1 hnok hnlen hIn.here hIn.int h
    have hwl : i < W.length := by rw [hAI.lw]; exact hil
    have hgW : (W.map (Z0.int .i64))[0 + ((i : Nat) : Int).toNat]? = some (.int .i64 ((wantF l cols n i : Nat) : Int)) := by rw [Nat.zero_add, Int.toNat_natCast, List.getElem?_map, hw1]; rfl
    refine Kc2 rfl ?_
    refine Zb2 (fun _ _ => rfl) ?_
    (refine Za0 (keep := [1, 2, 10, 11, 13, 14]) ?_; ((repeat(first|refine Z9x rfl ?_|refine Z9y ?_)); refine Z9w ?_))
    rw [encR, Zme, Zlz] at hgN
    refine Za1 ?_
    repeat refine Kq rfl rfl rfl ?_
    refine Z9d rfl (by omega) hgN ?_
    repeat refine Kq rfl rfl rfl ?_
    (refine Z99 ?_; (repeat(first|refine Z9x rfl ?_|refine Z9y ?_)); refine Z9w ?_)
    refine Ks ?_
    refine Za8 (fun F' σ' => σ' = (b13, Zb.cells 1 (W.map (.int .i64))) :: σ ∧ ∃ key : Bool, (decide ((i : Int) = 0) || key) = keyF l i ∧ KP [1, 2, 10, 11, 13, 14, 16] F' fun G => G =
     fset 1 (some (.slc 5 (cols.map Kc) g)) (fset 2 (some (.int .i64 (n : Int))) (fset 10 (some (.slc 9 (l.map encR) false)) (fset 11 (some (.slc 1 (keep.map .bool) false)) (fset 13 (some (.arr 1 b13 0 l.length)) (fset 14 (some (.int .i64 (i : Nat))) (fset 16 (some (.bool key)) Z28))))))) ?_ ?_
    ·rcases hkey with ⟨h1, h2, h3⟩ | ⟨h1, p, q, h2, h3, h4, h5⟩
     ·repeat refine Kq rfl rfl rfl ?_
      rw [h2]
      (repeat(first|refine Kq rfl rfl rfl ?_|refine Z97 rfl ?_))
      refine Z99 ⟨rfl, false, by rw [h3, h1]; rfl, ?_⟩
      ((repeat(first|refine Z9x rfl ?_|refine Z9y ?_)); refine Z9w ?_)
      rfl
     ·have hgq : (l.map encR)[((p : Nat) : Int).toNat]? = some (encR q) := by rw [Int.toNat_natCast, List.getElem?_map, h3]; rfl
      rw [encR, Zme, Zlz] at hgq
      have hi0 : decide ((i : Int) = 0) = false := decide_eq_false (by omega)
      repeat refine Kq rfl rfl rfl ?_
      rw [h2]
      (rw [decide_eq_true (p := (p : Int) ≥ 0) (by omega)])
      (repeat refine Z96 rfl (Kq rfl rfl rfl ?_))
      refine Z96 rfl (Z9d rfl (by omega) hgq ?_)
      (repeat(first|refine Kq rfl rfl rfl ?_|refine Z96 rfl (Kq rfl rfl rfl ?_)))
      by_cases k11 : q.t.kind = 11
      ·have h5 := h5 k11
       have hg0 : (ints q.kids)[(0 : Int).toNat]? = some (.int .i64 ((q.kids[0] : Nat) : Int)) := by
        show (ints q.kids)[0]? = _
        rw [ints, List.getElem?_map, List.getElem?_eq_getElem h5]; rfl
       have hk0 : q.kids[0]? = some q.kids[0] := List.getElem?_eq_getElem h5
       generalize q.kids[0] = y at hg0 hk0
       (rw [decide_eq_true (p := q.t.kind = 11) (by omega)])
       (repeat refine Z96 rfl (Kq rfl rfl rfl ?_))
       refine Z96 rfl (Z9d rfl (by omega) hgq ?_)
       (repeat refine Z96 rfl (Kq rfl rfl rfl ?_))
       refine Z96 rfl (Z9d rfl (by omega) hg0 ?_)
       (repeat(first|refine Kq rfl rfl rfl ?_|refine Z96 rfl (Kq rfl rfl rfl ?_)))
       refine Z99 ⟨rfl, decide ((y : Int) = (i : Int)), ?_, ?_⟩
       ·rw [hi0, Bool.false_or, h4, hk0, decide_eq_true k11, Bool.true_and]
        exact decide_eq_decide.2 ⟨fun h => by congr 1; omega, fun h => by cases h; rfl⟩
       ·((repeat(first|refine Z9x rfl ?_|refine Z9y ?_)); refine Z9w ?_)
        rfl
      ·(rw [decide_eq_false (p := q.t.kind = 11) (by omega)])
       (repeat(first|refine Kq rfl rfl rfl ?_|refine Z97 rfl ?_))
       refine Z99 ⟨rfl, false, by rw [hi0, h4, decide_eq_false k11]; rfl, ?_⟩
       ((repeat(first|refine Z9x rfl ?_|refine Z9y ?_)); refine Z9w ?_)
       rfl
    rintro F1 σ1 ⟨rfl, key, hkeq, hkp⟩
    refine Za0 (kp_eq hkp ?_)
    clear hkp hkey
    have hwr := Z1gt nd c (wantF l cols n i) (decide ((i : Int) = 0)) key hnok hnlen hIn.here hIn.int hIn.text
    rw [hkeq, ← hft, Zm0, Zlz] at hwr
    rw [← hft] at hRt
    generalize faultF l cols keep n i = w at hwr hRt hhit hnx2
    refine Ks ?_
    refine Zb1 (fun _ _ => rfl) ?_
    repeat refine Kq rfl rfl rfl ?_
    refine Z9d rfl (by omega) hgN ?_
    repeat refine Kq rfl rfl rfl ?_
    refine Z9d rfl (by omega) hgC ?_
    repeat refine Kq rfl rfl rfl ?_
    refine Z9e rfl ⟨by omega, by omega⟩ ?_
    refine Z9c rfl Z9a hgW rfl ?_
    repeat refine Kq rfl rfl rfl ?_
    refine Z9v rfl (hwr _) ?_
    repeat refine Kq rfl rfl rfl ?_
    (refine Z99 ?_; (repeat(first|refine Z9x rfl ?_|refine Z9y ?_)); refine Z9w ?_)
    by_cases hw0 : w = 0
    rotate_left
    ·(repeat(first|refine Kq rfl rfl rfl ?_|(refine Z99 ?_; (repeat(first|refine Z9x rfl ?_|refine Z9y ?_)); refine Z9w ?_)|refine Ks ?_|refine Zb1 (fun _ _ => rfl) ?_))
     (rw [decide_eq_true (p := (w : Int) ≠ 0) (by omega)])
     (repeat(first|refine Kq rfl rfl rfl ?_|(refine Z99 ?_; (repeat(first|refine Z9x rfl ?_|refine Z9y ?_)); refine Z9w ?_)|refine Ks ?_|refine Zb1 (fun _ _ => rfl) ?_|refine Kc1 rfl ?_))
     refine Z8o ?_
     rw [hhit hw0]
     refine Zag (vs := [.slc 0 [] true, .int .i64 (w : Nat)]) rfl ?_ (HSub.of_sublist (List.sublist_cons_self _ _)) ⟨rfl, rfl⟩
     exact VRle.tup (VRle.cons (VRle.nilF _ _) (VRle.refl _))
    have hRt := hRt hw0
    have hsm := hRt.sm
    have hAs := fun j σ => Z12u nd.t.kind j (Zlz nd.t) rfl rfl (Zxl nd.t) c hsm hRt.lens σ
    rw [Zlz] at hAs
    have hnx3 := hnx2 hw0
    (repeat(first|refine Kq rfl rfl rfl ?_|(refine Z99 ?_; (repeat(first|refine Z9x rfl ?_|refine Z9y ?_)); refine Z9w ?_)|refine Ks ?_|refine Zb1 (fun _ _ => rfl) ?_))
    (rw [decide_eq_false (p := (w : Int) ≠ 0) (by omega)])
    (repeat(first|refine Kq rfl rfl rfl ?_|(refine Z99 ?_; (repeat(first|refine Z9x rfl ?_|refine Z9y ?_)); refine Z9w ?_)|refine Ks ?_|refine Zb1 (fun _ _ => rfl) ?_|refine Z8s ?_|refine Zb2 (fun _ _ => rfl) ?_|refine Kc2 rfl ?_))
    refine Za6 (fun m F σ' => ∃ (j : Nat) (W : List Int) (B : List Bool), F = fset 1 (some (.slc 5 (cols.map Kc) g)) (fset 2 (some (.int .i64 (n : Int))) (fset 10 (some (.slc 9 (l.map encR) false)) (fset 11 (some (.slc 1 (keep.map .bool) false)) (fset 13 (some (.arr 1 b13 0 l.length)) (fset 14 (some (.int .i64 (i : Nat))) (fset 18 (some (.int .i64 (j : Nat))) Z28)))))) ∧
     (b13, Zb.cells 1 (W.map (.int .i64))) :: σ = σ' ∧ j ≤ nd.kids.length ∧ AskI l keep (wantF l cols n) (keyF l) i j W B ∧ m = nd.kids.length - j) (n := nd.kids.length)
     ⟨0, W, B, rfl, rfl, by omega, hAI, by omega⟩ ?_
    rintro m1 F σ' ⟨j, W1, B1, rfl, rfl, hj, hAJ, rfl⟩
    (repeat(first|refine Kq rfl rfl rfl ?_|refine Ks ?_|refine Zb1 (fun _ _ => rfl) ?_))
    refine Z9d rfl (by omega) hgN ?_
    (repeat(first|refine Kq rfl rfl rfl ?_|(refine Z99 ?_; (repeat(first|refine Z9x rfl ?_|refine Z9y ?_)); refine Z9w ?_)))
    rw [hkn]
    refine Za2 (p := (j : Int) < (nd.kids.length : Nat)) rfl (fun h4 => ?_) (fun h4 => ?_)
    ·have hjl : j < nd.kids.length := by omega
     have hx : (ints nd.kids)[((j : Nat) : Int).toNat]? = some (.int .i64 ((nd.kids[j] : Nat) : Int)) := by rw [Int.toNat_natCast, ints, List.getElem?_map, List.getElem?_eq_getElem hjl]; rfl
     have hxlt := hkx _ (List.getElem_mem hjl)
     have hup := hkid rfl j W1 B1 hAJ nd.kids[j] (List.getElem?_eq_getElem hjl)
     generalize nd.kids[j] = x at hx hxlt hup
     have hWl := hAJ.lw
     have hwx : (W1.map (Z0.int .i64))[0 + (x : Int).toNat]? = some (.int .i64 W1[x]) := by
      rw [Nat.zero_add, Int.toNat_natCast, List.getElem?_map, List.getElem?_eq_getElem (by omega)]; rfl
     refine Zb2 (fun _ _ => rfl) ?_
     refine Ks ?_
     refine Z8s ?_
     refine Zb1 (fun _ _ => rfl) ?_
     repeat refine Kq rfl rfl rfl ?_
     refine Z9d rfl (by omega) hgN ?_
     repeat refine Kq rfl rfl rfl ?_
     refine Z9d rfl (by omega) hx ?_
     repeat refine Kq rfl rfl rfl ?_
     refine Z9d rfl (by omega) hgN ?_
     repeat refine Kq rfl rfl rfl ?_
     refine Z9d rfl (by omega) hgC ?_
     repeat refine Kq rfl rfl rfl ?_
     refine Zb9 rfl (hAs _) ?_
     repeat refine Kq rfl rfl rfl ?_
     refine Z9e rfl ⟨by omega, by omega⟩ ?_
     refine Z9g rfl Z9a hwx (by decide) (Kfi rfl) (fun _ => ⟨rfl, rfl⟩) Z9h ?_
     rw [Z1gx]
     (refine Z99 ?_; (repeat(first|refine Z9x rfl ?_|refine Z9y ?_)); refine Z9w ?_)
     refine Zb4 ?_
     repeat refine Kq rfl rfl rfl ?_
     rw [Kwr j (by omega)]
     (refine Z99 ?_; (repeat(first|refine Z9x rfl ?_|refine Z9y ?_)); refine Z9w ?_)
     exact ⟨_, nd.kids.length - (j + 1), HSub.refl _, ⟨j + 1, _, _, rfl, rfl, by omega, hup, rfl⟩, by omega⟩
    ·refine Zb3 (fun _ _ => rfl) ?_
     (refine Za0 (keep := [1, 2, 10, 11, 13, 14]) ?_; ((repeat(first|refine Z9x rfl ?_|refine Z9y ?_)); refine Z9w ?_))
     exact round W1 B1 (hnext j W1 B1 hAJ (by omega)) hnx3 _
  have hCl2 : Clean l cols keep n l.length := by rw [show l.length = i by omega]; exact hCl
  obtain ⟨hA, hC⟩ := Z1go hT hK hok hn0 (fun i hk => by
   by_cases hi : i < cols.length
   ·rw [List.getD_eq_getElem?_getD, List.getElem?_eq_getElem hi]; exact hin _ (List.getElem_mem hi)
   ·rw [List.getD_eq_getElem?_getD, List.getElem?_eq_none (by omega)]
    exact ⟨by simp [col0], by simp [col0], by simp [col0]⟩) hclen hCl2
  have hff := Z1gk l.length 0 (f := faultF l cols keep n) (fun x hx => hCl2 x (by omega))
  obtain ⟨VS, sE, hR⟩ := Z1bh hT hA hW hn0 (by rw [hn0t]; exact hcnt) hk0
  rw [hn0t] at hR
  rw [Z1gn hff hR]
  refine Zb3 (fun _ _ => rfl) ?_
  (refine Za0 (keep := [1, 2, 10, 11]) ?_; ((repeat(first|refine Z9x rfl ?_|refine Z9y ?_)); refine Z9w ?_))
  refine Z8l (FSub.refl _) (HSub.of_sublist (List.sublist_cons_self _ _)) ?_
  have hrA : ∀ m : Nat, List.replicate ((m : Nat) : Int).toNat (Z0.int .i64 0) = ints (List.replicate m 0) := fun m => by rw [Int.toNat_natCast, ints, List.map_replicate]; rfl
  refine Za1 ?_
  repeat refine Kq rfl rfl rfl ?_
  rw [hll]
  refine Z9p rfl (Kfi rfl) (by omega) (by omega) (by omega) (by omega) fun ba hba => ?_
  repeat refine Kq rfl rfl rfl ?_
  rw [hll]
  refine Z9p rfl (Kfi rfl) (by omega) (by omega) (by omega) (by omega) fun bh hbh => ?_
  have hab : ba ≠ bh := fun e => hbh (by rw [← e]; simp [Zh])
  rw [hrA, Int.toNat_natCast]
  repeat refine Kq rfl rfl rfl ?_
  refine Z9n rfl (Kfi rfl) fun bs hbs => ?_
  repeat refine Kq rfl rfl rfl ?_
  (refine Z99 ?_; (repeat(first|refine Z9x rfl ?_|refine Z9y ?_)); refine Z9w ?_)
  refine Zaj (d := 19) (cs := Z1gu l.length ba bh) rfl ?_
  (refine Za0 (keep := [1, 2, 10, 11, 19]) ?_; ((repeat(first|refine Z9x rfl ?_|refine Z9y ?_)); refine Z9w ?_))
  (repeat(first|refine Kq rfl rfl rfl ?_|(refine Z99 ?_; (repeat(first|refine Z9x rfl ?_|refine Z9y ?_)); refine Z9w ?_)|refine Ks ?_|refine Zb1 (fun _ _ => rfl) ?_|refine Z8s ?_))
  refine Za6 (fun m F σ' => ∃ (i : Nat) (s : Tk) (us : List Vl) (kv : Z0) (β : Zc), F = fset 1 (some (.slc 5 (cols.map Kc) g)) (fset 2 (some (.int .i64 (n : Int))) (fset 10 (some (.slc 9 (l.map encR) false)) (fset 11 (some (.slc 1 (keep.map .bool) false)) (fset 19 (some (.iptr (Z1gu l.length ba bh))) (fset 20 (some kv) (fset 21 (some (.int .i64 (i : Nat))) Z28)))))) ∧
   β ++ ((bh, Zb.cells 1 (ints s.he)) :: (ba, Zb.cells 1 (ints s.at_)) :: σ) = σ' ∧ Zb5 5 kv (Zmg us) β ∧ ba ∉ Zh β ∧ bh ∉ Zh β ∧ s.sz l.length ∧ i ≤ n ∧ us.length = i ∧ (∃ ws, takeR cols keep t (n - i) s = some (ws, sE) ∧ us ++ ws = VS) ∧ m = n - i) (n := n)
   ⟨0, ⟨List.replicate l.length 0, List.replicate l.length 0⟩, [], .slc 0 [] true, [], rfl, rfl, Zb5.nil 5 0, by simp [Zh], by simp [Zh], ⟨List.length_replicate, List.length_replicate⟩, by omega, rfl, ⟨VS, hR, rfl⟩, by omega⟩ ?_
  rintro m0 F σ' ⟨i, s, us, kv, β, rfl, rfl, ho, hna, hnh, hsz, hi, hul, ⟨ws, hw, hVS⟩, rfl⟩
  (repeat(first|refine Kq rfl rfl rfl ?_|(refine Z99 ?_; (repeat(first|refine Z9x rfl ?_|refine Z9y ?_)); refine Z9w ?_)|refine Ks ?_|refine Zb1 (fun _ _ => rfl) ?_))
  refine Za2 (p := (i : Int) < (n : Int)) rfl (fun h3 => ?_) (fun h3 => ?_)
  ·have hin : i < n := by omega
   rw [show n - i = (n - (i + 1)) + 1 by omega, takeR] at hw
   split at hw
   ·cases hw
   rename_i v s1 ht1
   split at hw
   ·cases hw
   rename_i vs s2 hw2
   simp only [Option.some.injEq, Prod.mk.injEq] at hw
   obtain ⟨rfl, rfl⟩ := hw
   have hs1 := Z18s cols keep l.length _ _ _ _ _ ht1 hsz
   have hcall := Z1gv hT hK hC hkl hW false g false ba bh hab t 0 n0 hn0 hn0t (hok n0 (List.mem_of_getElem? hn0)) hok hk0 s s1 v hsz ht1 (β ++ ((bh, Zb.cells 1 (ints s.he)) :: (ba, Zb.cells 1 (ints s.at_)) :: σ))
    (by rw [Za9 hna]; exact Z9b (fun e => hab e.symm) Z9a) (by rw [Za9 hnh]; exact Z9a)
   have hHS : HS (β ++ ((bh, Zb.cells 1 (ints s.he)) :: (ba, Zb.cells 1 (ints s.at_)) :: σ)) ba bh s1 = β ++ ((bh, Zb.cells 1 (ints s1.he)) :: (ba, Zb.cells 1 (ints s1.at_)) :: σ) := by
    rw [Z196 hna hnh]
    unfold HS
    rw [Z9i (fun e => hab e.symm) Z9h, Z9h]
   rw [hHS, Zmi] at hcall
   have heA : Zmg us ++ [Z0.agg (Zmh v)] = Zmg (us ++ [v]) := by rw [Zmj, Zmj, List.map_append, ← Zmi]; rfl
   refine Zb2 (fun _ _ => rfl) ?_
   refine Ks ?_
   refine Z8s ?_
   refine Zb1 (fun _ _ => rfl) ?_
   repeat refine Kq rfl rfl rfl ?_
   refine Z9v rfl hcall ?_
   repeat refine Kq rfl rfl rfl ?_
   refine Zb6 (xs := Zmg us) (ys := [.agg (Zmh v)]) ho rfl rfl (by rw [Zmk, List.length_singleton]; omega) fun b' hb' => ?_
   have hb1 : b' ≠ ba := fun e => hb' (by rw [e]; simp [Zh])
   have hb2 : b' ≠ bh := fun e => hb' (by rw [e]; simp [Zh])
   rw [heA]
   repeat refine Kq rfl rfl rfl ?_
   (refine Z99 ?_; (repeat(first|refine Z9x rfl ?_|refine Z9y ?_)); refine Z9w ?_)
   refine Zb4 ?_
   repeat refine Kq rfl rfl rfl ?_
   rw [Kwr i (by omega)]
   (refine Z99 ?_; (repeat(first|refine Z9x rfl ?_|refine Z9y ?_)); refine Z9w ?_)
   refine ⟨_, n - (i + 1), HSub.refl _, ⟨i + 1, s1, us ++ [v], _, [(b', _)], rfl, rfl, Zb5.mk, ?_, ?_, hs1, by omega, by rw [List.length_append, List.length_singleton, hul], ⟨vs, hw2, by rw [List.append_assoc]; exact hVS⟩, rfl⟩, by omega⟩
   ·intro hm; simp only [Zh, List.map_cons, List.map_nil, List.mem_singleton] at hm; exact hb1 hm.symm
   ·intro hm; simp only [Zh, List.map_cons, List.map_nil, List.mem_singleton] at hm; exact hb2 hm.symm
  ·rw [show n - i = 0 by omega, takeR] at hw
   simp only [Option.some.injEq, Prod.mk.injEq] at hw
   obtain ⟨rfl, rfl⟩ := hw
   rw [List.append_nil] at hVS
   subst hVS
   (repeat(first|refine Kq rfl rfl rfl ?_|(refine Z99 ?_; (repeat(first|refine Z9x rfl ?_|refine Z9y ?_)); refine Z9w ?_)|refine Ks ?_|refine Zb1 (fun _ _ => rfl) ?_|refine Zb3 (fun _ _ => rfl) ?_))
   rcases ho with ⟨⟨z, rfl⟩, hxs, rfl⟩ | ⟨b', rfl, rfl⟩
   ·refine Z8o ?_
    rw [hxs]
    refine Zag (vs := [.slc z [] true, .int .i64 0]) rfl ?_ (HSub.of_sublist ((List.sublist_cons_self _ _).trans (List.sublist_cons_self _ _))) ⟨rfl, rfl⟩
    exact VRle.tup (VRle.cons (VRle.nilF _ _) (VRle.refl _))
   ·refine Zai (d := 8) (xs := Zmg us) rfl ?_
    refine Z8o ?_
    exact ares rfl (HSub.of_sublist ((List.sublist_cons_self _ _).trans (List.sublist_cons_self _ _))) ⟨rfl, rfl⟩
 have hkm : (keep.map Z0.bool).length = keep.length := List.length_map ..
 refine Z94 rfl Z1ga (Nat.le_of_ble_eq_true rfl) ?_
 refine Za1 ?_
 refine Z9n rfl (Kfi rfl) fun b4 hb4 => ?_
 repeat refine Kq rfl rfl rfl ?_
 (refine Z99 ?_; (repeat(first|refine Z9x rfl ?_|refine Z9y ?_)); refine Z9w ?_)
 refine Zaj (d := 4) (cs := Zlz t) rfl ?_
 (repeat(first|refine Kq rfl rfl rfl ?_|refine Ks ?_|refine Zb1 (fun _ _ => rfl) ?_))
 refine Z9v rfl (hfl _) ?_
 (repeat(first|refine Kq rfl rfl rfl ?_|(refine Z99 ?_; (repeat(first|refine Z9x rfl ?_|refine Z9y ?_)); refine Z9w ?_)|refine Ks ?_|refine Zb1 (fun _ _ => rfl) ?_))
 refine Z9v rfl (hck _) ?_
 (repeat(first|refine Kq rfl rfl rfl ?_|refine Z96 rfl (Kq rfl rfl rfl ?_)))
 rw [show decide (((0 : Nat) : Int) ≠ 0) = false from rfl]
 skip
 (rw [decide_eq_false (p := (n : Int) < 0) (by omega)])
 skip
 (rw [decide_eq_false (p := (n : Int) > 4096) (by omega)])
 (repeat(first|refine Kq rfl rfl rfl ?_|refine Z96 rfl (Kq rfl rfl rfl ?_)))
 rw [hcl, hll]
 (rw [decide_eq_false (p := (cols.length : Int) ≠ (l.length : Int)) (by omega)])
 (repeat refine Z96 rfl (Kq rfl rfl rfl ?_))
 rw [hbl]
 have marks : AWp Try.prog Z1dj.n (Z1dj.code.snd 3) (ARet Z1dj.res fun r σ' => r = .tup [.slc 5 (Zmg (bresF l cols keep t n).1) false, .int .i64 ((bresF l cols keep t n).2 : Nat)] ∧ σ' = σ)
   (fset 1 (some (.slc 5 (cols.map Kc) g)) (fset 2 (some (.int .i64 (n : Int))) (fset 3 (some (.slc 1 (kb.map .bool) f)) (fset 10 (some (.slc 9 (l.map encR) false)) Z28)))) σ := by
  refine Za1 ?_
  repeat refine Kq rfl rfl rfl ?_
  rw [hll]
  refine Z9p rfl (Kfi rfl) (by omega) (by omega) (by omega) (by omega) fun b11 hb11 => ?_
  repeat refine Kq rfl rfl rfl ?_
  (refine Z99 ?_; (repeat(first|refine Z9x rfl ?_|refine Z9y ?_)); refine Z9w ?_)
  rw [hzb, Int.toNat_natCast]
  refine Ks ?_
  refine Ks ?_
  refine Zb1 (fun _ _ => rfl) ?_
  repeat refine Kq rfl rfl rfl ?_
  (refine Z99 ?_; (repeat(first|refine Z9x rfl ?_|refine Z9y ?_)); refine Z9w ?_)
  refine Z8s ?_
  refine Za6 (fun m F σ' => ∃ (i : Nat) (xs : List Bool), F = fset 1 (some (.slc 5 (cols.map Kc) g)) (fset 2 (some (.int .i64 (n : Int))) (fset 3 (some (.slc 1 (kb.map .bool) f)) (fset 10 (some (.slc 9 (l.map encR) false)) (fset 11 (some (.arr 1 b11 0 l.length)) (fset 12 (some (.int .i64 (i : Nat))) Z28))))) ∧
   (b11, Zb.cells 1 (xs.map .bool)) :: σ = σ' ∧ i ≤ l.length ∧ xs.length = l.length ∧ (∀ j, j < i → xs[j]? = keep[j]?) ∧ m = l.length - i) (n := l.length)
   ⟨0, List.replicate l.length false, rfl, rfl, by omega, List.length_replicate, fun j h => by omega, by omega⟩ ?_
  rintro m F σ' ⟨i, xs, rfl, rfl, hi, hxl, hxs, rfl⟩
  (repeat(first|refine Kq rfl rfl rfl ?_|(refine Z99 ?_; (repeat(first|refine Z9x rfl ?_|refine Z9y ?_)); refine Z9w ?_)|refine Ks ?_|refine Zb1 (fun _ _ => rfl) ?_))
  rw [hll]
  refine Za2 (p := (i : Int) < (l.length : Nat)) rfl (fun h3 => ?_) (fun h3 => ?_)
  ·have hil : i < l.length := by omega
   have hxi : (xs.map Z0.bool)[0 + (i : Int).toNat]? = some (.bool xs[i]) := by
    rw [Nat.zero_add, Int.toNat_natCast, List.getElem?_map, List.getElem?_eq_getElem (by omega)]; rfl
   have hstep : ∀ y, keep[i]? = some y → ∀ j, j < i + 1 → (xs.set i y)[j]? = keep[j]? := by
    intro y hy j hj
    by_cases e : j = i
    ·subst e
     rw [List.getElem?_set_self (by omega), hy]
    ·rw [List.getElem?_set_ne (fun h => e h.symm)]
     exact hxs j (by omega)
   generalize xs[i] = x at hxi
   refine Zb2 (fun _ _ => rfl) ?_
   refine Ks ?_
   refine Z8s ?_
   refine Zb1 (fun _ _ => rfl) ?_
   repeat refine Kq rfl rfl rfl ?_
   rw [hbl]
   rcases hkb with ⟨rfl, hkr⟩ | ⟨hkr, hne⟩
   ·rw [show decide ((([] : List Bool).length : Int) = 0) = true from rfl]
    (repeat(first|refine Kq rfl rfl rfl ?_|refine Z97 rfl ?_))
    refine Z9e rfl ⟨by omega, by omega⟩ ?_
    refine Z9g (v := .bool true) rfl Z9a hxi (by decide) (Kfi rfl) (fun _ => ⟨rfl, rfl⟩) Z9h ?_
    rw [Z1gw]
    (refine Z99 ?_; (repeat(first|refine Z9x rfl ?_|refine Z9y ?_)); refine Z9w ?_)
    refine Zb4 ?_
    repeat refine Kq rfl rfl rfl ?_
    rw [Kwr i (by omega)]
    (refine Z99 ?_; (repeat(first|refine Z9x rfl ?_|refine Z9y ?_)); refine Z9w ?_)
    exact ⟨_, l.length - (i + 1), HSub.refl _, ⟨i + 1, _, rfl, rfl, by omega, by rw [List.length_set]; exact hxl, hstep true (by rw [hkr, List.getElem?_replicate, if_pos hil]), rfl⟩, by omega⟩
   ·subst hkr
    have hgk := Zrn (f := Z0.bool) (show i < keep.length by omega)
    have hgk2 : keep[i]? = some keep[i] := List.getElem?_eq_getElem (by omega)
    generalize keep[i] = y at hgk hgk2
    (rw [decide_eq_false (p := (keep.length : Int) = 0) (by omega)])
    (repeat refine Z96 rfl (Kq rfl rfl rfl ?_))
    refine Z96 rfl (Z9d rfl (by omega) hgk ?_)
    (repeat(first|refine Kq rfl rfl rfl ?_|refine Z96 rfl (Kq rfl rfl rfl ?_)))
    refine Z9e rfl ⟨by omega, by omega⟩ ?_
    refine Z9g (v := .bool y) rfl Z9a hxi (by decide) (Kfi rfl) (fun _ => ⟨rfl, rfl⟩) Z9h ?_
    rw [Z1gw]
    (refine Z99 ?_; (repeat(first|refine Z9x rfl ?_|refine Z9y ?_)); refine Z9w ?_)
    refine Zb4 ?_
    repeat refine Kq rfl rfl rfl ?_
    rw [Kwr i (by omega)]
    (refine Z99 ?_; (repeat(first|refine Z9x rfl ?_|refine Z9y ?_)); refine Z9w ?_)
    exact ⟨_, l.length - (i + 1), HSub.refl _, ⟨i + 1, _, rfl, rfl, by omega, by rw [List.length_set]; exact hxl, hstep y hgk2, rfl⟩, by omega⟩
  ·have e : xs = keep := by
    refine List.ext_getElem? fun j => ?_
    by_cases hj : j < i
    ·exact hxs j hj
    ·rw [List.getElem?_eq_none (by omega), List.getElem?_eq_none (by omega)]
   subst e
   refine Zb3 (fun _ _ => rfl) ?_
   refine Zai (d := 11) (xs := xs.map .bool) (by rw [hkm, hxl]; rfl) ?_
   (refine Za0 (keep := [1, 2, 10, 11]) ?_; ((repeat(first|refine Z9x rfl ?_|refine Z9y ?_)); refine Z9w ?_))
   exact main
 clear main
 rcases hkb with ⟨rfl, hkr⟩ | ⟨hkr, hne⟩
 ·rw [show decide ((([] : List Bool).length : Int) > 0) = false from rfl]
  (repeat(first|refine Kq rfl rfl rfl ?_|refine Z96 rfl (Kq rfl rfl rfl ?_)|refine Z97 rfl ?_))
  (refine Z99 ?_; (repeat(first|refine Z9x rfl ?_|refine Z9y ?_)); refine Z9w ?_)
  refine Kc2 rfl ?_
  refine Zb2 (fun _ _ => rfl) ?_
  (refine Za0 (keep := [1, 2, 3, 10]) ?_; ((repeat(first|refine Z9x rfl ?_|refine Z9y ?_)); refine Z9w ?_))
  exact marks
 ·subst hkr
  have hk1 : 0 < keep.length := by omega
  (rw [decide_eq_true (p := (keep.length : Int) > 0) (by omega)])
  (repeat(first|refine Kq rfl rfl rfl ?_|refine Z96 rfl (Kq rfl rfl rfl ?_)))
  rw [hbl, hll]
  (rw [decide_eq_false (p := (keep.length : Int) ≠ (l.length : Int)) (by omega)])
  skip
  (refine Z99 ?_; (repeat(first|refine Z9x rfl ?_|refine Z9y ?_)); refine Z9w ?_)
  refine Kc2 rfl ?_
  refine Zb2 (fun _ _ => rfl) ?_
  (refine Za0 (keep := [1, 2, 3, 10]) ?_; ((repeat(first|refine Z9x rfl ?_|refine Z9y ?_)); refine Z9w ?_))
  exact marks
end Go.Abs
namespace Go.Abs
open Go Go.Proofs
attribute [local irreducible] AWp aops KP
theorem Z1gz {f : Tk → Option (List Vl × Tk)} {P : Vl → Prop} {k : Nat} (hf : ∀ s vs s', f s = some (vs, s') → vs.length = k ∧ ∀ v ∈ vs, P v) : ∀ (n : Nat) (s : Tk) (vs : List Vl) (s' : Tk), iterO f n s = some (vs, s') → vs.length = n * k ∧ ∀ v ∈ vs, P v
 | 0, s, vs, s', h => by
  simp only [iterO, Option.some.injEq, Prod.mk.injEq] at h
  rw [← h.1]; simp
 | n + 1, s, vs, s', h => by
  simp only [iterO] at h
  split at h
  ·cases h
  ·rename_i v s1 h1
   split at h
   ·cases h
   ·rename_i w s2 h2
    simp only [Option.some.injEq, Prod.mk.injEq] at h
    rw [← h.1]
    obtain ⟨a1, a2⟩ := hf s v s1 h1
    obtain ⟨b1, b2⟩ := Z1gz hf n s1 w s2 h2
    refine ⟨by rw [List.length_append, a1, b1, Nat.succ_mul]; omega, fun x hx => ?_⟩
    rcases List.mem_append.1 hx with e | e
    ·exact a2 x e
    ·exact b2 x e
theorem Z1h0 {l : List Nd} (hT : TreeN l) (hK : Z12x l) {cols : List Col} {keep : List Bool} (hC : ColsT l cols keep) (hW : Whole l keep) (hin : ∀ i, keep.getD i false = true → ColIn (cols.getD i col0)) :
  ∀ (t : Ty) (a : Nat) (nd : Nd), l[a]? = some nd → nd.t = t → keep.getD a false = true → ∀ (s : Tk) (v : Vl) (s' : Tk), takeT cols keep t a s = some (v, s') → v.Fit := by
 refine Ty.ind fun k ns ks le pr sc ih a nd hnd hndt hka s v s' h => ?_
 have hN := hT.nok a nd hnd
 have hk : nd.t.kind = k := by rw [hndt]; rfl
 have hks : nd.t.kids = ks := by rw [hndt]; rfl
 have hal : a < l.length := (List.getElem?_eq_some_iff.1 hnd).1
 have hac : a < cols.length := by rw [hC.len]; exact hal
 have hcc : cols[a]? = some (cols.getD a col0) := by rw [List.getD_eq_getElem?_getD, List.getElem?_eq_getElem hac]; rfl
 have hI := hin a hka
 have hL := hC.lens a _ hcc hka
 have hkn := hK.num nd (List.mem_of_getElem? hnd)
 have hkidx : ∀ (j : Nat) (u : Ty), ks[j]? = some u → ∃ m, l[a + 1 + cntL (ks.take j)]? = some m ∧ m.t = u ∧ (a + 1 + cntL (ks.take j)) ∈ nd.kids := by
  intro j u hu
  have hjl : j < nd.kids.length := by rw [hN.len, hks]; exact (List.getElem?_eq_some_iff.1 hu).1
  obtain ⟨u', m, e1, e2, e3, e4, _⟩ := hN.kids j _ (List.getElem?_eq_getElem hjl)
  rw [hks, hu] at e1
  cases e1
  rw [hks] at e2
  exact ⟨m, by rw [← e2]; exact e3, e4, by rw [← e2]; exact List.getElem_mem hjl⟩
 have hone : ∀ (j : Nat) (u : Ty), ks[j]? = some u → keep.getD (a + 1 + cntL (ks.take j)) false = true → ∀ s v s', takeT cols keep u (a + 1 + cntL (ks.take j)) s = some (v, s') → v.Fit := by
  intro j u hu hk s v s' h
  obtain ⟨m, h1, h2, _⟩ := hkidx j u hu
  exact ih u (List.mem_of_getElem? hu) _ m h1 h2 hk s v s' h
 have hall : k ≠ 12 → ∀ (j : Nat) (u : Ty), ks[j]? = some u → keep.getD (a + 1 + cntL (ks.take j)) false = true := by
  intro h12 j u hu
  obtain ⟨m, _, _, h3⟩ := hkidx j u hu
  rcases (hW a nd hnd _ h3).2 hka with e | e
  ·exact e
  ·exact absurd (hk.symm.trans e) h12
 have hLL : k ≠ 12 → ∀ (r j : Nat), j + r = ks.length → ∀ s vs s', takeL cols keep (ks.drop j) (a + 1 + cntL (ks.take j)) s = some (vs, s') → ∀ v ∈ vs, v.Fit := by
  intro h12 r
  induction r with
  | zero =>
   intro j hj s vs s' h
   rw [List.drop_of_length_le (by omega), takeL] at h
   simp only [Option.some.injEq, Prod.mk.injEq] at h
   rw [← h.1]; simp
  | succ r ihr =>
   intro j hj s vs s' h
   have hjl : j < ks.length := by omega
   have hu := List.getElem?_eq_getElem hjl
   rw [List.drop_eq_getElem_cons hjl, takeL] at h
   split at h
   ·cases h
   rename_i v1 s1 h1
   split at h
   ·cases h
   rename_i w s2 h2
   simp only [Option.some.injEq, Prod.mk.injEq] at h
   rw [← h.1]
   have hcs := Z18q ks j _ hu
   rw [show a + 1 + cntL (ks.take j) + cnt ks[j] = a + 1 + cntL (ks.take (j + 1)) by omega] at h2
   intro x hx
   rcases List.mem_cons.1 hx with e | e
   ·rw [e]; exact hone j _ hu (hall h12 j _ hu) _ _ _ h1
   ·exact ihr (j + 1) (by omega) _ _ _ h2 x e
 have hSS : ∀ (r j : Nat), j + r = ks.length → ∀ s vs s', takeS cols keep (ks.drop j) (a + 1 + cntL (ks.take j)) s = some (vs, s') → vs.length ≤ r ∧ ∀ v ∈ vs, v.Fit := by
  intro r
  induction r with
  | zero =>
   intro j hj s vs s' h
   rw [List.drop_of_length_le (by omega), takeS] at h
   simp only [Option.some.injEq, Prod.mk.injEq] at h
   rw [← h.1]; simp
  | succ r ihr =>
   intro j hj s vs s' h
   have hjl : j < ks.length := by omega
   have hu := List.getElem?_eq_getElem hjl
   have hcs := Z18q ks j _ hu
   rw [List.drop_eq_getElem_cons hjl, takeS, show a + 1 + cntL (ks.take j) + cnt ks[j] = a + 1 + cntL (ks.take (j + 1)) by omega] at h
   split at h
   ·rename_i hkj
    split at h
    ·cases h
    rename_i v1 s1 h1
    split at h
    ·cases h
    rename_i w s2 h2
    simp only [Option.some.injEq, Prod.mk.injEq] at h
    rw [← h.1]
    obtain ⟨b1, b2⟩ := ihr (j + 1) (by omega) _ _ _ h2
    refine ⟨by rw [List.length_cons]; omega, fun x hx => ?_⟩
    rcases List.mem_cons.1 hx with e | e
    ·rw [e]; exact hone j _ hu hkj _ _ _ h1
    ·exact b2 x e
   ·obtain ⟨b1, b2⟩ := ihr (j + 1) (by omega) _ _ _ h
    exact ⟨by omega, b2⟩
 have hkl : ks.length ≤ 1000 := by rw [← hks, ← hN.len]; exact hkn
 have hmul : ∀ i : Nat, i ≤ 16384 → i * ks.length ≤ 16384000 := fun i hi => Nat.le_trans (Nat.mul_le_mul hi hkl) (by decide)
 have leaf : ∀ (i m : Int) (b : List UInt8), -9223372036854775808 ≤ i ∧ i ≤ 9223372036854775807 → b.length ≤ 9223372036854775807 → (Vl.mk false i m b []).Fit := fun i m b h1 h2 => .mk (by simpa [Vl.i] using h1) (by simpa [Vl.b] using h2) (by simp [Vl.kids]) (by simp [Vl.kids])
 have many : ∀ (vs : List Vl), vs.length ≤ 9223372036854775807 → (∀ v ∈ vs, v.Fit) → (Vl.mk false 0 0 [] vs).Fit := fun vs h1 h2 => .mk (by simp [Vl.i]) (by simp [Vl.b]) (by simpa [Vl.kids] using h1) (by simpa [Vl.kids] using h2)
 rw [takeT] at h
 split at h
 ·cases h
 ·simp only [Option.some.injEq, Prod.mk.injEq] at h
  rw [← h.1]
  exact .mk (by simp [Vl.i, nullV]) (by simp [Vl.b, nullV]) (by simp [Vl.kids, nullV]) (by simp [Vl.kids, nullV])
 ·split at h
  ·cases h
  split at h
  ·rename_i k10
   split at h
   ·cases h
   rename_i n hn
   split at h
   ·cases h
   rename_i vs s1 h1
   simp only [Option.some.injEq, Prod.mk.injEq] at h
   rw [← h.1]
   have hn2 := hL n (List.mem_of_getElem? hn)
   have h12 : k ≠ 12 := by rcases k10 with e | e <;> omega
   obtain ⟨a1, a2⟩ := Z1gz (P := Vl.Fit) (k := ks.length) (fun s vs s' hh => ⟨Z18t _ _ _ _ _ _ _ hh, hLL h12 ks.length 0 (by omega) s vs s' (by simpa [cntL] using hh)⟩) _ _ _ _ h1
   have := hmul n.toNat (by omega)
   exact many vs (by omega) a2
  split at h
  ·split at h
   ·cases h
   rename_i vs s1 h1
   simp only [Option.some.injEq, Prod.mk.injEq] at h
   rw [← h.1]
   obtain ⟨b1, b2⟩ := hSS ks.length 0 (by omega) _ vs s1 (by simpa [cntL] using h1)
   exact many vs (by omega) b2
  split at h
  ·rename_i k13
   split at h
   ·cases h
   rename_i n hn
   split at h
   ·cases h
   split at h
   ·cases h
   rename_i w s1 h1
   simp only [Option.some.injEq, Prod.mk.injEq] at h
   rw [← h.1]
   obtain ⟨u, u1, u2⟩ := Z18p h1
   have hn2 := hI.int n (List.mem_of_getElem? hn)
   have hw := hone _ u u1 (hall (by omega) _ u u1) _ _ _ u2
   exact .mk (by simpa [Vl.i] using hn2) (by simp [Vl.b]) (by simp [Vl.kids]) (by intro x hx; simp only [Vl.kids, List.mem_singleton] at hx; rw [hx]; exact hw)
  split at h
  ·split at h
   ·cases h
   rename_i b hb
   simp only [Option.some.injEq, Prod.mk.injEq] at h
   rw [← h.1]
   exact leaf 0 0 b (by omega) (hI.text b (List.mem_of_getElem? hb))
  split at h
  ·split at h
   ·rename_i m n hm hn
    simp only [Option.some.injEq, Prod.mk.injEq] at h
    rw [← h.1]
    exact leaf n m [] (hI.int n (List.mem_of_getElem? hn)) (by simp)
   ·cases h
  ·split at h
   ·cases h
   rename_i n hn
   simp only [Option.some.injEq, Prod.mk.injEq] at h
   rw [← h.1]
   exact leaf n 0 [] (hI.int n (List.mem_of_getElem? hn)) (by simp)
theorem Z1h1 {t : Ty} (h0 : Zm8 t = 0) {cols : List Col} {keep : List Bool} {n : Nat} (hn : n ≤ 4096) (hk0 : keep.getD 0 false = true) (hclen : cols.length = (Zmf t).length) (hin : ∀ c ∈ cols, ColIn c) (hW : Whole (Zmf t) keep) :
  (∀ v ∈ (bresF (Zmf t) cols keep t n).1, v.Fit) ∧ (bresF (Zmf t) cols keep t n).1.length ≤ 4096 := by
 have hT := Z18f t
 have hK := Z1a7 t
 obtain ⟨n0, hn0, hn0t⟩ := Z18j h0
 have hok := Z13m t
 have hcnt : cnt t = (Zmf t).length := by rw [Zmf, if_pos h0, Zmc]
 generalize Zmf t = l at *
 have hin2 : ∀ i, keep.getD i false = true → ColIn (cols.getD i col0) := fun i hk => by
  by_cases hi : i < cols.length
  ·rw [List.getD_eq_getElem?_getD, List.getElem?_eq_getElem hi]; exact hin _ (List.getElem_mem hi)
  ·rw [List.getD_eq_getElem?_getD, List.getElem?_eq_none (by omega)]
   exact ⟨by simp [col0], by simp [col0], by simp [col0]⟩
 by_cases hf : Z1gj (faultF l cols keep n) l.length 0 = 0
 rotate_left
 ·rw [Z1gm rfl hf]; simp
 have hcl : Clean l cols keep n l.length := by
  have key : ∀ (r i : Nat), (∀ x, x < i → faultF l cols keep n x = 0) → Z1gj (faultF l cols keep n) r i = 0 → ∀ x, x < i + r → faultF l cols keep n x = 0 := by
   intro r
   induction r with
   | zero => intro i hb _ x hx; exact hb x (by omega)
   | succ r ih =>
    intro i hb h x hx
    rw [Z1gj] at h
    split at h
    ·rename_i h1; exact absurd h h1
    ·rename_i h1
     refine ih (i + 1) (fun y hy => ?_) h x (by omega)
     by_cases e : y = i
     ·rw [e]; omega
     ·exact hb y (by omega)
  exact fun x hx => key l.length 0 (fun x hx => by omega) hf x (by omega)
 obtain ⟨hA, hC⟩ := Z1go hT hK hok hn0 hin2 hclen hcl
 obtain ⟨VS, sE, hR⟩ := Z1bh hT hA hW hn0 (by rw [hn0t]; exact hcnt) hk0
 rw [hn0t] at hR
 rw [Z1gn hf hR]
 have key : ∀ (r : Nat) (s : Tk) (vs : List Vl) (s' : Tk), takeR cols keep t r s = some (vs, s') → (∀ v ∈ vs, v.Fit) ∧ vs.length = r := by
  intro r
  induction r with
  | zero =>
   intro s vs s' h
   rw [takeR] at h
   simp only [Option.some.injEq, Prod.mk.injEq] at h
   rw [← h.1]; simp
  | succ r ih =>
   intro s vs s' h
   rw [takeR] at h
   split at h
   ·cases h
   rename_i v s1 h1
   split at h
   ·cases h
   rename_i w s2 h2
   simp only [Option.some.injEq, Prod.mk.injEq] at h
   rw [← h.1]
   obtain ⟨b1, b2⟩ := ih _ _ _ h2
   refine ⟨fun x hx => ?_, by rw [List.length_cons, b2]⟩
   rcases List.mem_cons.1 hx with e | e
   ·rw [e]; exact Z1h0 hT hK hC hW hin2 t 0 n0 hn0 hn0t hk0 _ _ _ h1
   ·exact b1 x e
 obtain ⟨b1, b2⟩ := key n _ _ _ hR
 exact ⟨b1, by show VS.length ≤ 4096; omega⟩
theorem Z1h2 (t : Ty) (ht : t.Fit) (cols : List Col) (n : Int) (hn : n ≤ 4096) (kb : List Bool) (hbad : Zmf t = [] ∨ n < 0 ∨ cols.length ≠ (Zmf t).length) (g f : Bool) (σ : Zc) :
  Z1s Try.prog Zcz [encT t, .slc 5 (cols.map Kc) g, .int .i64 n, .slc 1 (kb.map .bool) f] σ fun r σ' => r = .tup [.slc 5 (Zmg []) false, .int .i64 1] ∧ σ' = σ := by
 have hfl := Zxe t ht
 rw [Zm0] at hfl ⊢
 generalize Zmf t = l at *
 have hll : (l.map encN).length = l.length := List.length_map ..
 have hcl : (cols.map Kc).length = cols.length := List.length_map ..
 refine Z94 rfl Z1g9 (Nat.le_of_ble_eq_true rfl) ?_
 refine Za1 ?_
 refine Z9n rfl (Kfi rfl) fun b4 hb4 => ?_
 repeat refine Kq rfl rfl rfl ?_
 (refine Z99 ?_; (repeat(first|refine Z9x rfl ?_|refine Z9y ?_)); refine Z9w ?_)
 refine Zaj (d := 4) (cs := Zlz t) rfl ?_
 (repeat(first|refine Kq rfl rfl rfl ?_|refine Ks ?_|refine Zb1 (fun _ _ => rfl) ?_))
 refine Z9v rfl (hfl _) ?_
 (repeat(first|refine Kq rfl rfl rfl ?_|(refine Z99 ?_; (repeat(first|refine Z9x rfl ?_|refine Z9y ?_)); refine Z9w ?_)|refine Ks ?_|refine Zb1 (fun _ _ => rfl) ?_))
 rw [hll]
 by_cases h1 : l.length = 0
 ·(rw [decide_eq_true (p := (l.length : Int) = 0) (by omega)])
  (repeat(first|refine Kq rfl rfl rfl ?_|refine Z97 rfl ?_|refine Z98 rfl ?_|(refine Z99 ?_; (repeat(first|refine Z9x rfl ?_|refine Z9y ?_)); refine Z9w ?_)|refine Ks ?_|refine Zb1 (fun _ _ => rfl) ?_|refine Kc1 rfl ?_))
  refine Z8o ?_
  exact Zag rfl (VRle.tup (VRle.cons (VRle.nilF _ _) (VRle.refl _))) (HSub.refl _) ⟨rfl, rfl⟩
 (rw [decide_eq_false (p := (l.length : Int) = 0) (by omega)])
 (repeat(first|refine Kq rfl rfl rfl ?_|refine Z96 rfl (Kq rfl rfl rfl ?_)))
 by_cases h2 : n < 0
 ·(rw [decide_eq_true (p := n < 0) (by omega)])
  (repeat(first|refine Kq rfl rfl rfl ?_|refine Z97 rfl ?_|refine Z98 rfl ?_|(refine Z99 ?_; (repeat(first|refine Z9x rfl ?_|refine Z9y ?_)); refine Z9w ?_)|refine Ks ?_|refine Zb1 (fun _ _ => rfl) ?_|refine Kc1 rfl ?_))
  refine Z8o ?_
  exact Zag rfl (VRle.tup (VRle.cons (VRle.nilF _ _) (VRle.refl _))) (HSub.refl _) ⟨rfl, rfl⟩
 (rw [decide_eq_false (p := n < 0) (by omega)])
 (repeat(first|refine Kq rfl rfl rfl ?_|refine Z96 rfl (Kq rfl rfl rfl ?_)))
 (rw [decide_eq_false (p := n > 4096) (by omega)])
 (repeat(first|refine Kq rfl rfl rfl ?_|refine Z96 rfl (Kq rfl rfl rfl ?_)))
 rw [hcl, hll]
 have h3 : cols.length ≠ l.length := by
  rcases hbad with h | h | h
  ·rw [h] at h1; exact absurd rfl h1
  ·exact absurd h h2
  ·exact h
 (rw [decide_eq_true (p := (cols.length : Int) ≠ (l.length : Int)) (by omega)])
 (repeat(first|refine Kq rfl rfl rfl ?_|refine Z97 rfl ?_|refine Z98 rfl ?_|(refine Z99 ?_; (repeat(first|refine Z9x rfl ?_|refine Z9y ?_)); refine Z9w ?_)|refine Ks ?_|refine Zb1 (fun _ _ => rfl) ?_|refine Kc1 rfl ?_))
 refine Z8o ?_
 exact Zag rfl (VRle.tup (VRle.cons (VRle.nilF _ _) (VRle.refl _))) (HSub.refl _) ⟨rfl, rfl⟩
theorem flatten_nil {t : Ty} : Zmf t = [] ↔ Zm8 t ≠ 0 := by
 constructor
 ·intro h e
  obtain ⟨n, hn, _⟩ := Z18j e
  rw [h] at hn
  cases hn
 ·intro h
  rw [Zmf, if_neg h]
theorem Z1h3 (t : Ty) (ht : t.Fit) (cols : List Col) (n : Int) (hn : n ≤ 4096) (kb : List Bool) (hbad : Zmf t = [] ∨ n < 0 ∨ cols.length ≠ (Zmf t).length) (g f : Bool) (σ : Zc) :
  Z1s Try.prog Zd5 [encT t, .slc 5 (cols.map Kc) g, .int .i64 n, .slc 1 (kb.map .bool) f] σ fun r σ' => r = .tup [.slc 5 (Zmg []) false, .int .i64 1] ∧ σ' = σ := by
 have hfl := Zrb t (Znn t ht)
 have hck := Znn t ht
 rw [flatten_nil] at hbad
 rw [Zm0] at hfl hck ⊢
 generalize Zmf t = l at *
 generalize Zm8 t = z at *
 have hll : (l.map encR).length = l.length := List.length_map ..
 have hcl : (cols.map Kc).length = cols.length := List.length_map ..
 refine Z94 rfl Z1ga (Nat.le_of_ble_eq_true rfl) ?_
 refine Za1 ?_
 refine Z9n rfl (Kfi rfl) fun b4 hb4 => ?_
 repeat refine Kq rfl rfl rfl ?_
 (refine Z99 ?_; (repeat(first|refine Z9x rfl ?_|refine Z9y ?_)); refine Z9w ?_)
 refine Zaj (d := 4) (cs := Zlz t) rfl ?_
 (repeat(first|refine Kq rfl rfl rfl ?_|refine Ks ?_|refine Zb1 (fun _ _ => rfl) ?_))
 refine Z9v rfl (hfl _) ?_
 (repeat(first|refine Kq rfl rfl rfl ?_|(refine Z99 ?_; (repeat(first|refine Z9x rfl ?_|refine Z9y ?_)); refine Z9w ?_)|refine Ks ?_|refine Zb1 (fun _ _ => rfl) ?_))
 refine Z9v rfl (hck _) ?_
 (repeat refine Kq rfl rfl rfl ?_)
 by_cases h1 : z = 0
 rotate_left
 ·(rw [decide_eq_true (p := (z : Int) ≠ 0) (by omega)])
  (repeat(first|refine Kq rfl rfl rfl ?_|refine Z97 rfl ?_|refine Z98 rfl ?_|(refine Z99 ?_; (repeat(first|refine Z9x rfl ?_|refine Z9y ?_)); refine Z9w ?_)|refine Ks ?_|refine Zb1 (fun _ _ => rfl) ?_|refine Kc1 rfl ?_))
  refine Z8o ?_
  exact Zag rfl (VRle.tup (VRle.cons (VRle.nilF _ _) (VRle.refl _))) (HSub.refl _) ⟨rfl, rfl⟩
 (rw [decide_eq_false (p := (z : Int) ≠ 0) (by omega)])
 (repeat(first|refine Kq rfl rfl rfl ?_|refine Z96 rfl (Kq rfl rfl rfl ?_)))
 by_cases h2 : n < 0
 ·(rw [decide_eq_true (p := n < 0) (by omega)])
  (repeat(first|refine Kq rfl rfl rfl ?_|refine Z97 rfl ?_|refine Z98 rfl ?_|(refine Z99 ?_; (repeat(first|refine Z9x rfl ?_|refine Z9y ?_)); refine Z9w ?_)|refine Ks ?_|refine Zb1 (fun _ _ => rfl) ?_|refine Kc1 rfl ?_))
  refine Z8o ?_
  exact Zag rfl (VRle.tup (VRle.cons (VRle.nilF _ _) (VRle.refl _))) (HSub.refl _) ⟨rfl, rfl⟩
 (rw [decide_eq_false (p := n < 0) (by omega)])
 (repeat(first|refine Kq rfl rfl rfl ?_|refine Z96 rfl (Kq rfl rfl rfl ?_)))
 (rw [decide_eq_false (p := n > 4096) (by omega)])
 (repeat(first|refine Kq rfl rfl rfl ?_|refine Z96 rfl (Kq rfl rfl rfl ?_)))
 rw [hcl, hll]
 have h3 : cols.length ≠ l.length := by
  rcases hbad with h | h | h
  ·exact absurd h1 h
  ·exact absurd h h2
  ·exact h
 (rw [decide_eq_true (p := (cols.length : Int) ≠ (l.length : Int)) (by omega)])
 (repeat(first|refine Kq rfl rfl rfl ?_|refine Z97 rfl ?_|refine Z98 rfl ?_|(refine Z99 ?_; (repeat(first|refine Z9x rfl ?_|refine Z9y ?_)); refine Z9w ?_)|refine Ks ?_|refine Zb1 (fun _ _ => rfl) ?_|refine Kc1 rfl ?_))
 refine Z8o ?_
 exact Zag rfl (VRle.tup (VRle.cons (VRle.nilF _ _) (VRle.refl _))) (HSub.refl _) ⟨rfl, rfl⟩
def fewC (c : Col) : Bool := !(decide (400 < c.here.length) || decide (400 < c.ints.length) || decide (400 < c.ns.length) || decide (400 < c.texts.length) || decide (400 < c.lens.length)) && c.texts.all fun b => decide (b.length ≤ 5000)
theorem Z1h4 (c : Col) (σ : Zc) : Z1s Try.prog Zd2 [Kc c] σ fun r σ' => r = .bool (fewC c) ∧ σ' = σ := by
 have el : ∀ {α : Type} (f : α → Z0) (l : List α), (l.map f).length = l.length := fun f l => List.length_map ..
 generalize hX : fewC c = X
 unfold fewC at hX
 refine Z94 rfl Z1gd (Nat.le_of_ble_eq_true rfl) ?_
 refine Za1 ?_
 refine Z9n rfl (Kfi rfl) fun b1 hb1 => ?_
 repeat refine Kq rfl rfl rfl ?_
 (refine Z99 ?_; (repeat(first|refine Z9x rfl ?_|refine Z9y ?_)); refine Z9w ?_)
 refine Zaj (d := 1) (cs := Zrl c) rfl ?_
 (repeat(first|refine Kq rfl rfl rfl ?_|refine Ks ?_|refine Zb1 (fun _ _ => rfl) ?_))
 rw [el]
 by_cases h1 : 400 < c.here.length
 ·(rw [decide_eq_true (p := (c.here.length : Int) > 400) (by omega)])
  (repeat(first|refine Kq rfl rfl rfl ?_|refine Z97 rfl ?_|(refine Z99 ?_; (repeat(first|refine Z9x rfl ?_|refine Z9y ?_)); refine Z9w ?_)|refine Ks ?_|refine Zb1 (fun _ _ => rfl) ?_|refine Kc1 rfl ?_))
  refine Z8o ?_
  have e : X = false := by rw [← hX, decide_eq_true h1]; simp
  rw [e]
  exact Kar rfl ⟨rfl, rfl⟩
 (rw [decide_eq_false (p := (c.here.length : Int) > 400) (by omega)])
 (repeat(first|refine Kq rfl rfl rfl ?_|refine Z96 rfl (Kq rfl rfl rfl ?_)))
 rw [el]
 by_cases h2 : 400 < c.ints.length
 ·(rw [decide_eq_true (p := (c.ints.length : Int) > 400) (by omega)])
  (repeat(first|refine Kq rfl rfl rfl ?_|refine Z97 rfl ?_|(refine Z99 ?_; (repeat(first|refine Z9x rfl ?_|refine Z9y ?_)); refine Z9w ?_)|refine Ks ?_|refine Zb1 (fun _ _ => rfl) ?_|refine Kc1 rfl ?_))
  refine Z8o ?_
  have e : X = false := by rw [← hX, decide_eq_true h2]; simp
  rw [e]
  exact Kar rfl ⟨rfl, rfl⟩
 (rw [decide_eq_false (p := (c.ints.length : Int) > 400) (by omega)])
 (repeat(first|refine Kq rfl rfl rfl ?_|refine Z96 rfl (Kq rfl rfl rfl ?_)))
 rw [el]
 by_cases h3 : 400 < c.ns.length
 ·(rw [decide_eq_true (p := (c.ns.length : Int) > 400) (by omega)])
  (repeat(first|refine Kq rfl rfl rfl ?_|refine Z97 rfl ?_|(refine Z99 ?_; (repeat(first|refine Z9x rfl ?_|refine Z9y ?_)); refine Z9w ?_)|refine Ks ?_|refine Zb1 (fun _ _ => rfl) ?_|refine Kc1 rfl ?_))
  refine Z8o ?_
  have e : X = false := by rw [← hX, decide_eq_true h3]; simp
  rw [e]
  exact Kar rfl ⟨rfl, rfl⟩
 (rw [decide_eq_false (p := (c.ns.length : Int) > 400) (by omega)])
 (repeat(first|refine Kq rfl rfl rfl ?_|refine Z96 rfl (Kq rfl rfl rfl ?_)))
 rw [el]
 by_cases h4 : 400 < c.texts.length
 ·(rw [decide_eq_true (p := (c.texts.length : Int) > 400) (by omega)])
  (repeat(first|refine Kq rfl rfl rfl ?_|refine Z97 rfl ?_|(refine Z99 ?_; (repeat(first|refine Z9x rfl ?_|refine Z9y ?_)); refine Z9w ?_)|refine Ks ?_|refine Zb1 (fun _ _ => rfl) ?_|refine Kc1 rfl ?_))
  refine Z8o ?_
  have e : X = false := by rw [← hX, decide_eq_true h4]; simp
  rw [e]
  exact Kar rfl ⟨rfl, rfl⟩
 (rw [decide_eq_false (p := (c.texts.length : Int) > 400) (by omega)])
 (repeat(first|refine Kq rfl rfl rfl ?_|refine Z96 rfl (Kq rfl rfl rfl ?_)))
 rw [el]
 by_cases h5 : 400 < c.lens.length
 ·(rw [decide_eq_true (p := (c.lens.length : Int) > 400) (by omega)])
  (repeat(first|refine Kq rfl rfl rfl ?_|(refine Z99 ?_; (repeat(first|refine Z9x rfl ?_|refine Z9y ?_)); refine Z9w ?_)|refine Ks ?_|refine Zb1 (fun _ _ => rfl) ?_|refine Kc1 rfl ?_))
  refine Z8o ?_
  have e : X = false := by rw [← hX, decide_eq_true h5]; simp
  rw [e]
  exact Kar rfl ⟨rfl, rfl⟩
 (rw [decide_eq_false (p := (c.lens.length : Int) > 400) (by omega)])
 have hX : (c.texts.all fun b => decide (b.length ≤ 5000)) = X := by
  rw [← hX, decide_eq_false h1, decide_eq_false h2, decide_eq_false h3, decide_eq_false h4, decide_eq_false h5]; simp
 (repeat(first|refine Kq rfl rfl rfl ?_|(refine Z99 ?_; (repeat(first|refine Z9x rfl ?_|refine Z9y ?_)); refine Z9w ?_)|refine Ks ?_|refine Zb1 (fun _ _ => rfl) ?_|refine Z8s ?_|refine Zb2 (fun _ _ => rfl) ?_|refine Kc2 rfl ?_))
 refine Za6 (fun m F σ' => ∃ i : Nat, F = fset 1 (some (.iptr (Zrl c))) (fset 3 (some (.int .i64 (i : Nat))) Z28) ∧ σ = σ' ∧ i ≤ c.texts.length ∧ (∀ (j : Nat) b, j < i → c.texts[j]? = some b → b.length ≤ 5000) ∧ m = c.texts.length - i) (n := c.texts.length)
  ⟨0, rfl, rfl, by omega, fun j b h => by omega, by omega⟩ ?_
 rintro m F σ' ⟨i, rfl, rfl, hi, hgd, rfl⟩
 (repeat(first|refine Kq rfl rfl rfl ?_|(refine Z99 ?_; (repeat(first|refine Z9x rfl ?_|refine Z9y ?_)); refine Z9w ?_)|refine Ks ?_|refine Zb1 (fun _ _ => rfl) ?_))
 rw [el]
 refine Za2 (p := (i : Int) < (c.texts.length : Nat)) rfl (fun h3 => ?_) (fun h3 => ?_)
 ·have hil : i < c.texts.length := by omega
  have hx := Zrn (f := fun b => Z0.slc 1 (bytes b) false) hil
  have hvi := List.getElem?_eq_getElem hil
  have hmem := List.getElem_mem hil
  generalize c.texts[i] = v at hx hvi hmem
  (repeat(first|refine Kq rfl rfl rfl ?_|refine Ks ?_|refine Zb1 (fun _ _ => rfl) ?_|refine Z8s ?_|refine Zb2 (fun _ _ => rfl) ?_))
  refine Z9d rfl (by omega) hx ?_
  (repeat(first|refine Kq rfl rfl rfl ?_|(refine Z99 ?_; (repeat(first|refine Z9x rfl ?_|refine Z9y ?_)); refine Z9w ?_)))
  rw [Zac]
  by_cases hv : v.length ≤ 5000
  ·(rw [decide_eq_false (p := (v.length : Int) > 5000) (by omega)])
   (repeat(first|refine Zb2 (fun _ _ => rfl) ?_|refine Kc2 rfl ?_))
   refine Zb4 ?_
   repeat refine Kq rfl rfl rfl ?_
   rw [Kwr i (by omega)]
   (refine Z99 ?_; (repeat(first|refine Z9x rfl ?_|refine Z9y ?_)); refine Z9w ?_)
   refine ⟨_, c.texts.length - (i + 1), HSub.refl _, ⟨i + 1, rfl, rfl, by omega, fun j b hj hb => ?_, rfl⟩, by omega⟩
   by_cases e : j = i
   ·subst e; rw [hvi] at hb; cases hb; exact hv
   ·exact hgd j b (by omega) hb
  ·(rw [decide_eq_true (p := (v.length : Int) > 5000) (by omega)])
   (repeat(first|refine Kq rfl rfl rfl ?_|(refine Z99 ?_; (repeat(first|refine Z9x rfl ?_|refine Z9y ?_)); refine Z9w ?_)|refine Ks ?_|refine Zb1 (fun _ _ => rfl) ?_|refine Kc1 rfl ?_))
   refine Z8o ?_
   have : X = false := by
    rw [← hX]
    cases e : c.texts.all fun b => decide (b.length ≤ 5000) with
    | false => rfl
    | true => exact absurd (of_decide_eq_true (List.all_eq_true.1 e v hmem)) hv
   rw [this]
   exact Kar rfl ⟨rfl, rfl⟩
 ·have : X = true := by
   rw [← hX]
   refine List.all_eq_true.2 fun b hb => ?_
   obtain ⟨j, hj⟩ := List.getElem?_of_mem hb
   exact decide_eq_true (hgd j b (by have := (List.getElem?_eq_some_iff.1 hj).1; omega) hj)
  rw [this]
  (repeat(first|refine Kq rfl rfl rfl ?_|(refine Z99 ?_; (repeat(first|refine Z9x rfl ?_|refine Z9y ?_)); refine Z9w ?_)|refine Ks ?_|refine Zb1 (fun _ _ => rfl) ?_|refine Zb3 (fun _ _ => rfl) ?_))
  refine Z8o ?_
  exact Kar rfl ⟨rfl, rfl⟩
theorem Z1h5 (c : Col) (σ : Zc) : Z1s Try.prog Zd3 [Kc c] σ fun r σ' => r = Kc c ∧ σ' = σ := by
 refine Z94 rfl Z1ge (Nat.le_of_ble_eq_true rfl) ?_
 refine Za1 ?_
 refine Z9n rfl (Kfi rfl) fun b1 hb1 => ?_
 refine Z9o (by simp [Z0.cells, Z0.one]) fun b2 hb2 => ?_
 (refine Z99 ?_; (repeat(first|refine Z9x rfl ?_|refine Z9y ?_)); refine Z9w ?_)
 refine Zak (β := [(b2, _)]) (γ := [(b1, _)]) ?_
 refine Zaj (d := 1) (cs := Zrl c) rfl ?_
 (refine Za0 (keep := [1, 2]) ?_; ((repeat(first|refine Z9x rfl ?_|refine Z9y ?_)); refine Z9w ?_))
 refine Za1 ?_
 repeat refine Kq rfl rfl rfl ?_
 refine Z9g rfl Z9a rfl (by decide) (Kfi rfl) (fun h => by cases h) Z9h ?_
 (refine Z99 ?_; (repeat(first|refine Z9x rfl ?_|refine Z9y ?_)); refine Z9w ?_)
 refine Z8o ?_
 exact Zag (Zsj rfl Z9a rfl) (VRle.refl _) (HSub.tail _ _) ⟨rfl, rfl⟩
end Go.Abs

