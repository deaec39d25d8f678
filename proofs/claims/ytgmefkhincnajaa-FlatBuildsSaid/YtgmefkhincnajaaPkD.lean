/- Part D of a proof: merged by program. -/
import Derived.Test.YtgmefkhincnajaaProg
import Derived.KernelRfl
import Derived.WalkKit
import Derived.Laws.Externs
import Derived.Lib.Bytealg
import Derived.Deep.Slices
import Derived.Test.YtgmefkhincnajaaPkC
set_option linter.unusedVariables false
set_option linter.unusedSimpArgs false
set_option maxHeartbeats 4000000
namespace Go.Abs
open Go
def Zo1 : List Z2b := [
 ⟨some 1,(.box 5),[.t 0],none⟩,⟨some 2,.mov,[.c (.bool false)],none⟩]
def Zo2 : List Z2b := [
 ⟨some 3,(.fad 0),[.t 1],none⟩,⟨some 4,(.load false 1),[.t 3],none⟩,⟨some 5,(.call Ze6),[.t 4,.c (.bool false)],none⟩,⟨some 2,.mov,[.t 5],none⟩]
def Zo3 : Z2z := ⟨6,(.seq (.region Zo1 [1]) (.seq (.region Zo2 [2]) .ret)),[.t 2]⟩
def Zo4 : List Z2b := [
 ⟨some 4,.mov,[.c (.bool false)],none⟩]
def Zo5 : List Z2b := [
 ⟨some 5,.mov,[.t 0],none⟩,⟨some 6,.mov,[.t 1],none⟩,⟨some 7,(.call Zf8),[.t 5,.t 6],none⟩,⟨some 8,(.bin .geq),[.t 7,.c (.int .i64 0)],none⟩,⟨some 4,.mov,[.t 8],none⟩]
def Zo6 : Z2z := ⟨9,(.seq (.region Zo4 [0,1]) (.seq (.region Zo5 [4]) .ret)),[.t 4]⟩
def Zo7 : List Z2b := [
 ⟨some 4,.mov,[.c (.int .i64 0)],none⟩]
def Zo8 : List Z2b := [
 ⟨some 6,.mov,[.t 0],none⟩,⟨some 7,.lens,[.t 6],none⟩,⟨some 8,.mov,[.c (.int .i64 0)],none⟩]
def Zo9 : List Z2b := [
 ⟨some 9,(.bin .lss),[.t 8,.t 7],none⟩]
def Zoa : List Z2b := [
 ⟨some 10,.mov,[.t 8],none⟩,⟨some 5,.mov,[.t 10],none⟩]
def Zob : List Z2b := [
 ⟨some 11,.mov,[.t 1],none⟩,⟨some 12,.mov,[.t 0],none⟩,⟨some 13,.mov,[.t 5],none⟩,⟨some 14,(.iad 1),[.t 12,.t 13],none⟩,⟨some 15,(.load false 1),[.t 14],none⟩,⟨some 16,(.binb .eql),[.t 11,.t 15],none⟩]
def Zoc : List Z2b := [
 ⟨some 17,.mov,[.t 5],none⟩,⟨some 4,.mov,[.t 17],none⟩]
def Zod : List Z2b := [
 ⟨some 18,(.bin .add),[.t 8,.c (.int .i64 1)],none⟩,⟨some 8,.mov,[.t 18],none⟩]
def Zoe : Z2c := (.seq (.region Zo9 [0,1,7,8,9]) (.seq (.cond (.t 9) .skip (.exit 0)) (.seq (.block 1 (.seq (.region Zoa [0,1,5,7,8]) (.seq (.region Zob [0,1,5,7,8,16]) (.cond (.t 16) (.seq (.region Zoc [4]) .ret) .skip)))) (.region Zod [0,1,7,8]))))
def Zof : List Z2b := [
 ⟨some 4,.mov,[.c (.int .i64 (-1))],none⟩]
def Zog : Z2z := ⟨19,(.seq (.region Zo7 [0,1]) (.seq (.seq (.region Zo8 [0,1,7,8]) (.block 0 (.loop Zoe))) (.seq (.region Zof [4]) .ret))),[.t 4]⟩
def Zoh : List Z2b := [
 ⟨some 1,(.box 6),[.t 0],none⟩,⟨some 2,.mov,[.c (.slc 0 [] true)],none⟩]
def Zoi : List Z2b := [
 ⟨some 3,(.load true 6),[.t 1],none⟩,⟨some 4,(.call Zch),[.t 3],none⟩,⟨some 5,(.bin .neq),[.t 4,.c (.int .i64 0)],none⟩]
def Zoj : List Z2b := [
 ⟨some 2,.mov,[.c (.slc 0 [] true)],none⟩]
def Zok : List Z2b := [
 ⟨some 6,(.load true 6),[.t 1],none⟩,⟨some 7,(.call Zdb),[.c (.slc 0 [] true),.t 6,.c (.int .i64 (-1)),.c (.int .i64 1)],none⟩,⟨some 2,.mov,[.t 7],none⟩]
def Zol : Z2z := ⟨8,(.seq (.region Zoh [1]) (.seq (.seq (.region Zoi [1,5]) (.cond (.t 5) (.seq (.region Zoj [2]) .ret) .skip)) (.seq (.region Zok [2]) .ret))),[.t 2]⟩
def Zom : List Z2b := [
 ⟨some 5,(.box 6),[.t 1],none⟩,⟨some 8,.mov,[.c (.slc 0 [] true)],none⟩]
def Zon : List Z2b := [
 ⟨some 12,.mov,[.t 0],none⟩,⟨some 13,.lens,[.t 12],none⟩,⟨some 9,.mov,[.t 13],none⟩]
def Zoo : List Z2b := [
 ⟨some 14,.mov,[.t 0],none⟩,⟨some 15,(.load true 6),[.t 5],none⟩,⟨some 16,.mov,[.t 2],none⟩,⟨some 17,.mov,[.t 3],none⟩,⟨some 18,(.bld [(.int .i64 0),(.slc 0 [] true),(.slc 0 [] true),(.int .i64 0),(.int .i64 0),(.int .i64 0),(.slc 0 [] true),(.int .i64 0),(.int .i64 0)] [(0,6),(7,1),(8,1)]),[.t 15,.t 16,.t 17],none⟩,⟨some 19,(.bsl 9),[.t 18],none⟩,⟨some 20,(.app 9 120),[.t 14,.t 19],none⟩,⟨some 0,.mov,[.t 20],none⟩]
def Zop : List Z2b := [
 ⟨some 10,.mov,[.c (.int .i64 0)],none⟩]
def Zoq : List Z2b := [
 ⟨some 21,.mov,[.t 10],none⟩,⟨some 22,(.fad 2),[.t 5],none⟩,⟨some 23,(.load false 1),[.t 22],none⟩,⟨some 24,.lens,[.t 23],none⟩,⟨some 25,(.bin .lss),[.t 21,.t 24],none⟩]
def Zor : List Z2b := [
 ⟨some 28,.mov,[.t 0],none⟩,⟨some 29,.lens,[.t 28],none⟩,⟨some 11,.mov,[.t 29],none⟩]
def Zos : List Z2b := [
 ⟨some 30,.mov,[.t 0],none⟩,⟨some 31,(.fad 2),[.t 5],none⟩,⟨some 32,(.load false 1),[.t 31],none⟩,⟨some 33,.mov,[.t 10],none⟩,⟨some 34,(.iad 6),[.t 32,.t 33],none⟩,⟨some 35,(.load true 6),[.t 34],none⟩,⟨some 36,.mov,[.t 9],none⟩,⟨some 37,.mov,[.t 3],none⟩,⟨some 38,(.bin .add),[.t 37,.c (.int .i64 1)],none⟩,⟨some 39,(.call Zdb),[.t 30,.t 35,.t 36,.t 38],none⟩,⟨some 0,.mov,[.t 39],none⟩]
def Zot : List Z2b := [
 ⟨some 40,.mov,[.t 0],none⟩,⟨some 41,.mov,[.t 9],none⟩,⟨some 42,.mov,[.t 0],none⟩,⟨some 43,.mov,[.t 9],none⟩,⟨some 44,(.iad 9),[.t 42,.t 43],none⟩,⟨some 45,(.fad 6),[.t 44],none⟩,⟨some 46,(.load false 1),[.t 45],none⟩,⟨some 47,.mov,[.t 11],none⟩,⟨some 48,(.bsl 1),[.t 47],none⟩,⟨some 49,(.app 1 8),[.t 46,.t 48],none⟩,⟨some 50,(.iad 9),[.t 40,.t 41],none⟩,⟨some 51,(.fad 6),[.t 50],none⟩,⟨none,(.store 1),[.t 51,.t 49],none⟩]
def Zou : List Z2b := [
 ⟨some 26,.mov,[.t 10],none⟩,⟨some 27,(.bin .add),[.t 26,.c (.int .i64 1)],none⟩,⟨some 10,.mov,[.t 27],none⟩]
def Zov : Z2c := (.seq (.seq (.region Zoq [0,3,5,9,10,25]) (.cond (.t 25) .skip (.exit 0))) (.seq (.block 1 (.seq (.region Zor [0,3,5,9,10,11]) (.seq (.region Zos [0,3,5,9,10,11]) (.region Zot [0,3,5,9,10])))) (.region Zou [0,3,5,9,10])))
def Zow : List Z2b := [
 ⟨some 52,.mov,[.t 0],none⟩,⟨some 8,.mov,[.t 52],none⟩]
def Zox : Z2z := ⟨53,(.seq (.region Zom [0,2,3,5]) (.seq (.region Zon [0,2,3,5,9]) (.seq (.region Zoo [0,3,5,9]) (.seq (.seq (.region Zop [0,3,5,9,10]) (.block 0 (.loop Zov))) (.seq (.region Zow [8]) .ret))))),[.t 8]⟩
def Zoy : List Z2b := [
 ⟨some 2,(.box 6),[.t 0],none⟩,⟨some 3,(.box 5),[.t 1],none⟩,⟨some 4,.mov,[.c (.int .i64 0)],none⟩]
def Zoz : List Z2b := [
 ⟨some 8,(.fad 0),[.t 3],none⟩,⟨some 9,(.load false 1),[.t 8],none⟩]
def Zp0 : List Z2b := [
 ⟨some 10,(.fad 1),[.t 3],none⟩,⟨some 11,(.load false 1),[.t 10],none⟩,⟨some 12,(.bin .neq),[.t 11,.c (.int .i64 0)],none⟩,⟨some 13,.mov,[.t 12],none⟩,⟨some 14,(.fad 2),[.t 3],some (13,false)⟩,⟨some 15,(.load false 1),[.t 14],some (13,false)⟩,⟨some 16,(.bin .neq),[.t 15,.c (.int .i64 0)],some (13,false)⟩,⟨some 17,.pick,[.t 13,.c (.bool true),.t 16],none⟩,⟨some 18,.mov,[.t 17],none⟩,⟨some 19,(.fad 3),[.t 3],some (18,false)⟩,⟨some 20,(.load false 1),[.t 19],some (18,false)⟩,⟨some 21,.lens,[.t 20],some (18,false)⟩,⟨some 22,(.bin .gtr),[.t 21,.c (.int .i64 0)],some (18,false)⟩,⟨some 23,.pick,[.t 18,.c (.bool true),.t 22],none⟩,⟨some 24,.mov,[.t 23],none⟩,⟨some 25,(.fad 4),[.t 3],some (24,false)⟩,⟨some 26,(.load false 1),[.t 25],some (24,false)⟩,⟨some 27,.lens,[.t 26],some (24,false)⟩,⟨some 28,(.bin .gtr),[.t 27,.c (.int .i64 0)],some (24,false)⟩,⟨some 29,.pick,[.t 24,.c (.bool true),.t 28],none⟩]
def Zp1 : List Z2b := [
 ⟨some 4,.mov,[.c (.int .i64 1)],none⟩]
def Zp2 : List Z2b := [
 ⟨some 4,.mov,[.c (.int .i64 0)],none⟩]
def Zp3 : List Z2b := [
 ⟨some 30,(.load true 6),[.t 2],none⟩,⟨some 31,(.fad 1),[.t 3],none⟩,⟨some 32,(.load false 1),[.t 31],none⟩,⟨some 33,(.fad 2),[.t 3],none⟩,⟨some 34,(.load false 1),[.t 33],none⟩,⟨some 35,(.call Zdy),[.t 30,.t 32,.t 34],none⟩,⟨some 36,.unot,[.t 35],none⟩,⟨some 37,.mov,[.t 36],none⟩,⟨some 38,(.fad 3),[.t 3],some (37,false)⟩,⟨some 39,(.load false 1),[.t 38],some (37,false)⟩,⟨some 40,.lens,[.t 39],some (37,false)⟩,⟨some 41,(.bin .gtr),[.t 40,.c (.int .i64 0)],some (37,false)⟩,⟨some 42,.mov,[.t 41],some (37,false)⟩,⟨some 43,(.fad 0),[.t 2],some (42,true)⟩,⟨some 44,(.load false 1),[.t 43],some (42,true)⟩,⟨some 45,(.call Zdk),[.t 44],some (42,true)⟩,⟨some 46,.unot,[.t 45],some (42,true)⟩,⟨some 47,.pick,[.t 42,.t 46,.c (.bool false)],some (37,false)⟩,⟨some 48,.pick,[.t 37,.c (.bool true),.t 47],none⟩,⟨some 49,.mov,[.t 48],none⟩,⟨some 50,(.fad 4),[.t 3],some (49,false)⟩,⟨some 51,(.load false 1),[.t 50],some (49,false)⟩,⟨some 52,.lens,[.t 51],some (49,false)⟩,⟨some 53,(.bin .gtr),[.t 52,.c (.int .i64 0)],some (49,false)⟩,⟨some 54,.mov,[.t 53],some (49,false)⟩,⟨some 55,(.fad 0),[.t 2],some (54,true)⟩,⟨some 56,(.load false 1),[.t 55],some (54,true)⟩,⟨some 57,(.call Zdl),[.t 56],some (54,true)⟩,⟨some 58,.pick,[.t 54,.t 57,.c (.bool false)],some (49,false)⟩,⟨some 59,.pick,[.t 49,.c (.bool true),.t 58],none⟩]
def Zp4 : List Z2b := [
 ⟨some 4,.mov,[.c (.int .i64 1)],none⟩]
def Zp5 : List Z2b := [
 ⟨some 60,(.fad 3),[.t 3],none⟩,⟨some 61,(.load false 1),[.t 60],none⟩,⟨some 62,.lens,[.t 61],none⟩,⟨some 63,(.bin .gtr),[.t 62,.c (.int .i64 4096)],none⟩,⟨some 64,.mov,[.t 63],none⟩,⟨some 65,(.fad 0),[.t 2],some (64,false)⟩,⟨some 66,(.load false 1),[.t 65],some (64,false)⟩,⟨some 67,(.bin .eql),[.t 66,.c (.int .i64 16)],some (64,false)⟩,⟨some 68,.mov,[.t 67],some (64,false)⟩,⟨some 69,(.fad 0),[.t 2],some (68,false)⟩,⟨some 70,(.load false 1),[.t 69],some (68,false)⟩,⟨some 71,(.bin .eql),[.t 70,.c (.int .i64 17)],some (68,false)⟩,⟨some 72,.pick,[.t 68,.c (.bool true),.t 71],some (64,false)⟩,⟨some 73,.mov,[.t 72],some (64,false)⟩,⟨some 74,(.fad 3),[.t 3],some (73,true)⟩,⟨some 75,(.load false 1),[.t 74],some (73,true)⟩,⟨some 76,(.callp Zdz),[.t 75],some (73,true)⟩,⟨some 77,(.fad 3),[.t 2],some (73,true)⟩,⟨some 78,(.load false 1),[.t 77],some (73,true)⟩,⟨some 79,(.bin .gtr),[.t 76,.t 78],some (73,true)⟩,⟨some 80,.pick,[.t 73,.t 79,.c (.bool false)],some (64,false)⟩,⟨some 81,.pick,[.t 64,.c (.bool true),.t 80],none⟩]
def Zp6 : List Z2b := [
 ⟨some 4,.mov,[.c (.int .i64 4)],none⟩]
def Zp7 : List Z2b := [
 ⟨some 82,(.fad 4),[.t 3],none⟩,⟨some 83,(.load false 1),[.t 82],none⟩,⟨some 84,.lens,[.t 83],none⟩,⟨some 5,.mov,[.t 84],none⟩]
def Zp8 : List Z2b := [
 ⟨some 85,(.fad 0),[.t 2],none⟩,⟨some 86,(.load false 1),[.t 85],none⟩]
def Zp9 : List Z2b := [
 ⟨some 88,(.bin .eql),[.t 86,.c (.int .i64 10)],none⟩,⟨some 87,.mov,[.t 88],none⟩]
def Zpa : List Z2b := [
 ⟨some 89,.mov,[.t 5],none⟩,⟨some 90,(.bin .gtr),[.t 89,.c (.int .i64 16384)],none⟩]
def Zpb : List Z2b := [
 ⟨some 4,.mov,[.c (.int .i64 4)],none⟩]
def Zpc : List Z2b := [
 ⟨some 92,(.bin .eql),[.t 86,.c (.int .i64 11)],none⟩,⟨some 91,.mov,[.t 92],none⟩]
def Zpd : List Z2b := [
 ⟨some 93,.mov,[.t 5],none⟩,⟨some 94,(.bin .rem),[.t 93,.c (.int .i64 2)],none⟩,⟨some 95,(.bin .neq),[.t 94,.c (.int .i64 0)],none⟩]
def Zpe : List Z2b := [
 ⟨some 4,.mov,[.c (.int .i64 1)],none⟩]
def Zpf : List Z2b := [
 ⟨some 96,.mov,[.t 5],none⟩,⟨some 97,(.bin .gtr),[.t 96,.c (.int .i64 32768)],none⟩]
def Zpg : List Z2b := [
 ⟨some 4,.mov,[.c (.int .i64 4)],none⟩]
def Zph : List Z2b := [
 ⟨some 99,(.bin .eql),[.t 86,.c (.int .i64 12)],none⟩,⟨some 98,.mov,[.t 99],none⟩]
def Zpi : List Z2b := [
 ⟨some 100,.mov,[.t 5],none⟩,⟨some 101,(.fad 2),[.t 2],none⟩,⟨some 102,(.load false 1),[.t 101],none⟩,⟨some 103,.lens,[.t 102],none⟩,⟨some 104,(.bin .neq),[.t 100,.t 103],none⟩]
def Zpj : List Z2b := [
 ⟨some 4,.mov,[.c (.int .i64 1)],none⟩]
def Zpk : List Z2b := [
 ⟨some 106,(.bin .eql),[.t 86,.c (.int .i64 13)],none⟩,⟨some 105,.mov,[.t 106],none⟩]
def Zpl : List Z2b := [
 ⟨some 107,.mov,[.t 5],none⟩,⟨some 108,(.bin .neq),[.t 107,.c (.int .i64 1)],none⟩]
def Zpm : List Z2b := [
 ⟨some 4,.mov,[.c (.int .i64 1)],none⟩]
def Zpn : List Z2b := [
 ⟨some 6,.mov,[.c (.int .i64 0)],none⟩]
def Zpo : List Z2b := [
 ⟨some 109,.mov,[.t 6],none⟩,⟨some 110,.mov,[.t 5],none⟩,⟨some 111,(.bin .lss),[.t 109,.t 110],none⟩]
def Zpp : List Z2b := [
 ⟨some 114,(.fad 0),[.t 2],none⟩,⟨some 115,(.load false 1),[.t 114],none⟩,⟨some 116,(.bin .eql),[.t 115,.c (.int .i64 11)],none⟩,⟨some 117,.mov,[.t 116],none⟩,⟨some 118,.mov,[.t 6],some (117,true)⟩,⟨some 119,(.bin .rem),[.t 118,.c (.int .i64 2)],some (117,true)⟩,⟨some 120,(.bin .eql),[.t 119,.c (.int .i64 0)],some (117,true)⟩,⟨some 121,.pick,[.t 117,.t 120,.c (.bool false)],none⟩,⟨some 122,.mov,[.t 121],none⟩,⟨some 123,(.fad 4),[.t 3],some (122,true)⟩,⟨some 124,(.load false 1),[.t 123],some (122,true)⟩,⟨some 125,.mov,[.t 6],some (122,true)⟩,⟨some 126,(.iad 5),[.t 124,.t 125],some (122,true)⟩,⟨some 127,(.fad 0),[.t 126],some (122,true)⟩,⟨some 128,(.load false 1),[.t 127],some (122,true)⟩,⟨some 129,.pick,[.t 122,.t 128,.c (.bool false)],none⟩]
def Zpq : List Z2b := [
 ⟨some 4,.mov,[.c (.int .i64 1)],none⟩]
def Zpr : List Z2b := [
 ⟨some 130,(.load true 6),[.t 2],none⟩,⟨some 131,(.load true 5),[.t 3],none⟩,⟨some 132,.mov,[.t 6],none⟩,⟨some 133,(.callp Ze0),[.t 130,.t 131,.t 132],none⟩,⟨some 134,(.fad 4),[.t 3],none⟩,⟨some 135,(.load false 1),[.t 134],none⟩,⟨some 136,.mov,[.t 6],none⟩,⟨some 137,(.iad 5),[.t 135,.t 136],none⟩,⟨some 138,(.load true 5),[.t 137],none⟩,⟨some 139,(.call Zco),[.t 133,.t 138],none⟩,⟨some 7,.mov,[.t 139],none⟩]
def Zps : List Z2b := [
 ⟨some 140,.mov,[.t 7],none⟩,⟨some 141,(.bin .neq),[.t 140,.c (.int .i64 0)],none⟩]
def Zpt : List Z2b := [
 ⟨some 142,.mov,[.t 7],none⟩,⟨some 4,.mov,[.t 142],none⟩]
def Zpu : List Z2b := [
 ⟨some 112,.mov,[.t 6],none⟩,⟨some 113,(.bin .add),[.t 112,.c (.int .i64 1)],none⟩,⟨some 6,.mov,[.t 113],none⟩]
def Zpv : Z2c := (.seq (.seq (.region Zpo [2,3,5,6,111,118,119,120,123,124,125,126,127,128]) (.cond (.t 111) .skip (.exit 1))) (.seq (.block 2 (.seq (.seq (.region Zpp [2,3,5,6,118,119,120,123,124,125,126,127,128,129]) (.cond (.t 129) (.seq (.region Zpq [4]) .ret) .skip)) (.seq (.region Zpr [2,3,5,6,7,118,119,120,123,124,125,126,127,128]) (.seq (.region Zps [2,3,5,6,7,118,119,120,123,124,125,126,127,128,141]) (.cond (.t 141) (.seq (.region Zpt [4]) .ret) .skip))))) (.region Zpu [2,3,5,6,118,119,120,123,124,125,126,127,128])))
def Zpw : List Z2b := [
 ⟨some 4,.mov,[.c (.int .i64 0)],none⟩]
def Zpx : Z2z := ⟨143,(.seq (.region Zoy [2,3,14,15,16,19,20,21,22,25,26,27,28,38,39,40,41,42,43,44,45,46,47,50,51,52,53,54,55,56,57,58,65,66,67,68,69,70,71,72,73,74,75,76,77,78,79,80,118,119,120,123,124,125,126,127,128]) (.seq (.seq (.region Zoz [2,3,9,14,15,16,19,20,21,22,25,26,27,28,38,39,40,41,42,43,44,45,46,47,50,51,52,53,54,55,56,57,58,65,66,67,68,69,70,71,72,73,74,75,76,77,78,79,80,118,119,120,123,124,125,126,127,128]) (.cond (.t 9) (.seq (.seq (.region Zp0 [29]) (.cond (.t 29) (.seq (.region Zp1 [4]) .ret) .skip)) (.seq (.region Zp2 [4]) .ret)) .skip)) (.seq (.seq (.region Zp3 [2,3,59,65,66,67,68,69,70,71,72,73,74,75,76,77,78,79,80,118,119,120,123,124,125,126,127,128]) (.cond (.t 59) (.seq (.region Zp4 [4]) .ret) .skip)) (.seq (.seq (.region Zp5 [2,3,81,118,119,120,123,124,125,126,127,128]) (.cond (.t 81) (.seq (.region Zp6 [4]) .ret) .skip)) (.seq (.region Zp7 [2,3,5,118,119,120,123,124,125,126,127,128]) (.seq (.seq (.region Zp8 [2,3,5,86,118,119,120,123,124,125,126,127,128]) (.block 0 (.seq (.region Zp9 [2,3,5,86,87,118,119,120,123,124,125,126,127,128]) (.cond (.t 87) (.seq (.region Zpa [2,3,5,90,118,119,120,123,124,125,126,127,128]) (.cond (.t 90) (.seq (.region Zpb [4]) .ret) .skip)) (.seq (.region Zpc [2,3,5,86,91,118,119,120,123,124,125,126,127,128]) (.cond (.t 91) (.seq (.seq (.region Zpd [2,3,5,95,118,119,120,123,124,125,126,127,128]) (.cond (.t 95) (.seq (.region Zpe [4]) .ret) .skip)) (.seq (.region Zpf [2,3,5,97,118,119,120,123,124,125,126,127,128]) (.cond (.t 97) (.seq (.region Zpg [4]) .ret) .skip))) (.seq (.region Zph [2,3,5,86,98,118,119,120,123,124,125,126,127,128]) (.cond (.t 98) (.seq (.region Zpi [2,3,5,104,118,119,120,123,124,125,126,127,128]) (.cond (.t 104) (.seq (.region Zpj [4]) .ret) .skip)) (.seq (.region Zpk [2,3,5,105,118,119,120,123,124,125,126,127,128]) (.cond (.t 105) (.seq (.region Zpl [2,3,5,108,118,119,120,123,124,125,126,127,128]) (.cond (.t 108) (.seq (.region Zpm [4]) .ret) .skip)) .skip)))))))))) (.seq (.seq (.region Zpn [2,3,5,6,118,119,120,123,124,125,126,127,128]) (.block 1 (.loop Zpv))) (.seq (.region Zpw [4]) .ret)))))))),[.t 4]⟩
def Zpy : List Z2b := [
 ⟨some 2,.mov,[.c (.bool false)],none⟩]
def Zpz : List Z2b := [
 ⟨some 3,.mov,[.t 0],none⟩]
def Zq0 : List Z2b := [
 ⟨some 5,(.bin .eql),[.t 3,.c (.int .i64 7)],none⟩,⟨some 4,.mov,[.t 5],none⟩]
def Zq1 : List Z2b := [
 ⟨some 6,(.bin .eql),[.t 3,.c (.int .i64 8)],none⟩,⟨some 4,.mov,[.t 6],none⟩]
def Zq2 : List Z2b := [
 ⟨some 8,(.bin .eql),[.t 3,.c (.int .i64 16)],none⟩,⟨some 7,.mov,[.t 8],none⟩]
def Zq3 : List Z2b := [
 ⟨some 9,(.bin .eql),[.t 3,.c (.int .i64 17)],none⟩,⟨some 7,.mov,[.t 9],none⟩]
def Zq4 : List Z2b := [
 ⟨some 2,.mov,[.c (.bool true)],none⟩]
def Zq5 : List Z2b := [
 ⟨some 2,.mov,[.c (.bool false)],none⟩]
def Zq6 : Z2z := ⟨10,(.seq (.region Zpy [0]) (.seq (.seq (.region Zpz [3]) (.block 0 (.seq (.block 2 (.block 1 (.seq (.seq (.seq (.seq (.region Zq0 [3,4]) (.cond (.t 4) .skip (.region Zq1 [3,4]))) (.cond (.t 4) (.exit 1) .skip)) (.seq (.seq (.region Zq2 [3,7]) (.cond (.t 7) .skip (.region Zq3 [7]))) (.cond (.t 7) (.exit 2) .skip))) (.exit 0)))) (.seq (.seq (.region Zq4 [2]) .ret) (.exit 0))))) (.seq (.region Zq5 [2]) .ret))),[.t 2]⟩
def Zq7 : List Z2b := [
 ⟨some 2,.mov,[.c (.slc 0 [] true)],none⟩]
def Zq8 : List Z2b := [
 ⟨some 3,.mov,[.t 0],none⟩,⟨some 4,.mov,[.t 0],none⟩,⟨some 5,.lens,[.t 4],none⟩,⟨some 6,.mov,[.t 0],none⟩,⟨some 7,.lens,[.t 6],none⟩,⟨some 8,(.clip 1),[.t 3,.t 5,.t 7],none⟩,⟨some 2,.mov,[.t 8],none⟩]
def Zq9 : Z2z := ⟨9,(.seq (.region Zq7 [0]) (.seq (.region Zq8 [2]) .ret)),[.t 2]⟩
def Zqa : List Z2b := [
 ⟨some 2,.mov,[.c (.slc 0 [] true)],none⟩]
def Zqb : List Z2b := [
 ⟨some 3,.mov,[.t 0],none⟩,⟨some 4,(.isnil false),[.t 3,.c (.slc 0 [] true)],none⟩]
def Zqc : List Z2b := [
 ⟨some 2,.mov,[.c (.slc 0 [] true)],none⟩]
def Zqd : List Z2b := [
 ⟨some 5,(.bsl 1),[],none⟩,⟨some 6,.mov,[.t 0],none⟩,⟨some 7,(.app 1 1),[.t 5,.t 6],none⟩,⟨some 2,.mov,[.t 7],none⟩]
def Zqe : Z2z := ⟨8,(.seq (.region Zqa [0]) (.seq (.seq (.region Zqb [0,4]) (.cond (.t 4) (.seq (.region Zqc [2]) .ret) .skip)) (.seq (.region Zqd [2]) .ret))),[.t 2]⟩
def Zqf : List Z2b := [
 ⟨some 2,.mov,[.c (.slc 0 [] true)],none⟩]
def Zqg : List Z2b := [
 ⟨some 3,.mov,[.t 0],none⟩,⟨some 4,.mov,[.t 0],none⟩,⟨some 5,.lens,[.t 4],none⟩,⟨some 6,.mov,[.t 0],none⟩,⟨some 7,.lens,[.t 6],none⟩,⟨some 8,(.clip 5),[.t 3,.t 5,.t 7],none⟩,⟨some 2,.mov,[.t 8],none⟩]
def Zqh : Z2z := ⟨9,(.seq (.region Zqf [0]) (.seq (.region Zqg [2]) .ret)),[.t 2]⟩
end Go.Abs
namespace Go.Abs
open Go Go.Proofs
theorem Zqi : Z30 Try.prog [] Zcv = some Zo3.erase := by kernel_rfl
theorem Zqj : Z30 Try.prog [] Ze6 = some Zo6.erase := by kernel_rfl
theorem Zqk : Z30 Try.prog [] Zf8 = some Zog.erase := by kernel_rfl
theorem Zql : Z30 Try.prog [] Zc1 = some Zol.erase := by kernel_rfl
theorem Zqm : Z30 Try.prog [] Zdb = some Zox.erase := by kernel_rfl
theorem Zqn : Z30 Try.prog [(30, 3), (7, 16)] Zco = some Zpx.erase := by kernel_rfl
theorem Zqo : Z30 Try.prog [] Zes = some Zq6.erase := by kernel_rfl
theorem Zqp : Z30 Try.prog [] Zez = some Zq9.erase := by kernel_rfl
theorem Zqq : Z30 Try.prog [] Zf0 = some Zqe.erase := by kernel_rfl
theorem Zqr : Z30 Try.prog [] Zf1 = some Zqh.erase := by kernel_rfl
end Go.Abs
namespace Go.Abs
open Go Go.Proofs
inductive Ty.Ok : Ty → Prop
 | mk {t : Ty} (h1 : ownF t.kind t.names t.kids.length t.len t.prec t.scale = 0) (h : ∀ k ∈ t.kids, Ty.Ok k) : Ty.Ok t
inductive Vl.Fit : Vl → Prop
 | mk {v : Vl} (h1 : -9223372036854775808 ≤ v.i ∧ v.i ≤ 9223372036854775807) (h2 : v.b.length ≤ 9223372036854775807) (h3 : v.kids.length ≤ 9223372036854775807) (h : ∀ k ∈ v.kids, Vl.Fit k) : Vl.Fit v
theorem Zqs : ∀ (t : Ty) (deep n : Nat), (chk deep n t).2 = 0 → t.Ok := by
 refine Ty.ind fun k ns ks l p s ih deep n h => ?_
 have hL : ∀ (ks : List Ty), (∀ t ∈ ks, ∀ (deep n : Nat), (chk deep n t).2 = 0 → t.Ok) → ∀ deep n, (chkL deep n ks).2 = 0 → ∀ t ∈ ks, t.Ok := by
  intro ks
  induction ks with
  | nil => intro _ deep n h t ht; cases ht
  | cons t ts ih2 =>
   intro ht deep n h u hu
   rw [chkL] at h
   split at h
   ·rename_i hne; exact absurd h hne
   ·rename_i hne
    rcases List.mem_cons.1 hu with rfl | hu
    ·exact ht u (by simp) deep n (by simpa using hne)
    ·exact ih2 (fun t ht' => ht t (by simp [ht'])) deep _ h u hu
 rw [chk] at h
 split at h
 ·simp at h
 ·split at h
  ·rename_i ho; exact absurd h ho
  ·rename_i ho
   refine .mk ?_ (hL ks ih (deep + 1) (n + 1) h)
   show ownF k ns ks.length l p s = 0
   simpa using ho
theorem Ty.Ok.kinds {t : Ty} (h : t.Ok) : Zm6 t.kind t.names.length t.kids.length = true ∧ 0 ≤ t.kind ∧ t.kind ≤ 17 := by
 cases h with
 | mk h1 _ =>
  rw [ownF] at h1
  split at h1
  ·cases h1
  ·split at h1
   ·cases h1
   ·rename_i hr
    simp only [not_or, Bool.not_eq_false] at hr
    have := hr.2.2
    simp only [Zm7, Bool.and_eq_true] at this
    exact ⟨this.1.1.1.1, by omega, by omega⟩
theorem Zqt {t : Ty} (h : t.Ok) {i n : Int} {b : List UInt8} {ks j : Nat} (ho : ownV t i n b ks = 0) (hj : j < ks) : Zmq t.kind i j < t.kids.length ∧ (t.kind = 13 → 0 ≤ i) := by
 obtain ⟨h1, h2, h3⟩ := h.kinds
 simp only [ownV] at ho
 split at ho
 ·cases ho
 rename_i hA
 simp only [not_or, not_and, Bool.not_eq_false, Bool.not_eq_true] at hA
 obtain ⟨a1, _, a3⟩ := hA
 have hleaf := a3 (by omega)
 simp only [Zm4, Bool.not_eq_false', Bool.or_eq_true, decide_eq_true_eq] at hleaf
 split at ho
 ·cases ho
 simp only [Zm6] at h1
 simp only [Zmq]
 by_cases k10 : t.kind = 10
 ·rw [if_pos k10] at h1 ⊢
  simp at h1
  exact ⟨by omega, by omega⟩
 rw [if_neg k10] at h1 ⊢
 by_cases k11 : t.kind = 11
 ·rw [if_pos k11] at h1 ⊢
  simp at h1
  exact ⟨by omega, by omega⟩
 rw [if_neg k11] at h1 ⊢
 by_cases k13 : t.kind = 13
 ·rw [if_pos k13]
  have : decide (0 ≤ i ∧ i < (t.kids.length : Int)) = true := by
   rw [Zmp] at a1
   split at a1
   ·cases a1
   ·simpa [k13] using a1
  simp at this
  exact ⟨by omega, fun _ => this.1⟩
 rw [if_neg k13]
 have k12 : t.kind = 12 := by omega
 rw [if_neg k10, if_neg k11, if_pos k12] at ho
 split at ho
 ·cases ho
 ·exact ⟨by omega, fun h => absurd h k13⟩
theorem Zqu {t : Ty} (h : t.Ok) {i : Int} {j : Nat} (hlt : Zmq t.kind i j < t.kids.length) : (kidT t i j).Ok := by
 cases h with
 | mk _ hk =>
  refine hk _ ?_
  rw [kidT, List.getD_eq_getElem?_getD, List.getElem?_eq_getElem hlt]
  exact List.getElem_mem hlt
theorem Zqv (t : Ty) (i : Int) : ∀ (ks : List Vl) (j : Nat) (v : Vl), ks[j]? = some v → Zmr t i j (ks.drop j) = if t.kind = 11 ∧ j % 2 = 0 ∧ v.null = true then 1 else if vchk (kidT t i j) v ≠ 0 then vchk (kidT t i j) v else Zmr t i (j + 1) (ks.drop (j + 1)) := by
 intro ks j v h
 obtain ⟨hj, rfl⟩ := List.getElem?_eq_some_iff.1 h
 rw [List.drop_eq_getElem_cons hj, Zmr]
theorem Zqw : ∀ (v : Vl) (t : Ty), vchk t v ≤ 4 := by
 refine Vl.ind fun nu i n b ks ih t => ?_
 have hL : ∀ (ks : List Vl), (∀ v ∈ ks, ∀ t : Ty, vchk t v ≤ 4) → ∀ j, Zmr t i j ks ≤ 4 := by
  intro ks
  induction ks with
  | nil => intro _ j; simp [Zmr]
  | cons v vs ih2 =>
   intro h j
   rw [Zmr]
   split
   ·omega
   ·split
    ·exact h v (by simp) _
    ·exact ih2 (fun v hv => h v (by simp [hv])) _
 rw [vchk]
 split
 ·split <;> omega
 ·split
  ·simp only [ownV]; (repeat' split) <;> omega
  ·exact hL ks ih 0
attribute [local irreducible] AWp aops
theorem Zqx : ∀ (v : Vl), v.Fit → ∀ (t : Ty), t.Ok → ∀ σ, Z1s Try.prog Zco [encT t, encV v] σ fun r σ' => r = .int .i64 (vchk t v : Int) ∧ σ' = σ := by
 refine Vl.ind fun nu i n bs vks ih hfit t hok σ => ?_
 cases hfit with
 | mk hi hbl hkl hkids =>
 have hka := fun (j : Nat) (hj : j < vks.length) (ho : ownV t i n bs vks.length = 0) => Zqt hok ho hj
 have hko := fun (j : Nat) (hlt : Zmq t.kind i j < t.kids.length) => Zqu (i := i) (j := j) hok hlt
 have hnum := Zn4 t i n hi.1 hi.2
 have hkid := fun (j : Nat) (hj : j ≤ 9223372036854775807) => Zn5 t i n nu bs vks j hj
 obtain ⟨k, ns, ks, l, p, s⟩ := t
 simp only [encT, encV, Ty.kind, Ty.kids, Ty.prec, Vl.i, Vl.b, Vl.kids] at *
 refine Z94 rfl Zqn (Nat.le_of_ble_eq_true rfl) ?_
 refine Za1 ?_
 refine Z9n rfl (Kfi rfl) fun b1 hb1 => ?_
 refine Z9n rfl (Kfi rfl) fun b2 hb2 => ?_
 repeat refine Kq rfl rfl rfl ?_
 (refine Z99 ?_; (repeat(first|refine Z9x rfl ?_|refine Z9y ?_)); refine Z9w ?_)
 refine Zaj (d := 3) (cs := [.bool nu, .int .i64 i, .int .i64 n, .slc 1 (bytes bs) false, .slc 5 (Zmg vks) false]) rfl ?_
 refine Zaj (d := 2) (cs := [.int .i64 k, .slc 1 (ns.map .str) false, .slc 6 (Zly ks) false, .int .i64 l, .int .i64 p, .int .i64 s]) rfl ?_
 (refine Za0 (keep := [2, 3]) ?_; ((repeat(first|refine Z9x rfl ?_|refine Z9y ?_)); refine Z9w ?_))
 generalize hX : vchk (.mk k ns ks l p s) (.mk nu i n bs vks) = X
 have hX' := hX
 rw [vchk] at hX'
 have ret : ∀ (x : Nat) (R : Z8i) (F : Z27), F 4 = some (.int .i64 (x : Int)) → X = x → (∀ F τ, R .ret F τ = ARet Zpx.res (fun r σ' => r = .int .i64 (X : Int) ∧ σ' = σ) .ret F τ) → AWp Try.prog Zpx.n .ret R F σ := by
  intro x R F hF hx hR
  refine Z8o ?_
  rw [hR]
  exact ares (vs := [.int .i64 (x : Int)]) (by simp [Z8w, Z8v, Zpx, hF]) (HSub.refl _) ⟨by rw [hx]; rfl, rfl⟩
 cases nu with
 | true =>
  rw [if_pos rfl] at hX'
  (repeat(first|refine Kq rfl rfl rfl ?_|(refine Z99 ?_; (repeat(first|refine Z9x rfl ?_|refine Z9y ?_)); refine Z9w ?_)|refine Ks ?_|refine Zb1 (fun _ _ => rfl) ?_|refine Kc1 rfl ?_))
  by_cases q1 : i = 0
  ·(rw [decide_eq_false (p := i ≠ 0) (by omega)])
   (repeat(first|refine Kq rfl rfl rfl ?_|refine Z96 rfl (Kq rfl rfl rfl ?_)))
   by_cases q2 : n = 0
   ·(rw [decide_eq_false (p := n ≠ 0) (by omega)])
    (repeat(first|refine Kq rfl rfl rfl ?_|refine Z96 rfl (Kq rfl rfl rfl ?_)))
    rw [Zac]
    by_cases q3 : bs = []
    ·rw [show decide ((0 : Int) < ((bs.length : Nat) : Int)) = false from decide_eq_false (by rw [q3]; simp)]
     (repeat(first|refine Kq rfl rfl rfl ?_|refine Z96 rfl (Kq rfl rfl rfl ?_)|(refine Z99 ?_; (repeat(first|refine Z9x rfl ?_|refine Z9y ?_)); refine Z9w ?_)))
     rw [Zmk]
     by_cases q4 : vks.length = 0
     ·(rw [decide_eq_false (p := (0 : Int) < ((vks.length : Nat) : Int)) (by omega)])
      (repeat(first|refine Kq rfl rfl rfl ?_|(refine Z99 ?_; (repeat(first|refine Z9x rfl ?_|refine Z9y ?_)); refine Z9w ?_)|refine Ks ?_|refine Zb1 (fun _ _ => rfl) ?_|refine Zb2 (fun _ _ => rfl) ?_|refine Kc2 rfl ?_))
      exact ret 0 _ _ rfl (by rw [← hX']; simp [q1, q2, q3, q4]) fun _ _ => rfl
     ·(rw [decide_eq_true (p := (0 : Int) < ((vks.length : Nat) : Int)) (by omega)])
      (repeat(first|refine Kq rfl rfl rfl ?_|(refine Z99 ?_; (repeat(first|refine Z9x rfl ?_|refine Z9y ?_)); refine Z9w ?_)|refine Ks ?_|refine Zb1 (fun _ _ => rfl) ?_|refine Kc1 rfl ?_))
      exact ret 1 _ _ rfl (by rw [← hX']; simp [q4]) fun _ _ => rfl
    ·have := List.length_pos_iff.2 q3
     (rw [decide_eq_true (p := (0 : Int) < ((bs.length : Nat) : Int)) (by omega)])
     (repeat(first|refine Kq rfl rfl rfl ?_|refine Z97 rfl ?_|(refine Z99 ?_; (repeat(first|refine Z9x rfl ?_|refine Z9y ?_)); refine Z9w ?_)|refine Ks ?_|refine Zb1 (fun _ _ => rfl) ?_|refine Kc1 rfl ?_))
     exact ret 1 _ _ rfl (by rw [← hX']; simp [q3]) fun _ _ => rfl
   ·(rw [decide_eq_true (p := n ≠ 0) (by omega)])
    (repeat(first|refine Kq rfl rfl rfl ?_|refine Z97 rfl ?_|(refine Z99 ?_; (repeat(first|refine Z9x rfl ?_|refine Z9y ?_)); refine Z9w ?_)|refine Ks ?_|refine Zb1 (fun _ _ => rfl) ?_|refine Kc1 rfl ?_))
    exact ret 1 _ _ rfl (by rw [← hX']; simp [q2]) fun _ _ => rfl
  ·(rw [decide_eq_true (p := i ≠ 0) (by omega)])
   (repeat(first|refine Kq rfl rfl rfl ?_|refine Z97 rfl ?_|(refine Z99 ?_; (repeat(first|refine Z9x rfl ?_|refine Z9y ?_)); refine Z9w ?_)|refine Ks ?_|refine Zb1 (fun _ _ => rfl) ?_|refine Kc1 rfl ?_))
   exact ret 1 _ _ rfl (by rw [← hX']; simp [q1]) fun _ _ => rfl
 | false =>
  rw [if_neg (by simp)] at hX'
  have bad : ∀ x : Nat, x ≠ 0 → ownV (.mk k ns ks l p s) i n bs vks.length = x → X = x := fun x hx h => by rw [← hX', h, if_pos hx]
  have hO : ownV (.mk k ns ks l p s) i n bs vks.length = (if Zmp k ks.length p i n = false ∨ (bs ≠ [] ∧ Zmm k = false) ∨ (vks.length ≠ 0 ∧ Zm4 k = true) then 1
   else if 4096 < bs.length ∨ ((k = 16 ∨ k = 17) ∧ l < (Zmn bs : Int)) then 4
   else if k = 10 then (if 16384 < vks.length then 4 else 0)
   else if k = 11 then (if vks.length % 2 ≠ 0 then 1 else if 32768 < vks.length then 4 else 0)
   else if k = 12 then (if vks.length ≠ ks.length then 1 else 0)
   else if k = 13 then (if vks.length ≠ 1 then 1 else 0)
   else 0) := rfl
  refine Ks ?_
  refine Ks ?_
  refine Zb1 (fun _ _ => rfl) ?_
  repeat refine Kq rfl rfl rfl ?_
  (refine Z99 ?_; (repeat(first|refine Z9x rfl ?_|refine Z9y ?_)); refine Z9w ?_)
  refine Kc2 rfl ?_
  refine Zb2 (fun _ _ => rfl) ?_
  refine Ks ?_
  refine Ks ?_
  refine Za8 (fun F' σ' => σ' = σ ∧ ∃ d : Bool, (d = true ↔ (Zmp k ks.length p i n = false ∨ (bs ≠ [] ∧ Zmm k = false) ∨ (vks.length ≠ 0 ∧ Zm4 k = true))) ∧
   KP [2, 3, 59] F' fun G => G = fset 2 (some (.iptr [.int .i64 k, .slc 1 (ns.map .str) false, .slc 6 (Zly ks) false, .int .i64 l, .int .i64 p, .int .i64 s])) (fset 3 (some (.iptr [.bool false, .int .i64 i, .int .i64 n, .slc 1 (bytes bs) false, .slc 5 (Zmg vks) false])) (fset 59 (some (.bool d)) Z28))) ?_ ?_
  ·(repeat refine Kq rfl rfl rfl ?_)
   refine Z9v rfl (hnum _) ?_
   cases hN : Zmp k ks.length p i n with
   | false =>
    (repeat(first|refine Kq rfl rfl rfl ?_|refine Z97 rfl ?_|refine Z98 rfl ?_))
    refine Z99 ⟨rfl, true, by simp, ?_⟩
    ((repeat(first|refine Z9x rfl ?_|refine Z9y ?_)); refine Z9w ?_)
    rfl
   | true =>
    (repeat(first|refine Kq rfl rfl rfl ?_|refine Z96 rfl (Kq rfl rfl rfl ?_)))
    rw [Zac]
    have t3 : ∀ d : Bool, (d = true ↔ (vks.length ≠ 0 ∧ Zm4 k = true)) → (bs = [] ∨ Zmm k = true) → (d = true ↔ (true = false ∨ (bs ≠ [] ∧ Zmm k = false) ∨ (vks.length ≠ 0 ∧ Zm4 k = true))) := by
     intro d hd hb
     rw [hd]
     constructor
     ·exact fun h => .inr (.inr h)
     ·rintro (h | h | h)
      ·cases h
      ·rcases hb with hb | hb
       ·exact absurd hb h.1
       ·rw [hb] at h; simp at h
      ·exact h
    by_cases q3 : bs = []
    ·rw [show decide ((0 : Int) < ((bs.length : Nat) : Int)) = false from decide_eq_false (by rw [q3]; simp)]
     (repeat(first|refine Kq rfl rfl rfl ?_|refine Z96 rfl (Kq rfl rfl rfl ?_)|refine Z97 rfl ?_))
     rw [Zmk]
     by_cases q4 : vks.length = 0
     ·(rw [decide_eq_false (p := (0 : Int) < ((vks.length : Nat) : Int)) (by omega)])
      (repeat(first|refine Kq rfl rfl rfl ?_|refine Z96 rfl (Kq rfl rfl rfl ?_)|refine Z97 rfl ?_))
      refine Z99 ⟨rfl, false, t3 _ (by simp [q4]) (.inl q3), ?_⟩
      ((repeat(first|refine Z9x rfl ?_|refine Z9y ?_)); refine Z9w ?_)
      rfl
     ·(rw [decide_eq_true (p := (0 : Int) < ((vks.length : Nat) : Int)) (by omega)])
      (repeat refine Z96 rfl (Kq rfl rfl rfl ?_))
      refine Z96 rfl (Z9v rfl (Zmy k _) ?_)
      (repeat(first|refine Kq rfl rfl rfl ?_|refine Z96 rfl (Kq rfl rfl rfl ?_)))
      refine Z99 ⟨rfl, Zm4 k, t3 _ (by simp [q4]) (.inl q3), ?_⟩
      ((repeat(first|refine Z9x rfl ?_|refine Z9y ?_)); refine Z9w ?_)
      rfl
    ·have hbp := List.length_pos_iff.2 q3
     (rw [decide_eq_true (p := (0 : Int) < ((bs.length : Nat) : Int)) (by omega)])
     (repeat refine Z96 rfl (Kq rfl rfl rfl ?_))
     refine Z96 rfl (Z9v rfl (Zmx k _) ?_)
     cases hT : Zmm k with
     | false =>
      (repeat(first|refine Kq rfl rfl rfl ?_|refine Z96 rfl (Kq rfl rfl rfl ?_)|refine Z97 rfl ?_|refine Z98 rfl ?_))
      refine Z99 ⟨rfl, true, by simp [q3], ?_⟩
      ((repeat(first|refine Z9x rfl ?_|refine Z9y ?_)); refine Z9w ?_)
      rfl
     | true =>
      rw [hT] at t3
      (repeat(first|refine Kq rfl rfl rfl ?_|refine Z96 rfl (Kq rfl rfl rfl ?_)))
      rw [Zmk]
      by_cases q4 : vks.length = 0
      ·(rw [decide_eq_false (p := (0 : Int) < ((vks.length : Nat) : Int)) (by omega)])
       (repeat(first|refine Kq rfl rfl rfl ?_|refine Z96 rfl (Kq rfl rfl rfl ?_)|refine Z97 rfl ?_))
       refine Z99 ⟨rfl, false, t3 _ (by simp [q4]) (.inr rfl), ?_⟩
       ((repeat(first|refine Z9x rfl ?_|refine Z9y ?_)); refine Z9w ?_)
       rfl
      ·(rw [decide_eq_true (p := (0 : Int) < ((vks.length : Nat) : Int)) (by omega)])
       (repeat refine Z96 rfl (Kq rfl rfl rfl ?_))
       refine Z96 rfl (Z9v rfl (Zmy k _) ?_)
       (repeat(first|refine Kq rfl rfl rfl ?_|refine Z96 rfl (Kq rfl rfl rfl ?_)))
       refine Z99 ⟨rfl, Zm4 k, t3 _ (by simp [q4]) (.inr rfl), ?_⟩
       ((repeat(first|refine Z9x rfl ?_|refine Z9y ?_)); refine Z9w ?_)
       rfl
  rintro F' σ1 ⟨rfl, d, hd, G, hG, rfl⟩
  refine Za0 (keep := [2, 3, 59]) ⟨_, hG, ?_⟩
  cases d with
  | true =>
   (repeat(first|refine Kq rfl rfl rfl ?_|(refine Z99 ?_; (repeat(first|refine Z9x rfl ?_|refine Z9y ?_)); refine Z9w ?_)|refine Ks ?_|refine Zb1 (fun _ _ => rfl) ?_|refine Kc1 rfl ?_))
   exact ret 1 _ _ rfl (bad 1 (by decide) (by rw [hO, if_pos (hd.1 rfl)])) fun _ _ => rfl
  | false =>
   have hA : ¬ (Zmp k ks.length p i n = false ∨ (bs ≠ [] ∧ Zmm k = false) ∨ (vks.length ≠ 0 ∧ Zm4 k = true)) := fun h => by have := hd.2 h; cases this
   rw [if_neg hA] at hO
   refine Kc2 rfl ?_
   refine Zb2 (fun _ _ => rfl) ?_
   refine Ks ?_
   refine Ks ?_
   refine Za8 (fun F' σ' => σ' = σ1 ∧ ∃ d : Bool, (d = true ↔ (4096 < bs.length ∨ ((k = 16 ∨ k = 17) ∧ l < (Zmn bs : Int)))) ∧
    KP [2, 3, 81] F' fun G => G = fset 2 (some (.iptr [.int .i64 k, .slc 1 (ns.map .str) false, .slc 6 (Zly ks) false, .int .i64 l, .int .i64 p, .int .i64 s])) (fset 3 (some (.iptr [.bool false, .int .i64 i, .int .i64 n, .slc 1 (bytes bs) false, .slc 5 (Zmg vks) false])) (fset 81 (some (.bool d)) Z28))) ?_ ?_
   ·(repeat refine Kq rfl rfl rfl ?_)
    rw [Zac]
    by_cases q1 : 4096 < bs.length
    ·(rw [decide_eq_true (p := (4096 : Int) < ((bs.length : Nat) : Int)) (by omega)])
     (repeat(first|refine Kq rfl rfl rfl ?_|refine Z97 rfl ?_|refine Z98 rfl ?_))
     refine Z99 ⟨rfl, true, by simp [q1], ?_⟩
     ((repeat(first|refine Z9x rfl ?_|refine Z9y ?_)); refine Z9w ?_)
     rfl
    ·(rw [decide_eq_false (p := (4096 : Int) < ((bs.length : Nat) : Int)) (by omega)])
     (repeat refine Z96 rfl (Kq rfl rfl rfl ?_))
     by_cases q2 : k = 16
     ·(rw [decide_eq_true (p := k = 16) (by omega)])
      (repeat(first|refine Z96 rfl (Kq rfl rfl rfl ?_)|refine Z97 rfl ?_))
      refine Z96 rfl (Zb9 rfl (fun σ => Zn3 bs false hbl σ) ?_)
      (repeat(first|refine Kq rfl rfl rfl ?_|refine Z96 rfl (Kq rfl rfl rfl ?_)))
      refine Z99 ⟨rfl, decide (l < (Zmn bs : Int)), by simp [q1, q2], ?_⟩
      ((repeat(first|refine Z9x rfl ?_|refine Z9y ?_)); refine Z9w ?_)
      rfl
     ·(rw [decide_eq_false (p := k = 16) (by omega)])
      (repeat refine Z96 rfl (Kq rfl rfl rfl ?_))
      by_cases q3 : k = 17
      ·(rw [decide_eq_true (p := k = 17) (by omega)])
       (repeat refine Z96 rfl (Kq rfl rfl rfl ?_))
       refine Z96 rfl (Zb9 rfl (fun σ => Zn3 bs false hbl σ) ?_)
       (repeat(first|refine Kq rfl rfl rfl ?_|refine Z96 rfl (Kq rfl rfl rfl ?_)))
       refine Z99 ⟨rfl, decide (l < (Zmn bs : Int)), by simp [q1, q3], ?_⟩
       ((repeat(first|refine Z9x rfl ?_|refine Z9y ?_)); refine Z9w ?_)
       rfl
      ·(rw [decide_eq_false (p := k = 17) (by omega)])
       (repeat(first|refine Kq rfl rfl rfl ?_|refine Z96 rfl (Kq rfl rfl rfl ?_)|refine Z97 rfl ?_))
       refine Z99 ⟨rfl, false, by simp [q1, q2, q3], ?_⟩
       ((repeat(first|refine Z9x rfl ?_|refine Z9y ?_)); refine Z9w ?_)
       rfl
   rintro F' σ2 ⟨rfl, d, hd, G, hG, rfl⟩
   refine Za0 (keep := [2, 3, 81]) ⟨_, hG, ?_⟩
   cases d with
   | true =>
    (repeat(first|refine Kq rfl rfl rfl ?_|(refine Z99 ?_; (repeat(first|refine Z9x rfl ?_|refine Z9y ?_)); refine Z9w ?_)|refine Ks ?_|refine Zb1 (fun _ _ => rfl) ?_|refine Kc1 rfl ?_))
    exact ret 4 _ _ rfl (bad 4 (by decide) (by rw [hO, if_pos (hd.1 rfl)])) fun _ _ => rfl
   | false =>
    have hB : ¬ (4096 < bs.length ∨ ((k = 16 ∨ k = 17) ∧ l < (Zmn bs : Int))) := fun h => by have := hd.2 h; cases this
    rw [if_neg hB] at hO
    refine Kc2 rfl ?_
    refine Zb2 (fun _ _ => rfl) ?_
    refine Za1 ?_
    repeat refine Kq rfl rfl rfl ?_
    rw [Zmk]
    (refine Z99 ?_; (repeat(first|refine Z9x rfl ?_|refine Z9y ?_)); refine Z9w ?_)
    have key : ∀ rest : Z2c, (ownV (.mk k ns ks l p s) i n bs vks.length = 0 → AWp Try.prog Zpx.n rest (ARet Zpx.res fun r σ' => r = .int .i64 (X : Int) ∧ σ' = σ2)
       (fset 2 (some (.iptr [.int .i64 k, .slc 1 (ns.map .str) false, .slc 6 (Zly ks) false, .int .i64 l, .int .i64 p, .int .i64 s])) (fset 3 (some (.iptr [.bool false, .int .i64 i, .int .i64 n, .slc 1 (bytes bs) false, .slc 5 (Zmg vks) false])) (fset 5 (some (.int .i64 (vks.length : Int))) Z28))) σ2) →
      AWp Try.prog Zpx.n (.seq (Zpx.code.snd 5).fst rest) (ARet Zpx.res fun r σ' => r = .int .i64 (X : Int) ∧ σ' = σ2)
       (fset 2 (some (.iptr [.int .i64 k, .slc 1 (ns.map .str) false, .slc 6 (Zly ks) false, .int .i64 l, .int .i64 p, .int .i64 s])) (fset 3 (some (.iptr [.bool false, .int .i64 i, .int .i64 n, .slc 1 (bytes bs) false, .slc 5 (Zmg vks) false])) (fset 5 (some (.int .i64 (vks.length : Int))) Z28))) σ2 := by
     intro rest hrest
     by_cases k10 : k = 10
     ·subst k10
      rw [if_pos rfl] at hO
      (repeat(first|refine Kq rfl rfl rfl ?_|(refine Z99 ?_; (repeat(first|refine Z9x rfl ?_|refine Z9y ?_)); refine Z9w ?_)|refine Ks ?_|refine Zb1 (fun _ _ => rfl) ?_|refine Z8s ?_|refine Kc1 rfl ?_))
      by_cases q : 16384 < vks.length
      ·(rw [decide_eq_true (p := (16384 : Int) < ((vks.length : Nat) : Int)) (by omega)])
       (repeat(first|refine Kq rfl rfl rfl ?_|(refine Z99 ?_; (repeat(first|refine Z9x rfl ?_|refine Z9y ?_)); refine Z9w ?_)|refine Ks ?_|refine Zb1 (fun _ _ => rfl) ?_|refine Kc1 rfl ?_))
       exact ret 4 _ _ rfl (bad 4 (by decide) (by rw [hO, if_pos q])) fun _ _ => rfl
      ·(rw [decide_eq_false (p := (16384 : Int) < ((vks.length : Nat) : Int)) (by omega)])
       (repeat(first|refine Zb2 (fun _ _ => rfl) ?_|refine Kc2 rfl ?_))
       (refine Za0 (keep := [2, 3, 5]) ?_; ((repeat(first|refine Z9x rfl ?_|refine Z9y ?_)); refine Z9w ?_))
       exact hrest (by rw [hO, if_neg q])
     by_cases k11 : k = 11
     ·subst k11
      rw [if_neg (by decide), if_pos rfl] at hO
      (repeat(first|refine Kq rfl rfl rfl ?_|(refine Z99 ?_; (repeat(first|refine Z9x rfl ?_|refine Z9y ?_)); refine Z9w ?_)|refine Ks ?_|refine Zb1 (fun _ _ => rfl) ?_|refine Z8s ?_|refine Kc1 rfl ?_|refine Kc2 rfl ?_))
      have e : ((vks.length : Nat) : Int).tmod 2 = ((vks.length % 2 : Nat) : Int) := by rw [Int.tmod_eq_emod_of_nonneg (by omega)]; omega
      rw [e]
      by_cases q : vks.length % 2 = 0
      ·(rw [decide_eq_false (p := ((vks.length % 2 : Nat) : Int) ≠ 0) (by omega)])
       rw [if_neg (by omega)] at hO
       (repeat(first|refine Kq rfl rfl rfl ?_|(refine Z99 ?_; (repeat(first|refine Z9x rfl ?_|refine Z9y ?_)); refine Z9w ?_)|refine Ks ?_|refine Zb1 (fun _ _ => rfl) ?_|refine Zb2 (fun _ _ => rfl) ?_|refine Kc2 rfl ?_))
       by_cases q2 : 32768 < vks.length
       ·(rw [decide_eq_true (p := (32768 : Int) < ((vks.length : Nat) : Int)) (by omega)])
        (repeat(first|refine Kq rfl rfl rfl ?_|(refine Z99 ?_; (repeat(first|refine Z9x rfl ?_|refine Z9y ?_)); refine Z9w ?_)|refine Ks ?_|refine Zb1 (fun _ _ => rfl) ?_|refine Kc1 rfl ?_))
        exact ret 4 _ _ rfl (bad 4 (by decide) (by rw [hO, if_pos q2])) fun _ _ => rfl
       ·(rw [decide_eq_false (p := (32768 : Int) < ((vks.length : Nat) : Int)) (by omega)])
        (repeat(first|refine Zb2 (fun _ _ => rfl) ?_|refine Kc2 rfl ?_))
        (refine Za0 (keep := [2, 3, 5]) ?_; ((repeat(first|refine Z9x rfl ?_|refine Z9y ?_)); refine Z9w ?_))
        exact hrest (by rw [hO, if_neg q2])
      ·(rw [decide_eq_true (p := ((vks.length % 2 : Nat) : Int) ≠ 0) (by omega)])
       (repeat(first|refine Kq rfl rfl rfl ?_|(refine Z99 ?_; (repeat(first|refine Z9x rfl ?_|refine Z9y ?_)); refine Z9w ?_)|refine Ks ?_|refine Zb1 (fun _ _ => rfl) ?_|refine Kc1 rfl ?_))
       exact ret 1 _ _ rfl (bad 1 (by decide) (by rw [hO, if_pos q])) fun _ _ => rfl
     by_cases k12 : k = 12
     ·subst k12
      rw [if_neg (by decide), if_neg (by decide), if_pos rfl] at hO
      (repeat(first|refine Kq rfl rfl rfl ?_|(refine Z99 ?_; (repeat(first|refine Z9x rfl ?_|refine Z9y ?_)); refine Z9w ?_)|refine Ks ?_|refine Zb1 (fun _ _ => rfl) ?_|refine Z8s ?_|refine Kc1 rfl ?_|refine Kc2 rfl ?_))
      rw [Zm2]
      by_cases q : vks.length = ks.length
      ·(rw [decide_eq_false (p := ((vks.length : Nat) : Int) ≠ ((ks.length : Nat) : Int)) (by omega)])
       (repeat(first|refine Zb2 (fun _ _ => rfl) ?_|refine Kc2 rfl ?_))
       (refine Za0 (keep := [2, 3, 5]) ?_; ((repeat(first|refine Z9x rfl ?_|refine Z9y ?_)); refine Z9w ?_))
       exact hrest (by rw [hO, if_neg (by omega)])
      ·(rw [decide_eq_true (p := ((vks.length : Nat) : Int) ≠ ((ks.length : Nat) : Int)) (by omega)])
       (repeat(first|refine Kq rfl rfl rfl ?_|(refine Z99 ?_; (repeat(first|refine Z9x rfl ?_|refine Z9y ?_)); refine Z9w ?_)|refine Ks ?_|refine Zb1 (fun _ _ => rfl) ?_|refine Kc1 rfl ?_))
       exact ret 1 _ _ rfl (bad 1 (by decide) (by rw [hO, if_pos q])) fun _ _ => rfl
     by_cases k13 : k = 13
     ·subst k13
      rw [if_neg (by decide), if_neg (by decide), if_neg (by decide), if_pos rfl] at hO
      (repeat(first|refine Kq rfl rfl rfl ?_|(refine Z99 ?_; (repeat(first|refine Z9x rfl ?_|refine Z9y ?_)); refine Z9w ?_)|refine Ks ?_|refine Zb1 (fun _ _ => rfl) ?_|refine Z8s ?_|refine Kc1 rfl ?_|refine Kc2 rfl ?_))
      by_cases q : vks.length = 1
      ·(rw [decide_eq_false (p := ((vks.length : Nat) : Int) ≠ 1) (by omega)])
       (repeat(first|refine Zb2 (fun _ _ => rfl) ?_|refine Kc2 rfl ?_))
       (refine Za0 (keep := [2, 3, 5]) ?_; ((repeat(first|refine Z9x rfl ?_|refine Z9y ?_)); refine Z9w ?_))
       exact hrest (by rw [hO, if_neg (by omega)])
      ·(rw [decide_eq_true (p := ((vks.length : Nat) : Int) ≠ 1) (by omega)])
       (repeat(first|refine Kq rfl rfl rfl ?_|(refine Z99 ?_; (repeat(first|refine Z9x rfl ?_|refine Z9y ?_)); refine Z9w ?_)|refine Ks ?_|refine Zb1 (fun _ _ => rfl) ?_|refine Kc1 rfl ?_))
       exact ret 1 _ _ rfl (bad 1 (by decide) (by rw [hO, if_pos q])) fun _ _ => rfl
     rw [if_neg k10, if_neg k11, if_neg k12, if_neg k13] at hO
     (repeat(first|refine Kq rfl rfl rfl ?_|(refine Z99 ?_; (repeat(first|refine Z9x rfl ?_|refine Z9y ?_)); refine Z9w ?_)|refine Ks ?_|refine Zb1 (fun _ _ => rfl) ?_|refine Z8s ?_))
     (rw [decide_eq_false (p := k = 10) (by omega)])
     (repeat(first|refine Kq rfl rfl rfl ?_|(refine Z99 ?_; (repeat(first|refine Z9x rfl ?_|refine Z9y ?_)); refine Z9w ?_)|refine Ks ?_|refine Zb1 (fun _ _ => rfl) ?_|refine Kc2 rfl ?_))
     (rw [decide_eq_false (p := k = 11) (by omega)])
     (repeat(first|refine Kq rfl rfl rfl ?_|(refine Z99 ?_; (repeat(first|refine Z9x rfl ?_|refine Z9y ?_)); refine Z9w ?_)|refine Ks ?_|refine Zb1 (fun _ _ => rfl) ?_|refine Kc2 rfl ?_))
     (rw [decide_eq_false (p := k = 12) (by omega)])
     (repeat(first|refine Kq rfl rfl rfl ?_|(refine Z99 ?_; (repeat(first|refine Z9x rfl ?_|refine Z9y ?_)); refine Z9w ?_)|refine Ks ?_|refine Zb1 (fun _ _ => rfl) ?_|refine Kc2 rfl ?_))
     (rw [decide_eq_false (p := k = 13) (by omega)])
     (repeat(first|refine Zb2 (fun _ _ => rfl) ?_|refine Kc2 rfl ?_))
     (refine Za0 (keep := [2, 3, 5]) ?_; ((repeat(first|refine Z9x rfl ?_|refine Z9y ?_)); refine Z9w ?_))
     exact hrest hO
    refine key _ fun hown => ?_
    rw [hown, if_neg (by simp)] at hX'
    (repeat(first|refine Kq rfl rfl rfl ?_|(refine Z99 ?_; (repeat(first|refine Z9x rfl ?_|refine Z9y ?_)); refine Z9w ?_)|refine Ks ?_|refine Zb1 (fun _ _ => rfl) ?_|refine Z8s ?_))
    refine Za6 (fun m F σ' => ∃ (j : Nat), F = fset 2 (some (.iptr [.int .i64 k, .slc 1 (ns.map .str) false, .slc 6 (Zly ks) false, .int .i64 l, .int .i64 p, .int .i64 s])) (fset 3 (some (.iptr [.bool false, .int .i64 i, .int .i64 n, .slc 1 (bytes bs) false, .slc 5 (Zmg vks) false])) (fset 5 (some (.int .i64 (vks.length : Int))) (fset 6 (some (.int .i64 (j : Int))) Z28))) ∧
     σ2 = σ' ∧ j ≤ vks.length ∧ X = Zmr (.mk k ns ks l p s) i j (vks.drop j) ∧ m = vks.length - j) (n := vks.length)
     ⟨0, rfl, rfl, by omega, hX'.symm, rfl⟩ ?_
    rintro m F σ' ⟨j, rfl, rfl, hj, hXj, rfl⟩
    (repeat(first|refine Kq rfl rfl rfl ?_|(refine Z99 ?_; (repeat(first|refine Z9x rfl ?_|refine Z9y ?_)); refine Z9w ?_)|refine Ks ?_|refine Zb1 (fun _ _ => rfl) ?_))
    refine Za2 (p := (j : Int) < (vks.length : Int)) rfl (fun h3 => ?_) (fun h3 => ?_)
    ·have hjl : j < vks.length := by omega
     have Zd : vks[j]? = some vks[j] := List.getElem?_eq_getElem hjl
     have hx : (Zmg vks)[(j : Int).toNat]? = some (encV vks[j]) := Zml (by rw [Int.toNat_natCast, Zd])
     obtain ⟨hlt, hi0⟩ := hka j hjl hown
     have hkc := hkid j (by omega) hi0 hlt
     have hvc := ih vks[j] (List.getElem_mem hjl) (hkids _ (List.getElem_mem hjl)) (kidT (.mk k ns ks l p s) i j) (hko j hlt)
     rw [Zqv _ _ _ _ _ Zd] at hXj
     have hX1 : (k = 11 ∧ j % 2 = 0 ∧ vks[j].null = true) → X = 1 := fun h => hXj.trans (if_pos h)
     have hX2 := fun (h : ¬ (k = 11 ∧ j % 2 = 0 ∧ vks[j].null = true)) => hXj.trans (if_neg h)
     rw [Zmi] at hx
     simp only [Zmi] at hvc
     refine Zb2 (fun _ _ => rfl) ?_
     refine Ks ?_
     refine Z8s ?_
     refine Ks ?_
     refine Ks ?_
     refine Za8 (fun F' σ' => σ2 = σ' ∧ ∃ d : Bool, (d = true ↔ (k = 11 ∧ j % 2 = 0 ∧ vks[j].null = true)) ∧
      KP [2, 3, 5, 6, 129] F' fun G => G = fset 2 (some (.iptr [.int .i64 k, .slc 1 (ns.map .str) false, .slc 6 (Zly ks) false, .int .i64 l, .int .i64 p, .int .i64 s])) (fset 3 (some (.iptr [.bool false, .int .i64 i, .int .i64 n, .slc 1 (bytes bs) false, .slc 5 (Zmg vks) false])) (fset 5 (some (.int .i64 (vks.length : Int))) (fset 6 (some (.int .i64 (j : Int))) (fset 129 (some (.bool d)) Z28))))) ?_ ?_
     ·(repeat refine Kq rfl rfl rfl ?_)
      by_cases q1 : k = 11
      ·(rw [decide_eq_true (p := k = 11) (by omega)])
       (repeat(first|refine Kq rfl rfl rfl ?_|refine Z96 rfl (Kq rfl rfl rfl ?_)))
       have e : (j : Int).tmod 2 = ((j % 2 : Nat) : Int) := by rw [Int.tmod_eq_emod_of_nonneg (by omega)]; omega
       rw [e]
       by_cases q2 : j % 2 = 0
       ·(rw [decide_eq_true (p := ((j % 2 : Nat) : Int) = 0) (by omega)])
        (repeat refine Z96 rfl (Kq rfl rfl rfl ?_))
        refine Z96 rfl (Z9d rfl (by omega) hx ?_)
        (repeat(first|refine Kq rfl rfl rfl ?_|refine Z96 rfl (Kq rfl rfl rfl ?_)))
        refine Z99 ⟨rfl, vks[j].null, by simp [q1, q2], ?_⟩
        ((repeat(first|refine Z9x rfl ?_|refine Z9y ?_)); refine Z9w ?_)
        rfl
       ·(rw [decide_eq_false (p := ((j % 2 : Nat) : Int) = 0) (by omega)])
        (repeat(first|refine Kq rfl rfl rfl ?_|refine Z97 rfl ?_))
        refine Z99 ⟨rfl, false, by simp [q2], ?_⟩
        ((repeat(first|refine Z9x rfl ?_|refine Z9y ?_)); refine Z9w ?_)
        rfl
      ·(rw [decide_eq_false (p := k = 11) (by omega)])
       (repeat(first|refine Kq rfl rfl rfl ?_|refine Z97 rfl ?_))
       refine Z99 ⟨rfl, false, by simp [q1], ?_⟩
       ((repeat(first|refine Z9x rfl ?_|refine Z9y ?_)); refine Z9w ?_)
       rfl
     rintro F' σ3 ⟨rfl, d, hd, G, hG, rfl⟩
     refine Za0 (keep := [2, 3, 5, 6, 129]) ⟨_, hG, ?_⟩
     cases d with
     | true =>
      (repeat(first|refine Kq rfl rfl rfl ?_|(refine Z99 ?_; (repeat(first|refine Z9x rfl ?_|refine Z9y ?_)); refine Z9w ?_)|refine Ks ?_|refine Zb1 (fun _ _ => rfl) ?_|refine Kc1 rfl ?_))
      exact ret 1 _ _ rfl (hX1 (hd.1 rfl)) fun _ _ => rfl
     | false =>
      replace hXj := hX2 (fun h => by have := hd.2 h; cases this)
      (repeat(first|refine Kq rfl rfl rfl ?_|refine Ks ?_|refine Zb1 (fun _ _ => rfl) ?_|refine Zb2 (fun _ _ => rfl) ?_|refine Kc2 rfl ?_))
      refine Zb9 rfl hkc ?_
      (repeat refine Kq rfl rfl rfl ?_)
      refine Z9d rfl (by omega) hx ?_
      (repeat refine Kq rfl rfl rfl ?_)
      refine Z9v rfl (hvc _) ?_
      have hle := Zqw vks[j] (kidT (.mk k ns ks l p s) i j)
      generalize hq : vchk (kidT (.mk k ns ks l p s) i j) vks[j] = x at hXj hle
      (repeat(first|refine Kq rfl rfl rfl ?_|(refine Z99 ?_; (repeat(first|refine Z9x rfl ?_|refine Z9y ?_)); refine Z9w ?_)|refine Ks ?_|refine Zb1 (fun _ _ => rfl) ?_))
      by_cases q : x = 0
      ·rw [if_neg (by omega)] at hXj
       (rw [decide_eq_false (p := ((x : Nat) : Int) ≠ 0) (by omega)])
       (repeat(first|refine Zb2 (fun _ _ => rfl) ?_|refine Kc2 rfl ?_))
       refine Zb4 ?_
       repeat refine Kq rfl rfl rfl ?_
       rw [Kwr j (by omega)]
       (refine Z99 ?_; (repeat(first|refine Z9x rfl ?_|refine Z9y ?_)); refine Z9w ?_)
       exact ⟨_, vks.length - (j + 1), HSub.refl _, ⟨j + 1, rfl, rfl, by omega, hXj, rfl⟩, by omega⟩
      ·rw [if_pos q] at hXj
       (rw [decide_eq_true (p := ((x : Nat) : Int) ≠ 0) (by omega)])
       (repeat(first|refine Kq rfl rfl rfl ?_|(refine Z99 ?_; (repeat(first|refine Z9x rfl ?_|refine Z9y ?_)); refine Z9w ?_)|refine Ks ?_|refine Zb1 (fun _ _ => rfl) ?_|refine Kc1 rfl ?_))
       exact ret x _ _ rfl hXj fun _ _ => rfl
    ·(repeat(first|refine Kq rfl rfl rfl ?_|(refine Z99 ?_; (repeat(first|refine Z9x rfl ?_|refine Z9y ?_)); refine Z9w ?_)|refine Ks ?_|refine Zb1 (fun _ _ => rfl) ?_|refine Zb3 (fun _ _ => rfl) ?_))
     have hd0 : vks.drop j = [] := List.drop_of_length_le (by omega)
     rw [hd0, Zmr] at hXj
     exact ret 0 _ _ rfl hXj fun _ _ => rfl
end Go.Abs
namespace Go.Abs
open Go Go.Proofs
theorem Zqy : Try.prog.cellsOf 25 = 6 := by kernel_rfl
theorem Zqz : Try.prog.cellsOf 9 = 1 := by kernel_rfl
theorem Zr0 : Try.prog.cellsOf 5 = 1 := by kernel_rfl
theorem Zr1 {α : Type} {f : α → Z0} {p : α → Prop} : ∀ {xs : List Z0}, (∀ x ∈ xs, ∃ a, x = f a ∧ p a) → ∃ l : List α, xs = l.map f ∧ ∀ a ∈ l, p a := fun h => Zb0 h
theorem Zr2 {t : TypeId} {a : Z0} (h : Has Try.prog t a) : (t = 25 → ∃ ty : Ty, a = encT ty) ∧ (t = 23 → ∃ ks : List Ty, a = .slc 6 (Zly ks) false) := by
 induction h with
 | bool h => exact ⟨fun e => (by subst e; rw [Try.underlying25] at h; cases h), fun e => (by subst e; rw [Try.underlying23] at h; cases h)⟩
 | int h _ => exact ⟨fun e => (by subst e; rw [Try.underlying25] at h; cases h), fun e => (by subst e; rw [Try.underlying23] at h; cases h)⟩
 | str h _ => exact ⟨fun e => (by subst e; rw [Try.underlying25] at h; cases h), fun e => (by subst e; rw [Try.underlying23] at h; cases h)⟩
 | @slc t e xs h hl hx ih =>
  refine ⟨fun e => (by subst e; rw [Try.underlying25] at h; cases h), fun e => ?_⟩
  subst e
  rw [Try.underlying23] at h
  simp only [Option.some.injEq, TypeDesc.slice.injEq] at h
  subst h
  obtain ⟨ks, rfl, _⟩ := Zr1 (f := encT) (p := fun _ => True) (fun x hm => by
   obtain ⟨ty, e⟩ := (ih x hm).1 rfl
   exact ⟨ty, e, trivial⟩)
  exact ⟨ks, by rw [Zqy, Zm1]⟩
 | @agg t fs ys h hn hy ih =>
  refine ⟨fun e => ?_, fun e => (by subst e; rw [Try.underlying23] at h; cases h)⟩
  subst e
  rw [Try.underlying25] at h
  simp only [Option.some.injEq, TypeDesc.struct.injEq] at h
  subst h
  match ys, hn with
  | [y0, y1, y2, y3, y4, y5], _ =>
  obtain ⟨k, rfl, _⟩ := (hy 0 _ y0 rfl rfl).int_inv Try.underlying3
  obtain ⟨xs, rfl, _, hx⟩ := (hy 1 _ y1 rfl rfl).slc_inv Try.underlying22
  obtain ⟨ks, rfl⟩ := (ih 2 _ y2 rfl rfl).2 rfl
  obtain ⟨l, rfl, _⟩ := (hy 3 _ y3 rfl rfl).int_inv Try.underlying3
  obtain ⟨p, rfl, _⟩ := (hy 4 _ y4 rfl rfl).int_inv Try.underlying3
  obtain ⟨s, rfl, _⟩ := (hy 5 _ y5 rfl rfl).int_inv Try.underlying3
  obtain ⟨ns, rfl, _⟩ := Zr1 (f := Z0.str) (p := fun _ => True) (fun x hm => by
   obtain ⟨s, e, _⟩ := (hx x hm).str_inv Try.underlying9
   exact ⟨s, e, trivial⟩)
  refine ⟨.mk k ns ks l p s, ?_⟩
  rw [Zqz, Zm0]
  rfl
end Go.Abs
namespace Go.Abs
open Go Go.Proofs Go.RowKit
end Go.Abs
namespace Go.Abs
open Go Go.Proofs
attribute [local irreducible] AWp aops KP
def cmpI (a b : Int) : Int := if a < b then -1 else if b < a then 1 else 0
def cmpV (k : Int) (a b : Vl) : Int × Bool :=
 if Zm4 k = false ∨ a.null = true ∨ b.null = true then (0, false)
 else if Zmm k = true then (Lib.compareBytes a.b b.b, true)
 else (if cmpI a.i b.i ≠ 0 then cmpI a.i b.i else cmpI a.n b.n, true)
theorem Zr3 (k : Int) (σ : Zc) : Z1s Try.prog Zes [.int .i64 k] σ fun r σ' => r = .bool (Zmm k) ∧ σ' = σ := by
 refine Z94 rfl Zqo (Nat.le_of_ble_eq_true rfl) ?_
 by_cases h7 : k = 7
 ·subst h7; (repeat(first|refine Kq rfl rfl rfl ?_|(refine Z99 ?_; (repeat(first|refine Z9x rfl ?_|refine Z9y ?_)); refine Z9w ?_)|refine Ks ?_|refine Zb1 (fun _ _ => rfl) ?_|refine Z8s ?_|refine Zb2 (fun _ _ => rfl) ?_|refine Zb3 (fun _ _ => rfl) ?_|refine Kc1 rfl ?_)); refine Z8o ?_; exact Kar rfl ⟨rfl, rfl⟩
 by_cases h16 : k = 16
 ·subst h16; (repeat(first|refine Kq rfl rfl rfl ?_|(refine Z99 ?_; (repeat(first|refine Z9x rfl ?_|refine Z9y ?_)); refine Z9w ?_)|refine Ks ?_|refine Zb1 (fun _ _ => rfl) ?_|refine Z8s ?_|refine Zb2 (fun _ _ => rfl) ?_|refine Zb3 (fun _ _ => rfl) ?_|refine Kc1 rfl ?_|refine Kc2 rfl ?_)); refine Z8o ?_; exact Kar rfl ⟨rfl, rfl⟩
 by_cases h17 : k = 17
 ·subst h17; (repeat(first|refine Kq rfl rfl rfl ?_|(refine Z99 ?_; (repeat(first|refine Z9x rfl ?_|refine Z9y ?_)); refine Z9w ?_)|refine Ks ?_|refine Zb1 (fun _ _ => rfl) ?_|refine Z8s ?_|refine Zb2 (fun _ _ => rfl) ?_|refine Zb3 (fun _ _ => rfl) ?_|refine Kc1 rfl ?_|refine Kc2 rfl ?_)); refine Z8o ?_; exact Kar rfl ⟨rfl, rfl⟩
 by_cases h8 : k = 8
 ·subst h8; (repeat(first|refine Kq rfl rfl rfl ?_|(refine Z99 ?_; (repeat(first|refine Z9x rfl ?_|refine Z9y ?_)); refine Z9w ?_)|refine Ks ?_|refine Zb1 (fun _ _ => rfl) ?_|refine Z8s ?_|refine Zb3 (fun _ _ => rfl) ?_|refine Kc1 rfl ?_|refine Kc2 rfl ?_)); refine Z8o ?_; exact Kar rfl ⟨rfl, rfl⟩
 (repeat(first|refine Kq rfl rfl rfl ?_|(refine Z99 ?_; (repeat(first|refine Z9x rfl ?_|refine Z9y ?_)); refine Z9w ?_)|refine Ks ?_|refine Zb1 (fun _ _ => rfl) ?_|refine Z8s ?_))
 (rw [decide_eq_false (p := k = 7) (by omega)])
 (repeat(first|refine Kq rfl rfl rfl ?_|(refine Z99 ?_; (repeat(first|refine Z9x rfl ?_|refine Z9y ?_)); refine Z9w ?_)|refine Zb1 (fun _ _ => rfl) ?_|refine Kc2 rfl ?_))
 (rw [decide_eq_false (p := k = 8) (by omega)])
 (repeat(first|refine Kq rfl rfl rfl ?_|(refine Z99 ?_; (repeat(first|refine Z9x rfl ?_|refine Z9y ?_)); refine Z9w ?_)|refine Ks ?_|refine Zb1 (fun _ _ => rfl) ?_|refine Zb2 (fun _ _ => rfl) ?_|refine Kc2 rfl ?_))
 (rw [decide_eq_false (p := k = 16) (by omega)])
 (repeat(first|refine Kq rfl rfl rfl ?_|(refine Z99 ?_; (repeat(first|refine Z9x rfl ?_|refine Z9y ?_)); refine Z9w ?_)|refine Zb1 (fun _ _ => rfl) ?_|refine Kc2 rfl ?_))
 (rw [decide_eq_false (p := k = 17) (by omega)])
 (repeat(first|refine Kq rfl rfl rfl ?_|(refine Z99 ?_; (repeat(first|refine Z9x rfl ?_|refine Z9y ?_)); refine Z9w ?_)|refine Ks ?_|refine Zb1 (fun _ _ => rfl) ?_|refine Zb2 (fun _ _ => rfl) ?_|refine Zb3 (fun _ _ => rfl) ?_|refine Kc2 rfl ?_))
 refine Z8o ?_
 exact Kar rfl ⟨by simp [Zmm, Z8x, h7, h16, h17, h8], rfl⟩
end Go.Abs
namespace Go.Abs
open Go Go.Proofs
attribute [local irreducible] AWp aops KP
theorem Zr4 (xs : List Z0) (f : Bool) (σ : Zc) : Z1s Try.prog Zez [.slc 1 xs f] σ fun r σ' => r = .slc 1 xs true ∧ σ' = σ := by
 refine Z94 rfl Zqp (Nat.le_of_ble_eq_true rfl) ?_
 (repeat(first|refine Kq rfl rfl rfl ?_|(refine Z99 ?_; (repeat(first|refine Z9x rfl ?_|refine Z9y ?_)); refine Z9w ?_)|refine Ks ?_|refine Zb1 (fun _ _ => rfl) ?_))
 refine Z9t rfl (by omega) (by omega) ?_
 rw [Int.toNat_natCast, List.take_length]
 (repeat(first|refine Kq rfl rfl rfl ?_|(refine Z99 ?_; (repeat(first|refine Z9x rfl ?_|refine Z9y ?_)); refine Z9w ?_)))
 refine Z8o ?_
 exact Kar rfl ⟨rfl, rfl⟩
theorem Zr5 (xs : List Z0) (f : Bool) (σ : Zc) : Z1s Try.prog Zf1 [.slc 5 xs f] σ fun r σ' => r = .slc 5 xs true ∧ σ' = σ := by
 refine Z94 rfl Zqr (Nat.le_of_ble_eq_true rfl) ?_
 (repeat(first|refine Kq rfl rfl rfl ?_|(refine Z99 ?_; (repeat(first|refine Z9x rfl ?_|refine Z9y ?_)); refine Z9w ?_)|refine Ks ?_|refine Zb1 (fun _ _ => rfl) ?_))
 refine Z9t rfl (by omega) (by omega) ?_
 rw [Int.toNat_natCast, List.take_length]
 (repeat(first|refine Kq rfl rfl rfl ?_|(refine Z99 ?_; (repeat(first|refine Z9x rfl ?_|refine Z9y ?_)); refine Z9w ?_)))
 refine Z8o ?_
 exact Kar rfl ⟨rfl, rfl⟩
theorem Zr6 {v : Z0} {xs : List Z0} {β : Zc} (ho : Zb5 5 v xs β) (σ : Zc) : Z1s Try.prog Zf1 [v] (β ++ σ) fun r σ' => r = .slc 5 xs true ∧ σ' = σ := by
 rcases ho with ⟨⟨z, rfl⟩, rfl, rfl⟩ | ⟨b, rfl, rfl⟩
 ·exact Z1s.args (VRle.nil_slc z 5 true) (Zr5 [] true σ)
 refine Z94 rfl Zqr (Nat.le_of_ble_eq_true rfl) ?_
 (repeat(first|refine Kq rfl rfl rfl ?_|(refine Z99 ?_; (repeat(first|refine Z9x rfl ?_|refine Z9y ?_)); refine Z9w ?_)|refine Ks ?_|refine Zb1 (fun _ _ => rfl) ?_))
 refine Z9s rfl Z9a (by omega) (by omega) (by omega) Z9l ?_
 rw [List.drop_zero, Int.toNat_natCast, List.take_length]
 (repeat(first|refine Kq rfl rfl rfl ?_|(refine Z99 ?_; (repeat(first|refine Z9x rfl ?_|refine Z9y ?_)); refine Z9w ?_)))
 refine Z8o ?_
 exact Kar rfl ⟨rfl, rfl⟩
theorem Zr7 (xs : List Z0) (f : Bool) (he : ∀ x ∈ xs, x.elem 1) (hb : xs.length * 1 ≤ 140737488355328) (σ : Zc) : Z1s Try.prog Zf0 [.slc 1 xs f] σ fun r σ' => r = .slc 1 xs false ∧ σ' = σ := by
 refine Z94 rfl Zqq (Nat.le_of_ble_eq_true rfl) ?_
 have key : ∀ t : Bool, (t = true → xs = []) → AWp Try.prog Zqe.n (.cond (.t 4) (.seq (.region Zqc [2]) .ret) .skip) (Z8p Try.prog Zqe.n (Zqe.code.snd 2) (ARet Zqe.res fun r σ' => r = .slc 1 xs false ∧ σ' = σ))
   (fset 0 (some (.slc 1 xs f)) (fset 4 (some (.bool t)) Z28)) σ := by
  intro t ht
  cases t with
  | true =>
   (repeat(first|refine Kq rfl rfl rfl ?_|(refine Z99 ?_; (repeat(first|refine Z9x rfl ?_|refine Z9y ?_)); refine Z9w ?_)|refine Ks ?_|refine Zb1 (fun _ _ => rfl) ?_|refine Kc1 rfl ?_))
   refine Z8o ?_
   refine Zag rfl ?_ (HSub.refl _) ⟨rfl, rfl⟩
   rw [ht rfl]
   exact VRle.trans (VRle.nil_slc 0 1 true) VRle.full
  | false =>
   (repeat(first|refine Kq rfl rfl rfl ?_|refine Ks ?_|refine Zb1 (fun _ _ => rfl) ?_|refine Zb2 (fun _ _ => rfl) ?_|refine Kc2 rfl ?_))
   refine Z9r rfl (ys := xs) (by simp [Z1m]) (by simpa using hb) fun b hb => ?_
   (repeat(first|refine Kq rfl rfl rfl ?_|(refine Z99 ?_; (repeat(first|refine Z9x rfl ?_|refine Z9y ?_)); refine Z9w ?_)))
   refine Z8o ?_
   exact Zb8 rfl (Zam.one (Zam.freeze rfl)) ⟨rfl, rfl⟩
 (repeat(first|refine Kq rfl rfl rfl ?_|(refine Z99 ?_; (repeat(first|refine Z9x rfl ?_|refine Z9y ?_)); refine Z9w ?_)|refine Ks ?_|refine Zb1 (fun _ _ => rfl) ?_))
 refine Z95 rfl ?_
 refine ⟨fun _ => ?_, fun hx t => ?_⟩
 ·(refine Z99 ?_; (repeat(first|refine Z9x rfl ?_|refine Z9y ?_)); refine Z9w ?_)
  exact key false (fun h => by cases h)
 ·(refine Z99 ?_; (repeat(first|refine Z9x rfl ?_|refine Z9y ?_)); refine Z9w ?_)
  exact key t (fun _ => hx)
inductive Vl.Cl : Vl → Prop
 | mk {v : Vl} (h1 : v.b.length ≤ 140737488355328) (h2 : v.kids.length ≤ 1000000000) (h : ∀ k ∈ v.kids, Vl.Cl k) : Vl.Cl v
end Go.Abs
namespace Go.Abs
open Go Go.Proofs
attribute [local irreducible] AWp aops KP
theorem Zr8 : ∀ (l : List Ty) (a : Nat), (Zm9 a l).length = l.length
 | [], _ => rfl
 | t :: l, a => by simp [Zm9, Zr8 l]
theorem Zr9 (n : Nd) : (encR n).elem 9 := ⟨rfl, by
 obtain ⟨⟨k, ns, ks, l, p, s⟩, kids, par, deep⟩ := n
 simp [encR, Zme, Zlz, Z0.cells, Z0.one]⟩
def rowR (k : Int) (ns : List (List UInt8)) (ks : List Ty) (l p s : Int) (vk : Z0) (parent : Int) (deep : Nat) : Z0 :=
 .agg [.int .i64 k, .slc 1 (ns.map .str) false, .slc 6 (Zly ks) false, .int .i64 l, .int .i64 p, .int .i64 s, vk, .int .i64 parent, .int .i64 (deep : Int)]
theorem Zra : ∀ (t : Ty), t.Small → ∀ (v : Z0) (xs : List Z0) (β : Zc) (parent : Int) (deep : Nat) (σ : Zc), Zb5 9 v xs β → (∀ x ∈ xs, x.elem 9) → xs.length + cnt t ≤ 1000 → deep + cnt t ≤ 1000 →
  Z1s Try.prog Zdb [v, encT t, .int .i64 parent, .int .i64 (deep : Int)] (β ++ σ) fun r σ' => ∃ β', Zb5 9 r (xs ++ (Zma xs.length parent deep t).map encR) β' ∧ σ' = β' ++ σ := by
 refine Ty.ind fun k ns ks l p s ih hsmall v xs β parent deep σ ho hxe hx hd => ?_
 cases hsmall with
 | mk hk1 hn1 hn4 hkids =>
 simp only [encT, Ty.kind, Ty.names, Ty.kids, Ty.len, Ty.prec, Ty.scale] at *
 have hlenks := Znu ks
 refine Z94 rfl Zqm (Nat.le_of_ble_eq_true rfl) ?_
 refine Za1 ?_
 refine Z9n rfl (Kfi rfl) fun pb hpb => ?_
 repeat refine Kq rfl rfl rfl ?_
 (refine Z99 ?_; (repeat(first|refine Z9x rfl ?_|refine Z9y ?_)); refine Z9w ?_)
 refine Zaj (d := 5) (cs := [.int .i64 k, .slc 1 (ns.map .str) false, .slc 6 (Zly ks) false, .int .i64 l, .int .i64 p, .int .i64 s]) rfl ?_
 refine Za1 ?_
 refine Kq rfl rfl rfl ?_
 refine Zaf rfl ho.lens ?_
 repeat refine Kq rfl rfl rfl ?_
 (refine Z99 ?_; (repeat(first|refine Z9x rfl ?_|refine Z9y ?_)); refine Z9w ?_)
 refine Za1 ?_
 repeat refine Kq rfl rfl rfl ?_
 refine Zb6 (ys := [.agg [.int .i64 k, .slc 1 (ns.map .str) false, .slc 6 (Zly ks) false, .int .i64 l, .int .i64 p, .int .i64 s, .slc 0 [] true, .int .i64 parent, .int .i64 (deep : Int)]]) ho rfl rfl (by simp only [List.length_cons, List.length_nil]; omega) fun b1 hb1 => ?_
 (repeat(first|refine Kq rfl rfl rfl ?_|(refine Z99 ?_; (repeat(first|refine Z9x rfl ?_|refine Z9y ?_)); refine Z9w ?_)|refine Ks ?_|refine Zb1 (fun _ _ => rfl) ?_|refine Z8s ?_))
 change AWp _ _ _ _ _ ((b1, .cells 9 (xs ++ [rowR k ns ks l p s (.slc 0 [] true) parent deep])) :: σ)
 refine Za6 (fun m F σ' => ∃ (i b : Nat) (vk : Z0) (βk : Zc) (R : List Z0), F = fset 0 (some (.arr 9 b 0 R.length)) (fset 3 (some (.int .i64 (deep : Int))) (fset 5 (some (.iptr [.int .i64 k, .slc 1 (ns.map .str) false, .slc 6 (Zly ks) false, .int .i64 l, .int .i64 p, .int .i64 s])) (fset 9 (some (.int .i64 (xs.length : Int))) (fset 10 (some (.int .i64 (i : Int))) Z28)))) ∧
  σ' = (b, .cells 9 R) :: (βk ++ σ) ∧ R = xs ++ rowR k ns ks l p s vk parent deep :: (Zmb (xs.length + 1) (xs.length : Int) (deep + 1) (ks.take i)).map encR ∧ Zb5 1 vk (ints (Zm9 (xs.length + 1) (ks.take i))) βk ∧ i ≤ ks.length ∧ m = ks.length - i) (n := ks.length)
  ⟨0, b1, _, [], _, rfl, rfl, rfl, Zb5.nil 1 0, by omega, rfl⟩ ?_
 rintro m F σ' ⟨i, b, vk, βk, R, rfl, rfl, hR, hok, hi, rfl⟩
 have hRl : R.length = xs.length + 1 + cntL (ks.take i) := by rw [hR]; simp [Zny]; omega
 have hvk1 : vk.one = true := by rcases hok with ⟨⟨z, rfl⟩, _, _⟩ | ⟨b, rfl, _⟩ <;> rfl
 have hRe : ∀ x ∈ R, x.elem 9 := by
  intro x hm
  rw [hR] at hm
  rcases List.mem_append.1 hm with hm | hm
  ·exact hxe x hm
  rcases List.mem_cons.1 hm with rfl | hm
  ·refine ⟨rfl, ?_⟩
   simp only [rowR, Z0.cells, List.mem_cons, List.not_mem_nil, or_false]
   rintro c (rfl | rfl | rfl | rfl | rfl | rfl | rfl | rfl | rfl) <;> first | rfl | exact hvk1
  ·obtain ⟨n, _, rfl⟩ := List.mem_map.1 hm
   exact Zr9 n
 (repeat(first|refine Kq rfl rfl rfl ?_|(refine Z99 ?_; (repeat(first|refine Z9x rfl ?_|refine Z9y ?_)); refine Z9w ?_)|refine Ks ?_|refine Zb1 (fun _ _ => rfl) ?_))
 rw [Zm2]
 refine Za2 (p := (i : Int) < (ks.length : Int)) rfl (fun h3 => ?_) (fun h3 => ?_)
 ·have hil : i < ks.length := by omega
  have Zd : ks[i]? = some ks[i] := List.getElem?_eq_getElem hil
  have hx' : (Zly ks)[(i : Int).toNat]? = some (encT ks[i]) := Zm3 (by rw [Int.toNat_natCast, Zd])
  have hcn := Znz ks i _ Zd
  have hkl := Znw ks (xs.length + 1) i _ Zd
  have hfl := Znx ks (xs.length + 1) i (xs.length : Int) (deep + 1) _ Zd
  simp only [cnt] at hx hd
  (repeat(first|refine Kq rfl rfl rfl ?_|(refine Z99 ?_; (repeat(first|refine Z9x rfl ?_|refine Z9y ?_)); refine Z9w ?_)|refine Ks ?_|refine Zb1 (fun _ _ => rfl) ?_|refine Z8s ?_|refine Zb2 (fun _ _ => rfl) ?_))
  refine Z9d rfl (by omega) hx' ?_
  rw [Zm0]
  repeat refine Kq rfl rfl rfl ?_
  rw [Kwr deep (by omega)]
  have hcw := ih ks[i] (List.getElem_mem hil) (hkids _ (List.getElem_mem hil)) (.arr 9 b 0 R.length) R [(b, .cells 9 R)] (xs.length : Int) (deep + 1) (βk ++ σ) Zb5.mk hRe (by omega) (by omega)
  rw [Zm0] at hcw
  refine Z9u rfl hcw ?_ ?_
  ·obtain ⟨gv, gβ, hgr⟩ := Zb5.ex 9 (R ++ (Zma R.length (xs.length : Int) (deep + 1) ks[i]).map encR)
   exact ⟨_, _, gβ, hgr, rfl⟩
  rintro r2 _ ⟨β2, ho2, rfl⟩
  obtain ⟨b3, rfl, rfl⟩ := ho2.arr (by rw [hR]; simp)
  repeat refine Kq rfl rfl rfl ?_
  (refine Z99 ?_; (repeat(first|refine Z9x rfl ?_|refine Z9y ?_)); refine Z9w ?_)
  generalize hR3 : R ++ (Zma R.length (xs.length : Int) (deep + 1) ks[i]).map encR = R3
  have hR3' : R3 = xs ++ rowR k ns ks l p s vk parent deep :: (Zmb (xs.length + 1) (xs.length : Int) (deep + 1) (ks.take (i + 1))).map encR := by
   rw [← hR3, hfl, hRl, hR]; simp
  have hat : ∀ z, R3[0 + ((xs.length : Nat) : Int).toNat]? = some z ↔ z = rowR k ns ks l p s vk parent deep := fun z => by
   rw [hR3', Nat.zero_add, Int.toNat_natCast]; simp; exact eq_comm
  have hat1 := (hat _).2 rfl
  have Ze : ∀ u : Z0, u.one = true → R3.set (0 + ((xs.length : Nat) : Int).toNat) (Z1t (rowR k ns ks l p s vk parent deep) (0 + 6) u.cells) = xs ++ rowR k ns ks l p s u parent deep :: (Zmb (xs.length + 1) (xs.length : Int) (deep + 1) (ks.take (i + 1))).map encR := by
   intro u hu
   rw [hR3', Nat.zero_add, Int.toNat_natCast, List.set_append_right _ _ (Nat.le_refl _), Nat.sub_self, List.set_cons_zero, Z0.cells_of_one hu]
   rfl
  have hkb : (Zm9 (xs.length + 1) (ks.take i)).length ≤ 1000 := by rw [Zr8, List.length_take]; omega
  have hkid : ints (Zm9 (xs.length + 1) (ks.take (i + 1))) = ints (Zm9 (xs.length + 1) (ks.take i)) ++ [.int .i64 (R.length : Int)] := by rw [hkl, hRl]; simp [ints]
  refine Z8k fun nd => ?_
  refine Zb1 (fun _ _ => rfl) ?_
  refine Kq rfl rfl rfl ?_
  refine Kq rfl rfl rfl ?_
  refine Kq rfl rfl rfl ?_
  refine Kq rfl rfl rfl ?_
  refine Z9e rfl ⟨by omega, by rw [← hR3]; simp; omega⟩ ?_
  refine Kq rfl rfl rfl ?_
  refine Z9c rfl Z9a hat1 rfl ?_
  refine Kq rfl rfl rfl ?_
  refine Kq rfl rfl rfl ?_
  have hRt : xs.length < R3.length := by rw [← hR3]; simp; omega
  have done : ∀ (b' : Nat) (τ : Zc), b' ≠ b3 → HSub ((b3, .cells 9 (xs ++ rowR k ns ks l p s (.arr 1 b' 0 (ints (Zm9 (xs.length + 1) (ks.take i)) ++ [Z0.int .i64 (R.length : Int)]).length) parent deep :: (Zmb (xs.length + 1) (xs.length : Int) (deep + 1) (ks.take (i + 1))).map encR)) :: (b', .cells 1 (ints (Zm9 (xs.length + 1) (ks.take i)) ++ [Z0.int .i64 (R.length : Int)])) :: σ) τ →
    AWp Try.prog Zox.n (.region Zou [0, 3, 5, 9, 10]) (Za5 (fun m F σ' => ∃ (i b : Nat) (vk : Z0) (βk : Zc) (R : List Z0), F = fset 0 (some (.arr 9 b 0 R.length)) (fset 3 (some (.int .i64 (deep : Int))) (fset 5 (some (.iptr [.int .i64 k, .slc 1 (ns.map .str) false, .slc 6 (Zly ks) false, .int .i64 l, .int .i64 p, .int .i64 s])) (fset 9 (some (.int .i64 (xs.length : Int))) (fset 10 (some (.int .i64 (i : Int))) Z28)))) ∧
  σ' = (b, .cells 9 R) :: (βk ++ σ) ∧ R = xs ++ rowR k ns ks l p s vk parent deep :: (Zmb (xs.length + 1) (xs.length : Int) (deep + 1) (ks.take i)).map encR ∧ Zb5 1 vk (ints (Zm9 (xs.length + 1) (ks.take i))) βk ∧ i ≤ ks.length ∧ m = ks.length - i) (ks.length - i) (Z8r 0 (Z8p Try.prog Zox.n (Zox.code.snd 4) (ARet Zox.res fun r σ' => ∃ β', Zb5 9 r (xs ++ (Zma xs.length parent deep (.mk k ns ks l p s)).map encR) β' ∧ σ' = β' ++ σ))))
     (fset 0 (some (.arr 9 b3 0 R3.length)) (fset 3 (some (.int .i64 (deep : Int))) (fset 5 (some (.iptr [.int .i64 k, .slc 1 (ns.map .str) false, .slc 6 (Zly ks) false, .int .i64 l, .int .i64 p, .int .i64 s])) (fset 9 (some (.int .i64 (xs.length : Int))) (fset 10 (some (.int .i64 (i : Int))) Z28))))) τ := by
   intro b' τ hne hτ
   refine Zb4 ?_
   repeat refine Kq rfl rfl rfl ?_
   rw [Kwr i (by omega)]
   (refine Z99 ?_; (repeat(first|refine Z9x rfl ?_|refine Z9y ?_)); refine Z9w ?_)
   refine ⟨_, ks.length - (i + 1), hτ, ⟨i + 1, b3, _, [(b', .cells 1 _)], _, ?_, rfl, rfl, ?_, by omega, rfl⟩, by omega⟩
   ·rw [hR3']; simp
   ·rw [hkid]; exact Zb5.mk
  rcases hok with ⟨⟨z, rfl⟩, hk0, rfl⟩ | ⟨bk, rfl, rfl⟩
  ·refine Z9r (ys := [.int .i64 (R.length : Int)]) rfl rfl (by simp) fun b' hb' => ?_
   have hne : b' ≠ b3 := fun e => hb' (by rw [e]; simp [Zh])
   repeat refine Kq rfl rfl rfl ?_
   refine Z9e rfl ⟨by omega, by omega⟩ ?_
   repeat refine Kq rfl rfl rfl ?_
   refine Z9g rfl (Z9b hne Z9a) hat1 (by decide) (Kfi rfl) (fun h => by cases h) (Z9i hne Z9h) ?_
   rw [Ze _ rfl]
   (refine Z99 ?_; (repeat(first|refine Z9x rfl ?_|refine Z9y ?_)); refine Z9w ?_)
   refine done b' _ hne ?_
   rw [hk0]
   exact HSub.swap _ _ _
  ·refine Z9q (xs := ints (Zm9 (xs.length + 1) (ks.take i))) (ys := [.int .i64 (R.length : Int)]) (sz := 1) rfl (Z9b (by
    intro e; subst e; simp [Zh] at nd) Z9a) rfl rfl (by simp [ints]; omega) fun b' hb' => ?_
   have hne : b' ≠ b3 := fun e => hb' (by rw [e]; simp [Zh])
   simp only [List.singleton_append]
   rw [Z9k (by intro e; subst e; simp [Zh] at nd) Z9j]
   repeat refine Kq rfl rfl rfl ?_
   refine Z9e rfl ⟨by omega, by omega⟩ ?_
   repeat refine Kq rfl rfl rfl ?_
   refine Z9g rfl Z9a hat1 (by decide) (Kfi rfl) (fun h => by cases h) Z9h ?_
   rw [Ze _ rfl]
   (refine Z99 ?_; (repeat(first|refine Z9x rfl ?_|refine Z9y ?_)); refine Z9w ?_)
   refine done b' _ hne ?_
   rw [List.length_append]
   exact HSub.refl _
 ·have hie : i = ks.length := by omega
  subst hie
  rw [List.take_length] at hR hok
  have hfin : xs ++ rowR k ns ks l p s (.slc 1 (ints (Zm9 (xs.length + 1) ks)) false) parent deep :: (Zmb (xs.length + 1) (xs.length : Int) (deep + 1) ks).map encR = xs ++ (Zma xs.length parent deep (.mk k ns ks l p s)).map encR := by
   rw [Zma]; rfl
  have hlen : (xs ++ (Zma xs.length parent deep (.mk k ns ks l p s)).map encR).length = R.length := by rw [← hfin, hR]; simp
  have hsh : HShift ((b, .cells 9 R) :: (βk ++ σ)) ((b, .cells 9 (xs ++ (Zma xs.length parent deep (.mk k ns ks l p s)).map encR)) :: σ) := by
   have hye : ∀ y ∈ xs ++ (Zma xs.length parent deep (.mk k ns ks l p s)).map encR, y.elem 9 := by
    intro y hy
    rcases List.mem_append.1 hy with hy | hy
    ·exact hxe y hy
    ·obtain ⟨n, _, rfl⟩ := List.mem_map.1 hy
     exact Zr9 n
   have hrep : ∀ (K : Kr), (∀ v, VR K vk v → VR K (.slc 1 (ints (Zm9 (xs.length + 1) ks)) false) v) → ∀ vs, Z1 K (flat R) vs → Z1 K (flat (xs ++ (Zma xs.length parent deep (.mk k ns ks l p s)).map encR)) vs := by
    intro K hK vs hv
    rw [hR, Z4, Z3] at hv
    rw [← hfin, Z4, Z3]
    obtain ⟨m1, m2, rfl, g1, g2⟩ := hv.split
    obtain ⟨m3, m4, rfl, g3, g4⟩ := g2.split
    refine g1.append (Z1.append ?_ g4)
    simp only [rowR, Z0.cells] at g3 ⊢
    obtain ⟨v1, m5, rfl, a1, g3⟩ := g3.ex
    obtain ⟨v2, m5, rfl, a2, g3⟩ := g3.ex
    obtain ⟨v3, m5, rfl, a3, g3⟩ := g3.ex
    obtain ⟨v4, m5, rfl, a4, g3⟩ := g3.ex
    obtain ⟨v5, m5, rfl, a5, g3⟩ := g3.ex
    obtain ⟨v6, m5, rfl, a6, g3⟩ := g3.ex
    obtain ⟨v7, m5, rfl, a7, g3⟩ := g3.ex
    exact .cons a1 (.cons a2 (.cons a3 (.cons a4 (.cons a5 (.cons a6 (.cons (hK _ a7) g3))))))
   rcases hok with ⟨⟨z, rfl⟩, hk0, rfl⟩ | ⟨bk, rfl, rfl⟩
   ·intro K w r
    refine ⟨K, Kr.le.refl K, Rel.content (xs := R) r hlen hye (hrep K fun v hv => ?_)⟩
    rw [hk0]
    exact VRle.trans (VRle.nil_slc z 1 true) VRle.full K [v] hv
   ·exact HShift.inner hlen hye hrep
  refine Zb3 (fun _ _ => rfl) ?_
  refine Zba hsh ?_
  (repeat(first|refine Kq rfl rfl rfl ?_|(refine Z99 ?_; (repeat(first|refine Z9x rfl ?_|refine Z9y ?_)); refine Z9w ?_)|refine Ks ?_|refine Zb1 (fun _ _ => rfl) ?_))
  refine Z8o ?_
  refine ares rfl (HSub.refl _) ⟨_, .inr ⟨b, ?_, rfl⟩, rfl⟩
  rw [hlen]; rfl
end Go.Abs
namespace Go.Abs
open Go Go.Proofs
theorem Zrb (t : Ty) (hc : ∀ σ, Z1s Try.prog Zch [encT t] σ fun r σ' => r = .int .i64 (Zm8 t : Int) ∧ σ' = σ) (σ : Zc) : Z1s Try.prog Zc1 [encT t] σ fun r σ' => r = .slc 9 ((Zmf t).map encR) false ∧ σ' = σ := by
 have hc := hc σ
 have hf := fun (hs : t.Small) => Zra t hs (.slc 0 [] true) [] [] (-1) 1 σ (Zb5.nil 9 0)
 rw [Zm0] at *
 refine Z94 rfl Zql (Nat.le_of_ble_eq_true rfl) ?_
 refine Za1 ?_
 refine Z9n rfl (Kfi rfl) fun pb hpb => ?_
 repeat refine Kq rfl rfl rfl ?_
 (refine Z99 ?_; (repeat(first|refine Z9x rfl ?_|refine Z9y ?_)); refine Z9w ?_)
 refine Zaj (d := 1) (cs := Zlz t) rfl ?_
 (repeat(first|refine Kq rfl rfl rfl ?_|refine Ks ?_|refine Zb1 (fun _ _ => rfl) ?_))
 refine Z9v rfl hc ?_
 (repeat(first|refine Kq rfl rfl rfl ?_|(refine Z99 ?_; (repeat(first|refine Z9x rfl ?_|refine Z9y ?_)); refine Z9w ?_)))
 by_cases h0 : Zm8 t = 0
 ·have hs := Znv t 1 0 h0
  (rw [decide_eq_false (p := ((Zm8 t : Nat) : Int) ≠ 0) (by omega)])
  (repeat(first|refine Kq rfl rfl rfl ?_|refine Ks ?_|refine Zb1 (fun _ _ => rfl) ?_|refine Zb2 (fun _ _ => rfl) ?_|refine Kc2 rfl ?_))
  refine Z9u rfl (hf hs.2.1 (by simp) (by simp; omega) (by omega)) ?_ ?_
  ·obtain ⟨gv, gβ, hgr⟩ := Zb5.ex 9 ([] ++ (Zma 0 (-1) 1 t).map encR)
   exact ⟨_, _, gβ, hgr, rfl⟩
  rintro r2 _ ⟨β2, ho2, rfl⟩
  (repeat(first|refine Kq rfl rfl rfl ?_|(refine Z99 ?_; (repeat(first|refine Z9x rfl ?_|refine Z9y ?_)); refine Z9w ?_)))
  refine Z8o ?_
  refine Zb8 rfl (Zam.one (Zam.growG ho2)) ⟨?_, rfl⟩
  rw [Zmf, if_pos h0]; rfl
 ·(rw [decide_eq_true (p := ((Zm8 t : Nat) : Int) ≠ 0) (by omega)])
  (repeat(first|refine Kq rfl rfl rfl ?_|(refine Z99 ?_; (repeat(first|refine Z9x rfl ?_|refine Z9y ?_)); refine Z9w ?_)|refine Ks ?_|refine Zb1 (fun _ _ => rfl) ?_|refine Kc1 rfl ?_))
  refine Z8o ?_
  refine Zag rfl ?_ (HSub.refl _) ⟨rfl, rfl⟩
  rw [Zmf, if_neg h0]
  exact VRle.trans (VRle.nil_slc 0 9 true) VRle.full
end Go.Abs
namespace Go.Abs
open Go Go.Proofs
attribute [local irreducible] AWp aops KP
structure Tm where
 col : Int
 op : Int
 v : Vl
def Zrc (t : Tm) : List Z0 := .int .i64 t.col :: .int .i64 t.op :: Zmh t.v
def encM (t : Tm) : Z0 := .agg (Zrc t)
structure WfN (l : List Nd) : Prop where
 len : l.length ≤ 1000000
 up : ∀ (i : Nat) (n : Nd), l[i]? = some n → -1 ≤ n.parent ∧ n.parent < i
 kids : ∀ n ∈ l, n.kids.length ≤ 1000000
def tyN (n : Nd) : Ty := .mk n.t.kind [] [] n.t.len n.t.prec n.t.scale
def Zrd : Vl → Bool
 | .mk nu i n b ks => decide (nu = false ∧ i = 0 ∧ n = 0 ∧ b.length = 0 ∧ ks.length = 0)
def idxF : List Nat → Int → Nat → Int
 | [], _, _ => -1
 | k :: ks, c, i => if (k : Int) = c then (i : Int) else idxF ks c (i + 1)
def upF (l : List Nd) : Nat → Int → Bool
 | 0, _ => true
 | f + 1, p => if p < 0 ∨ (l.length : Int) ≤ p then true else
  match l[p.toNat]? with
  | none => true
  | some n => if n.t.kind = 12 then upF l f n.parent else false
def Zre (l : List Nd) (col : Int) : Bool :=
 if col < 0 ∨ (l.length : Int) ≤ col then false else
 match l[col.toNat]? with
 | none => false
 | some n => Zm4 n.t.kind && upF l (n.parent + 1).toNat n.parent
def Zrf (op c : Int) : Bool :=
 if op = 1 then decide (c = 0) else if op = 2 then decide (c ≠ 0) else if op = 3 then decide (c < 0) else if op = 4 then decide (c ≤ 0) else if op = 5 then decide (c > 0) else decide (c ≥ 0)
end Go.Abs
namespace Go.Abs
open Go Go.Proofs
attribute [local irreducible] AWp aops KP
def Zrg (k : Int) : Bool := decide (k = 0) || decide (k = 1) || decide (k = 2) || decide (k = 3) || decide (k = 4) || decide (k = 7) || decide (k = 16) || decide (k = 17) || decide (k = 8) || decide (k = 14)
def Zrh (k : Int) : Bool := Zm4 k && (decide (k ≠ 0) && decide (k ≠ 8))
def addF (a b : Int) : Int × Bool := if -9223372036854775808 ≤ a + b ∧ a + b ≤ 9223372036854775807 then (a + b, true) else (0, false)
end Go.Abs
namespace Go.Abs
open Go Go.Proofs
attribute [local irreducible] AWp aops KP
structure Stt where
 count : Int
 null : Bool
 has : Bool
 min : Vl
 max : Vl
 sums : Bool
 sum : Int
def vl0 : Vl := .mk false 0 0 [] []
def Zri (s : Stt) : List Z0 := [.int .i64 s.count, .bool s.null, .bool s.has,
 .bool s.min.null, .int .i64 s.min.i, .int .i64 s.min.n, .slc 1 (bytes s.min.b) false, .slc 5 (Zmg s.min.kids) false,
 .bool s.max.null, .int .i64 s.max.i, .int .i64 s.max.n, .slc 1 (bytes s.max.b) false, .slc 5 (Zmg s.max.kids) false,
 .bool s.sums, .int .i64 s.sum]
def encS (s : Stt) : Z0 := .agg (Zri s)
def Zrj (s : Stt) (v : Int) : Stt := if s.sums = true then { s with sum := (addF s.sum v).1, sums := (addF s.sum v).2 } else s
def Zrk (k : Int) (s : Stt) (lo hi : Vl) : Stt :=
 { s with min := if s.has = false ∨ (cmpV k lo s.min).1 < 0 then lo else s.min, max := if s.has = false ∨ 0 < (cmpV k hi s.max).1 then hi else s.max, has := true }
end Go.Abs
namespace Go.Abs
open Go Go.Proofs
attribute [local irreducible] AWp aops KP
structure Col where
 here : List Bool
 ints : List Int
 ns : List Int
 texts : List (List UInt8)
 lens : List Int
def Zrl (c : Col) : List Z0 := [.slc 1 (c.here.map .bool) false, .slc 1 (c.ints.map (.int .i64)) false, .slc 1 (c.ns.map (.int .i64)) false,
 .slc 1 (c.texts.map fun b => .slc 1 (bytes b) false) false, .slc 1 (c.lens.map (.int .i64)) false]
def Kc (c : Col) : Z0 := .agg (Zrl c)
def hasF (c : Col) : Bool := c.here.any (!·)
def idxB (v : Bool) : Nat → List Bool → Int
 | _, [] => -1
 | i, b :: bs => if v = b then i else idxB v (i + 1) bs
theorem Zrm (v : Bool) : ∀ (bs : List Bool) (i : Nat), decide (0 ≤ idxB v i bs) = bs.any (· == v)
 | [], i => by simp [idxB]
 | b :: bs, i => by
  rw [idxB, List.any_cons]
  by_cases h : v = b
  ·rw [if_pos h]; simp [h]
  ·rw [if_neg h, Zrm v bs]
   have : (b == v) = false := by cases v <;> cases b <;> simp_all
   rw [this]; simp
theorem Zrn {α : Type} {f : α → Z0} {l : List α} {j : Nat} (h : j < l.length) : (l.map f)[((j : Nat) : Int).toNat]? = some (f l[j]) := by
 rw [Int.toNat_natCast, List.getElem?_map, List.getElem?_eq_getElem h]; rfl
theorem Zro (bs : List Bool) (v : Bool) (hl : bs.length ≤ 140737488355328) (σ : Zc) : Z1s Try.prog Zf8 [.slc 1 (bs.map .bool) false, .bool v] σ fun r σ' => r = .int .i64 (idxB v 0 bs) ∧ σ' = σ := by
 refine Z94 rfl Zqk (Nat.le_of_ble_eq_true rfl) ?_
 (repeat(first|refine Kq rfl rfl rfl ?_|(refine Z99 ?_; (repeat(first|refine Z9x rfl ?_|refine Z9y ?_)); refine Z9w ?_)|refine Ks ?_|refine Zb1 (fun _ _ => rfl) ?_|refine Z8s ?_))
 rw [show ((bs.map Z0.bool).length : Int) = (bs.length : Int) by simp]
 generalize hX : idxB v 0 bs = X
 refine Za6 (fun m F σ' => ∃ (j : Nat), F = fset 0 (some (.slc 1 (bs.map .bool) false)) (fset 1 (some (.bool v)) (fset 7 (some (.int .i64 (bs.length : Int))) (fset 8 (some (.int .i64 (j : Int))) Z28))) ∧
  σ = σ' ∧ j ≤ bs.length ∧ X = idxB v j (bs.drop j) ∧ m = bs.length - j) (n := bs.length) ⟨0, rfl, rfl, by omega, hX.symm, rfl⟩ ?_
 rintro m F σ' ⟨j, rfl, rfl, hj, hXj, rfl⟩
 (repeat(first|refine Kq rfl rfl rfl ?_|(refine Z99 ?_; (repeat(first|refine Z9x rfl ?_|refine Z9y ?_)); refine Z9w ?_)|refine Ks ?_|refine Zb1 (fun _ _ => rfl) ?_))
 refine Za2 (p := (j : Int) < (bs.length : Int)) rfl (fun h3 => ?_) (fun h3 => ?_)
 ·have hjl : j < bs.length := by omega
  rw [List.drop_eq_getElem_cons hjl, idxB] at hXj
  (repeat(first|refine Kq rfl rfl rfl ?_|(refine Z99 ?_; (repeat(first|refine Z9x rfl ?_|refine Z9y ?_)); refine Z9w ?_)|refine Ks ?_|refine Zb1 (fun _ _ => rfl) ?_|refine Z8s ?_|refine Zb2 (fun _ _ => rfl) ?_))
  refine Z9d rfl (by omega) (Zrn hjl) ?_
  (repeat(first|refine Kq rfl rfl rfl ?_|(refine Z99 ?_; (repeat(first|refine Z9x rfl ?_|refine Z9y ?_)); refine Z9w ?_)))
  cases he : (v == bs[j]) with
  | true =>
   rw [if_pos (by simpa using he)] at hXj
   (repeat(first|refine Kq rfl rfl rfl ?_|(refine Z99 ?_; (repeat(first|refine Z9x rfl ?_|refine Z9y ?_)); refine Z9w ?_)|refine Ks ?_|refine Zb1 (fun _ _ => rfl) ?_|refine Kc1 rfl ?_))
   refine Z8o ?_
   exact Kar rfl ⟨by rw [hXj]; rfl, rfl⟩
  | false =>
   rw [if_neg (by simpa using he)] at hXj
   (repeat(first|refine Zb2 (fun _ _ => rfl) ?_|refine Kc2 rfl ?_))
   refine Zb4 ?_
   repeat refine Kq rfl rfl rfl ?_
   rw [Kwr j (by omega)]
   (refine Z99 ?_; (repeat(first|refine Z9x rfl ?_|refine Z9y ?_)); refine Z9w ?_)
   exact ⟨_, bs.length - (j + 1), HSub.refl _, ⟨j + 1, rfl, rfl, by omega, hXj, rfl⟩, by omega⟩
 ·(repeat(first|refine Kq rfl rfl rfl ?_|(refine Z99 ?_; (repeat(first|refine Z9x rfl ?_|refine Z9y ?_)); refine Z9w ?_)|refine Ks ?_|refine Zb1 (fun _ _ => rfl) ?_|refine Zb3 (fun _ _ => rfl) ?_))
  rw [List.drop_of_length_le (by omega), idxB] at hXj
  refine Z8o ?_
  exact Kar rfl ⟨by rw [hXj]; rfl, rfl⟩
theorem Zrp (bs : List Bool) (v : Bool) (hl : bs.length ≤ 140737488355328) (σ : Zc) : Z1s Try.prog Ze6 [.slc 1 (bs.map .bool) false, .bool v] σ fun r σ' => r = .bool (bs.any (· == v)) ∧ σ' = σ := by
 refine Z94 rfl Zqj (Nat.le_of_ble_eq_true rfl) ?_
 (repeat(first|refine Kq rfl rfl rfl ?_|(refine Z99 ?_; (repeat(first|refine Z9x rfl ?_|refine Z9y ?_)); refine Z9w ?_)|refine Ks ?_|refine Zb1 (fun _ _ => rfl) ?_))
 refine Z9v rfl (Zro bs v hl _) ?_
 (repeat(first|refine Kq rfl rfl rfl ?_|(refine Z99 ?_; (repeat(first|refine Z9x rfl ?_|refine Z9y ?_)); refine Z9w ?_)))
 refine Z8o ?_
 exact Kar rfl ⟨by rw [← Zrm v bs 0]; rfl, rfl⟩
theorem Zrq (c : Col) (hl : c.here.length ≤ 140737488355328) (σ : Zc) : Z1s Try.prog Zcv [Kc c] σ fun r σ' => r = .bool (hasF c) ∧ σ' = σ := by
 refine Z94 rfl Zqi (Nat.le_of_ble_eq_true rfl) ?_
 refine Za1 ?_
 refine Z9n rfl (Kfi rfl) fun b hb => ?_
 repeat refine Kq rfl rfl rfl ?_
 (refine Z99 ?_; (repeat(first|refine Z9x rfl ?_|refine Z9y ?_)); refine Z9w ?_)
 refine Zaj (d := 1) (cs := Zrl c) rfl ?_
 (repeat(first|refine Kq rfl rfl rfl ?_|refine Ks ?_|refine Zb1 (fun _ _ => rfl) ?_))
 refine Z9v rfl (Zrp c.here false hl _) ?_
 (repeat(first|refine Kq rfl rfl rfl ?_|(refine Z99 ?_; (repeat(first|refine Z9x rfl ?_|refine Z9y ?_)); refine Z9w ?_)))
 refine Z8o ?_
 exact Kar rfl ⟨by simp [Z8x, hasF], rfl⟩
end Go.Abs
namespace Go.Abs
open Go Go.Proofs
def Zrr (l : List (List UInt8)) : List Z0 := l.map fun b => .slc 1 (bytes b) false
def ColG (w : Z0) (c : Col) (β : Zc) : Prop := ∃ v1 v2 v3 v4 v5 β1 β2 β3 β4 β5, w = .agg [v1, v2, v3, v4, v5] ∧ Zb5 1 v1 (c.here.map .bool) β1 ∧ Zb5 1 v2 (c.ints.map (.int .i64)) β2 ∧
 Zb5 1 v3 (c.ns.map (.int .i64)) β3 ∧ Zb5 1 v4 (Zrr c.texts) β4 ∧ Zb5 1 v5 (c.lens.map (.int .i64)) β5 ∧ β = β1 ++ (β2 ++ (β3 ++ (β4 ++ β5)))
def Zrs : List Z0 → List Col → Zc → Prop
 | [], [], β => β = []
 | w :: ws, c :: cs, β => ∃ β1 γ, ColG w c β1 ∧ Zrs ws cs γ ∧ β = β1 ++ γ
 | _, _, _ => False
theorem Zrs.len : ∀ {ws : List Z0} {cs : List Col} {β : Zc}, Zrs ws cs β → ws.length = cs.length
 | [], [], _, _ => rfl
 | _ :: _, _ :: _, _, ⟨_, _, _, h, _⟩ => by rw [List.length_cons, List.length_cons, h.len]
 | [], _ :: _, _, h => h.elim
 | _ :: _, [], _, h => h.elim
theorem Zrt {α : Type} (a b c : List α) : (a ++ (b ++ c)).Perm (b ++ (a ++ c)) := by
 rw [← List.append_assoc, ← List.append_assoc]
 exact List.Perm.append_right c List.perm_append_comm
theorem Zrs.pick : ∀ {ws : List Z0} {cs : List Col} {β : Zc} (i : Nat) (w : Z0) (c : Col), Zrs ws cs β → ws[i]? = some w → cs[i]? = some c →
  ∃ β1 γ, ColG w c β1 ∧ β.Perm (β1 ++ γ) ∧ ∀ w' c' β', ColG w' c' β' → ∃ δ, Zrs (ws.set i w') (cs.set i c') δ ∧ δ.Perm (β' ++ γ)
 | [], [], _, i, w, c, _, h1, _ => by simp at h1
 | [], _ :: _, _, _, _, _, h, _, _ => h.elim
 | _ :: _, [], _, _, _, _, h, _, _ => h.elim
 | x :: ws, y :: cs, β, 0, w, c, ⟨β1, γ, h1, h2, h3⟩, e1, e2 => by
  simp only [List.getElem?_cons_zero, Option.some.injEq] at e1 e2
  subst e1 e2 h3
  exact ⟨β1, γ, h1, List.Perm.refl _, fun w' c' β' h' => ⟨β' ++ γ, ⟨β', γ, h', h2, rfl⟩, List.Perm.refl _⟩⟩
 | x :: ws, y :: cs, β, i + 1, w, c, ⟨β1, γ, h1, h2, h3⟩, e1, e2 => by
  simp only [List.getElem?_cons_succ] at e1 e2
  obtain ⟨η, γ', g1, g2, g3⟩ := Zrs.pick i w c h2 e1 e2
  subst h3
  refine ⟨η, β1 ++ γ', g1, (List.Perm.append_left β1 g2).trans (Zrt _ _ _), fun w' c' β' h' => ?_⟩
  obtain ⟨δ, k1, k2⟩ := g3 w' c' β' h'
  exact ⟨β1 ++ δ, ⟨β1, δ, h1, k1, rfl⟩, (List.Perm.append_left β1 k2).trans (Zrt _ _ _)⟩
theorem ColG.nil : ColG (.agg [.slc 0 [] true, .slc 0 [] true, .slc 0 [] true, .slc 0 [] true, .slc 0 [] true]) ⟨[], [], [], [], []⟩ [] :=
 ⟨_, _, _, _, _, [], [], [], [], [], rfl, Zb5.nil 1 0, Zb5.nil 1 0, Zb5.nil 1 0, Zb5.nil 1 0, Zb5.nil 1 0, rfl⟩
theorem Zrs.nil : ∀ n, Zrs (List.replicate n (.agg [.slc 0 [] true, .slc 0 [] true, .slc 0 [] true, .slc 0 [] true, .slc 0 [] true])) (List.replicate n ⟨[], [], [], [], []⟩) []
 | 0 => rfl
 | n + 1 => ⟨[], [], ColG.nil, Zrs.nil n, rfl⟩
theorem Zru {α : Type} (x : α) (a m r : List α) : (m ++ (x :: (a ++ r))).Perm (x :: (a ++ (m ++ r))) :=
 (Zrt m [x] (a ++ r)).trans (List.Perm.cons x (Zrt m a r))
theorem Zrv {β τ : Zc} {b : Nat} {x : Zb} (h : (Zh (β ++ (b, x) :: τ)).Nodup) : Zd (β ++ (b, x) :: τ) b = some x := by
 have hb : b ∉ Zh β := by
  intro hb
  rw [Zh, List.map_append, List.nodup_append] at h
  exact h.2.2 b hb b (by simp) rfl
 rw [Za9 hb]
 exact Z9a
end Go.Abs
namespace Go.Abs
open Go Go.Proofs
instance : Inhabited Col := ⟨⟨[], [], [], [], []⟩⟩
def col0 : Col := ⟨[], [], [], [], []⟩
def Zrw (k : Int) (v : Vl) (c : Col) : Col :=
 if Zmm k = true then { c with texts := c.texts ++ [v.b] }
 else if k = 10 then { c with lens := c.lens ++ [(v.kids.length : Int)] }
 else if k = 11 then { c with lens := c.lens ++ [((v.kids.length / 2 : Nat) : Int)] }
 else if k ≠ 12 then { c with ints := c.ints ++ [v.i] }
 else c
def Zrx (k : Int) (v : Vl) (c : Col) : Col := if k = 9 then { c with ns := c.ns ++ [v.n] } else c
def Zry (b : Bool) (c : Col) : Col := { c with here := c.here ++ [b] }
def addC (k : Int) (v : Vl) (c : Col) : Col := Zrx k v (Zrw k v (Zry true c))
def kidC (l : List Nd) (at_ : Nat) (k i : Int) (j : Nat) : Nat :=
 match l[at_]? with
 | some nd => nd.kids.getD (Zmq k i j) 0
 | none => 0
def Zrz (l : List Nd) (at_ : Nat) : Int :=
 match l[at_]? with
 | some nd => nd.t.kind
 | none => 0
mutual
def putF (l : List Nd) (at_ : Nat) : Vl → List Col → List Col × Bool
 | .mk nu i n b ks, cols =>
  if 16384 ≤ (cols.getD at_ col0).here.length then (cols, false)
  else if nu = true then (cols.set at_ (Zry false (cols.getD at_ col0)), true)
  else putL l at_ i 0 ks (cols.set at_ (addC (Zrz l at_) (.mk nu i n b ks) (cols.getD at_ col0)))
def putL (l : List Nd) (at_ : Nat) (i : Int) (j : Nat) : List Vl → List Col → List Col × Bool
 | [], cols => (cols, true)
 | v :: vs, cols =>
  let r := putF l (kidC l at_ (Zrz l at_) i j) v cols
  if r.2 = true then putL l at_ i (j + 1) vs r.1 else (r.1, false)
end
inductive At (l : List Nd) : Nat → Ty → Prop
 | mk {at_ : Nat} {t : Ty} {nd : Nd} (h : l[at_]? = some nd) (ht : nd.t = t) (hk : nd.kids.length = t.kids.length)
   (hkids : ∀ (j x : Nat) (u : Ty), nd.kids[j]? = some x → t.kids[j]? = some u → At l x u) : At l at_ t
theorem Zs0 : ∀ (ks : List Ty) (a : Nat), (Zm9 a ks).length = ks.length
 | [], _ => rfl
 | t :: ks, a => by rw [Zm9, List.length_cons, List.length_cons, Zs0 ks]
theorem Zs1 : ∀ (ks : List Ty) (a j x : Nat), (Zm9 a ks)[j]? = some x → x = a + cntL (ks.take j)
 | [], a, j, x, h => by simp [Zm9] at h
 | t :: ks, a, 0, x, h => by simp [Zm9] at h; simp [cntL, h]
 | t :: ks, a, j + 1, x, h => by
  simp only [Zm9, List.getElem?_cons_succ] at h
  rw [Zs1 ks _ j x h, List.take_succ_cons, cntL]
  omega
theorem Zs2 : ∀ (ks : List Ty) (a j : Nat) (p : Int) (d : Nat) (u : Ty), ks[j]? = some u → ∃ post, Zmb a p d ks = Zmb a p d (ks.take j) ++ (Zma (a + cntL (ks.take j)) p d u ++ post)
 | [], a, j, p, d, u, h => by simp at h
 | t :: ks, a, 0, p, d, u, h => by
  simp only [List.getElem?_cons_zero, Option.some.injEq] at h
  subst h
  exact ⟨Zmb (a + cnt t) p d ks, by simp only [List.take_zero, cntL, Zmb, List.nil_append, Nat.add_zero]⟩
 | t :: ks, a, j + 1, p, d, u, h => by
  simp only [List.getElem?_cons_succ] at h
  obtain ⟨post, hp⟩ := Zs2 ks (a + cnt t) j p d u h
  refine ⟨post, ?_⟩
  rw [Zmb, hp, List.take_succ_cons, Zmb, cntL, List.append_assoc, Nat.add_assoc]
theorem Zs3 : ∀ (t : Ty) (pre post : List Nd) (p : Int) (d : Nat), At (pre ++ (Zma pre.length p d t ++ post)) pre.length t := by
 refine Ty.ind fun k ns ks le pr sc ih pre post p d => ?_
 rw [Zma]
 refine At.mk (nd := ⟨.mk k ns ks le pr sc, Zm9 (pre.length + 1) ks, p, d⟩) (by rw [List.getElem?_append_right (Nat.le_refl _), Nat.sub_self]; rfl) rfl (Zs0 ks _) fun j x u hx hu => ?_
 have hx' := Zs1 _ _ _ _ hx
 have hu' : ks[j]? = some u := hu
 obtain ⟨post', hp⟩ := Zs2 ks (pre.length + 1) j (pre.length : Int) (d + 1) u hu'
 have hlen : (Zmb (pre.length + 1) (pre.length : Int) (d + 1) (ks.take j)).length = cntL (ks.take j) := Zny _ _ _ _
 have := ih u (List.mem_of_getElem? hu') (pre ++ (⟨.mk k ns ks le pr sc, Zm9 (pre.length + 1) ks, p, d⟩ :: Zmb (pre.length + 1) (pre.length : Int) (d + 1) (ks.take j))) (post' ++ post) (pre.length : Int) (d + 1)
 have hl2 : (pre ++ ((⟨.mk k ns ks le pr sc, Zm9 (pre.length + 1) ks, p, d⟩ : Nd) :: Zmb (pre.length + 1) (pre.length : Int) (d + 1) (ks.take j))).length = x := by
  rw [List.length_append, List.length_cons, hlen, hx']; omega
 rw [hl2] at this
 rw [hp, ← hx']
 simpa [List.append_assoc] using this
theorem At.lt {l : List Nd} {at_ : Nat} {t : Ty} (h : At l at_ t) : at_ < l.length := by
 cases h with
 | mk h _ _ _ => exact (List.getElem?_eq_some_iff.1 h).1
theorem Zs4 (t : Ty) (h : Zm8 t = 0) : At (Zmf t) 0 t := by
 have := Zs3 t [] [] (-1) 1
 rw [Zmf, if_pos h]
 simpa using this
end Go.Abs

