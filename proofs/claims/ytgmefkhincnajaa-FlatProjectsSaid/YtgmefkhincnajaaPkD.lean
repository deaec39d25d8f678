/- Part D of a proof: merged by program. -/
import Derived.Test.YtgmefkhincnajaaProg
import Derived.KernelRfl
import Derived.WalkKit
import Derived.Laws.Externs
import Derived.Lib.Bytealg
import Derived.Deep.Slices
import Derived.Test.YtgmefkhincnajaaPkC
namespace Go.Abs
open Go
def Zuh : List Z2a := [
  ⟨some 1,(.box 5),[.t 0],none⟩,⟨some 2,.mov,[.c (.bool false)],none⟩]
def Zui : List Z2a := [
  ⟨some 3,(.fad 0),[.t 1],none⟩,⟨some 4,(.load false 1),[.t 3],none⟩,⟨some 5,(.call Zew),[.t 4,.c (.bool false)],none⟩,⟨some 2,.mov,[.t 5],none⟩]
def Zuj : Z2y := ⟨6,(.seq (.region Zuh [1]) (.seq (.region Zui [2]) .ret)),[.t 2]⟩
def Zut : List Z2a := [
  ⟨some 4,.mov,[.c (.bool false)],none⟩]
def Zuu : List Z2a := [
  ⟨some 5,.mov,[.t 0],none⟩,⟨some 6,.mov,[.t 1],none⟩,⟨some 7,(.call Zfy),[.t 5,.t 6],none⟩,⟨some 8,(.bin .geq),[.t 7,.c (.int .i64 0)],none⟩,⟨some 4,.mov,[.t 8],none⟩]
def Zuv : Z2y := ⟨9,(.seq (.region Zut [0,1]) (.seq (.region Zuu [4]) .ret)),[.t 4]⟩
def Zuw : List Z2a := [
  ⟨some 4,.mov,[.c (.int .i64 0)],none⟩]
def Zux : List Z2a := [
  ⟨some 6,.mov,[.t 0],none⟩,⟨some 7,.lens,[.t 6],none⟩,⟨some 8,.mov,[.c (.int .i64 0)],none⟩]
def Zuy : List Z2a := [
  ⟨some 9,(.bin .lss),[.t 8,.t 7],none⟩]
def Zuz : List Z2a := [
  ⟨some 10,.mov,[.t 8],none⟩,⟨some 5,.mov,[.t 10],none⟩]
def Zv0 : List Z2a := [
  ⟨some 11,.mov,[.t 1],none⟩,⟨some 12,.mov,[.t 0],none⟩,⟨some 13,.mov,[.t 5],none⟩,⟨some 14,(.iad 1),[.t 12,.t 13],none⟩,⟨some 15,(.load false 1),[.t 14],none⟩,⟨some 16,(.binb .eql),[.t 11,.t 15],none⟩]
def Zv1 : List Z2a := [
  ⟨some 17,.mov,[.t 5],none⟩,⟨some 4,.mov,[.t 17],none⟩]
def Zv2 : List Z2a := [
  ⟨some 18,(.bin .add),[.t 8,.c (.int .i64 1)],none⟩,⟨some 8,.mov,[.t 18],none⟩]
def Zv3 : Z2b := (.seq (.region Zuy [0,1,7,8,9]) (.seq (.cond (.t 9) .skip (.exit 0)) (.seq (.block 1 (.seq (.region Zuz [0,1,5,7,8]) (.seq (.region Zv0 [0,1,5,7,8,16]) (.cond (.t 16) (.seq (.region Zv1 [4]) .ret) .skip)))) (.region Zv2 [0,1,7,8]))))
def Zv4 : List Z2a := [
  ⟨some 4,.mov,[.c (.int .i64 (-1))],none⟩]
def Zv5 : Z2y := ⟨19,(.seq (.region Zuw [0,1]) (.seq (.seq (.region Zux [0,1,7,8]) (.block 0 (.loop Zv3))) (.seq (.region Zv4 [4]) .ret))),[.t 4]⟩
def Zns : List Z2a := [
  ⟨some 2,(.box 6),[.t 0],none⟩,⟨some 3,(.box 5),[.t 1],none⟩,⟨some 4,.mov,[.c (.int .i64 0)],none⟩]
def Znt : List Z2a := [
  ⟨some 8,(.fad 0),[.t 3],none⟩,⟨some 9,(.load false 1),[.t 8],none⟩]
def Znu : List Z2a := [
  ⟨some 10,(.fad 1),[.t 3],none⟩,⟨some 11,(.load false 1),[.t 10],none⟩,⟨some 12,(.bin .neq),[.t 11,.c (.int .i64 0)],none⟩,⟨some 13,.mov,[.t 12],none⟩,⟨some 14,(.fad 2),[.t 3],some (13,false)⟩,⟨some 15,(.load false 1),[.t 14],some (13,false)⟩,⟨some 16,(.bin .neq),[.t 15,.c (.int .i64 0)],some (13,false)⟩,⟨some 17,.pick,[.t 13,.c (.bool true),.t 16],none⟩,⟨some 18,.mov,[.t 17],none⟩,⟨some 19,(.fad 3),[.t 3],some (18,false)⟩,⟨some 20,(.load false 1),[.t 19],some (18,false)⟩,⟨some 21,.lens,[.t 20],some (18,false)⟩,⟨some 22,(.bin .gtr),[.t 21,.c (.int .i64 0)],some (18,false)⟩,⟨some 23,.pick,[.t 18,.c (.bool true),.t 22],none⟩,⟨some 24,.mov,[.t 23],none⟩,⟨some 25,(.fad 4),[.t 3],some (24,false)⟩,⟨some 26,(.load false 1),[.t 25],some (24,false)⟩,⟨some 27,.lens,[.t 26],some (24,false)⟩,⟨some 28,(.bin .gtr),[.t 27,.c (.int .i64 0)],some (24,false)⟩,⟨some 29,.pick,[.t 24,.c (.bool true),.t 28],none⟩]
def Znv : List Z2a := [
  ⟨some 4,.mov,[.c (.int .i64 1)],none⟩]
def Znw : List Z2a := [
  ⟨some 4,.mov,[.c (.int .i64 0)],none⟩]
def Znx : List Z2a := [
  ⟨some 30,(.load true 6),[.t 2],none⟩,⟨some 31,(.fad 1),[.t 3],none⟩,⟨some 32,(.load false 1),[.t 31],none⟩,⟨some 33,(.fad 2),[.t 3],none⟩,⟨some 34,(.load false 1),[.t 33],none⟩,⟨some 35,(.call Zeo),[.t 30,.t 32,.t 34],none⟩,⟨some 36,.unot,[.t 35],none⟩,⟨some 37,.mov,[.t 36],none⟩,⟨some 38,(.fad 3),[.t 3],some (37,false)⟩,⟨some 39,(.load false 1),[.t 38],some (37,false)⟩,⟨some 40,.lens,[.t 39],some (37,false)⟩,⟨some 41,(.bin .gtr),[.t 40,.c (.int .i64 0)],some (37,false)⟩,⟨some 42,.mov,[.t 41],some (37,false)⟩,⟨some 43,(.fad 0),[.t 2],some (42,true)⟩,⟨some 44,(.load false 1),[.t 43],some (42,true)⟩,⟨some 45,(.call Zea),[.t 44],some (42,true)⟩,⟨some 46,.unot,[.t 45],some (42,true)⟩,⟨some 47,.pick,[.t 42,.t 46,.c (.bool false)],some (37,false)⟩,⟨some 48,.pick,[.t 37,.c (.bool true),.t 47],none⟩,⟨some 49,.mov,[.t 48],none⟩,⟨some 50,(.fad 4),[.t 3],some (49,false)⟩,⟨some 51,(.load false 1),[.t 50],some (49,false)⟩,⟨some 52,.lens,[.t 51],some (49,false)⟩,⟨some 53,(.bin .gtr),[.t 52,.c (.int .i64 0)],some (49,false)⟩,⟨some 54,.mov,[.t 53],some (49,false)⟩,⟨some 55,(.fad 0),[.t 2],some (54,true)⟩,⟨some 56,(.load false 1),[.t 55],some (54,true)⟩,⟨some 57,(.call Zeb),[.t 56],some (54,true)⟩,⟨some 58,.pick,[.t 54,.t 57,.c (.bool false)],some (49,false)⟩,⟨some 59,.pick,[.t 49,.c (.bool true),.t 58],none⟩]
def Zny : List Z2a := [
  ⟨some 4,.mov,[.c (.int .i64 1)],none⟩]
def Znz : List Z2a := [
  ⟨some 60,(.fad 3),[.t 3],none⟩,⟨some 61,(.load false 1),[.t 60],none⟩,⟨some 62,.lens,[.t 61],none⟩,⟨some 63,(.bin .gtr),[.t 62,.c (.int .i64 4096)],none⟩,⟨some 64,.mov,[.t 63],none⟩,⟨some 65,(.fad 0),[.t 2],some (64,false)⟩,⟨some 66,(.load false 1),[.t 65],some (64,false)⟩,⟨some 67,(.bin .eql),[.t 66,.c (.int .i64 16)],some (64,false)⟩,⟨some 68,.mov,[.t 67],some (64,false)⟩,⟨some 69,(.fad 0),[.t 2],some (68,false)⟩,⟨some 70,(.load false 1),[.t 69],some (68,false)⟩,⟨some 71,(.bin .eql),[.t 70,.c (.int .i64 17)],some (68,false)⟩,⟨some 72,.pick,[.t 68,.c (.bool true),.t 71],some (64,false)⟩,⟨some 73,.mov,[.t 72],some (64,false)⟩,⟨some 74,(.fad 3),[.t 3],some (73,true)⟩,⟨some 75,(.load false 1),[.t 74],some (73,true)⟩,⟨some 76,(.callp Zep),[.t 75],some (73,true)⟩,⟨some 77,(.fad 3),[.t 2],some (73,true)⟩,⟨some 78,(.load false 1),[.t 77],some (73,true)⟩,⟨some 79,(.bin .gtr),[.t 76,.t 78],some (73,true)⟩,⟨some 80,.pick,[.t 73,.t 79,.c (.bool false)],some (64,false)⟩,⟨some 81,.pick,[.t 64,.c (.bool true),.t 80],none⟩]
def Zo0 : List Z2a := [
  ⟨some 4,.mov,[.c (.int .i64 4)],none⟩]
def Zo1 : List Z2a := [
  ⟨some 82,(.fad 4),[.t 3],none⟩,⟨some 83,(.load false 1),[.t 82],none⟩,⟨some 84,.lens,[.t 83],none⟩,⟨some 5,.mov,[.t 84],none⟩]
def Zo2 : List Z2a := [
  ⟨some 85,(.fad 0),[.t 2],none⟩,⟨some 86,(.load false 1),[.t 85],none⟩]
def Zo3 : List Z2a := [
  ⟨some 88,(.bin .eql),[.t 86,.c (.int .i64 10)],none⟩,⟨some 87,.mov,[.t 88],none⟩]
def Zo4 : List Z2a := [
  ⟨some 89,.mov,[.t 5],none⟩,⟨some 90,(.bin .gtr),[.t 89,.c (.int .i64 16384)],none⟩]
def Zo5 : List Z2a := [
  ⟨some 4,.mov,[.c (.int .i64 4)],none⟩]
def Zo6 : List Z2a := [
  ⟨some 92,(.bin .eql),[.t 86,.c (.int .i64 11)],none⟩,⟨some 91,.mov,[.t 92],none⟩]
def Zo7 : List Z2a := [
  ⟨some 93,.mov,[.t 5],none⟩,⟨some 94,(.bin .rem),[.t 93,.c (.int .i64 2)],none⟩,⟨some 95,(.bin .neq),[.t 94,.c (.int .i64 0)],none⟩]
def Zo8 : List Z2a := [
  ⟨some 4,.mov,[.c (.int .i64 1)],none⟩]
def Zo9 : List Z2a := [
  ⟨some 96,.mov,[.t 5],none⟩,⟨some 97,(.bin .gtr),[.t 96,.c (.int .i64 32768)],none⟩]
def Zoa : List Z2a := [
  ⟨some 4,.mov,[.c (.int .i64 4)],none⟩]
def Zob : List Z2a := [
  ⟨some 99,(.bin .eql),[.t 86,.c (.int .i64 12)],none⟩,⟨some 98,.mov,[.t 99],none⟩]
def Zoc : List Z2a := [
  ⟨some 100,.mov,[.t 5],none⟩,⟨some 101,(.fad 2),[.t 2],none⟩,⟨some 102,(.load false 1),[.t 101],none⟩,⟨some 103,.lens,[.t 102],none⟩,⟨some 104,(.bin .neq),[.t 100,.t 103],none⟩]
def Zod : List Z2a := [
  ⟨some 4,.mov,[.c (.int .i64 1)],none⟩]
def Zoe : List Z2a := [
  ⟨some 106,(.bin .eql),[.t 86,.c (.int .i64 13)],none⟩,⟨some 105,.mov,[.t 106],none⟩]
def Zof : List Z2a := [
  ⟨some 107,.mov,[.t 5],none⟩,⟨some 108,(.bin .neq),[.t 107,.c (.int .i64 1)],none⟩]
def Zog : List Z2a := [
  ⟨some 4,.mov,[.c (.int .i64 1)],none⟩]
def Zoh : List Z2a := [
  ⟨some 6,.mov,[.c (.int .i64 0)],none⟩]
def Zoi : List Z2a := [
  ⟨some 109,.mov,[.t 6],none⟩,⟨some 110,.mov,[.t 5],none⟩,⟨some 111,(.bin .lss),[.t 109,.t 110],none⟩]
def Zoj : List Z2a := [
  ⟨some 114,(.fad 0),[.t 2],none⟩,⟨some 115,(.load false 1),[.t 114],none⟩,⟨some 116,(.bin .eql),[.t 115,.c (.int .i64 11)],none⟩,⟨some 117,.mov,[.t 116],none⟩,⟨some 118,.mov,[.t 6],some (117,true)⟩,⟨some 119,(.bin .rem),[.t 118,.c (.int .i64 2)],some (117,true)⟩,⟨some 120,(.bin .eql),[.t 119,.c (.int .i64 0)],some (117,true)⟩,⟨some 121,.pick,[.t 117,.t 120,.c (.bool false)],none⟩,⟨some 122,.mov,[.t 121],none⟩,⟨some 123,(.fad 4),[.t 3],some (122,true)⟩,⟨some 124,(.load false 1),[.t 123],some (122,true)⟩,⟨some 125,.mov,[.t 6],some (122,true)⟩,⟨some 126,(.iad 5),[.t 124,.t 125],some (122,true)⟩,⟨some 127,(.fad 0),[.t 126],some (122,true)⟩,⟨some 128,(.load false 1),[.t 127],some (122,true)⟩,⟨some 129,.pick,[.t 122,.t 128,.c (.bool false)],none⟩]
def Zok : List Z2a := [
  ⟨some 4,.mov,[.c (.int .i64 1)],none⟩]
def Zol : List Z2a := [
  ⟨some 130,(.load true 6),[.t 2],none⟩,⟨some 131,(.load true 5),[.t 3],none⟩,⟨some 132,.mov,[.t 6],none⟩,⟨some 133,(.callp Zeq),[.t 130,.t 131,.t 132],none⟩,⟨some 134,(.fad 4),[.t 3],none⟩,⟨some 135,(.load false 1),[.t 134],none⟩,⟨some 136,.mov,[.t 6],none⟩,⟨some 137,(.iad 5),[.t 135,.t 136],none⟩,⟨some 138,(.load true 5),[.t 137],none⟩,⟨some 139,(.call Zde),[.t 133,.t 138],none⟩,⟨some 7,.mov,[.t 139],none⟩]
def Zom : List Z2a := [
  ⟨some 140,.mov,[.t 7],none⟩,⟨some 141,(.bin .neq),[.t 140,.c (.int .i64 0)],none⟩]
def Zon : List Z2a := [
  ⟨some 142,.mov,[.t 7],none⟩,⟨some 4,.mov,[.t 142],none⟩]
def Zoo : List Z2a := [
  ⟨some 112,.mov,[.t 6],none⟩,⟨some 113,(.bin .add),[.t 112,.c (.int .i64 1)],none⟩,⟨some 6,.mov,[.t 113],none⟩]
def Zop : Z2b := (.seq (.seq (.region Zoi [2,3,5,6,111,118,119,120,123,124,125,126,127,128]) (.cond (.t 111) .skip (.exit 1))) (.seq (.block 2 (.seq (.seq (.region Zoj [2,3,5,6,118,119,120,123,124,125,126,127,128,129]) (.cond (.t 129) (.seq (.region Zok [4]) .ret) .skip)) (.seq (.region Zol [2,3,5,6,7,118,119,120,123,124,125,126,127,128]) (.seq (.region Zom [2,3,5,6,7,118,119,120,123,124,125,126,127,128,141]) (.cond (.t 141) (.seq (.region Zon [4]) .ret) .skip))))) (.region Zoo [2,3,5,6,118,119,120,123,124,125,126,127,128])))
def Zoq : List Z2a := [
  ⟨some 4,.mov,[.c (.int .i64 0)],none⟩]
def Zor : Z2y := ⟨143,(.seq (.region Zns [2,3,14,15,16,19,20,21,22,25,26,27,28,38,39,40,41,42,43,44,45,46,47,50,51,52,53,54,55,56,57,58,65,66,67,68,69,70,71,72,73,74,75,76,77,78,79,80,118,119,120,123,124,125,126,127,128]) (.seq (.seq (.region Znt [2,3,9,14,15,16,19,20,21,22,25,26,27,28,38,39,40,41,42,43,44,45,46,47,50,51,52,53,54,55,56,57,58,65,66,67,68,69,70,71,72,73,74,75,76,77,78,79,80,118,119,120,123,124,125,126,127,128]) (.cond (.t 9) (.seq (.seq (.region Znu [29]) (.cond (.t 29) (.seq (.region Znv [4]) .ret) .skip)) (.seq (.region Znw [4]) .ret)) .skip)) (.seq (.seq (.region Znx [2,3,59,65,66,67,68,69,70,71,72,73,74,75,76,77,78,79,80,118,119,120,123,124,125,126,127,128]) (.cond (.t 59) (.seq (.region Zny [4]) .ret) .skip)) (.seq (.seq (.region Znz [2,3,81,118,119,120,123,124,125,126,127,128]) (.cond (.t 81) (.seq (.region Zo0 [4]) .ret) .skip)) (.seq (.region Zo1 [2,3,5,118,119,120,123,124,125,126,127,128]) (.seq (.seq (.region Zo2 [2,3,5,86,118,119,120,123,124,125,126,127,128]) (.block 0 (.seq (.region Zo3 [2,3,5,86,87,118,119,120,123,124,125,126,127,128]) (.cond (.t 87) (.seq (.region Zo4 [2,3,5,90,118,119,120,123,124,125,126,127,128]) (.cond (.t 90) (.seq (.region Zo5 [4]) .ret) .skip)) (.seq (.region Zo6 [2,3,5,86,91,118,119,120,123,124,125,126,127,128]) (.cond (.t 91) (.seq (.seq (.region Zo7 [2,3,5,95,118,119,120,123,124,125,126,127,128]) (.cond (.t 95) (.seq (.region Zo8 [4]) .ret) .skip)) (.seq (.region Zo9 [2,3,5,97,118,119,120,123,124,125,126,127,128]) (.cond (.t 97) (.seq (.region Zoa [4]) .ret) .skip))) (.seq (.region Zob [2,3,5,86,98,118,119,120,123,124,125,126,127,128]) (.cond (.t 98) (.seq (.region Zoc [2,3,5,104,118,119,120,123,124,125,126,127,128]) (.cond (.t 104) (.seq (.region Zod [4]) .ret) .skip)) (.seq (.region Zoe [2,3,5,105,118,119,120,123,124,125,126,127,128]) (.cond (.t 105) (.seq (.region Zof [2,3,5,108,118,119,120,123,124,125,126,127,128]) (.cond (.t 108) (.seq (.region Zog [4]) .ret) .skip)) .skip)))))))))) (.seq (.seq (.region Zoh [2,3,5,6,118,119,120,123,124,125,126,127,128]) (.block 1 (.loop Zop))) (.seq (.region Zoq [4]) .ret)))))))),[.t 4]⟩
def Zql : List Z2a := [
  ⟨some 2,.mov,[.c (.bool false)],none⟩]
def Zqm : List Z2a := [
  ⟨some 3,.mov,[.t 0],none⟩]
def Zqn : List Z2a := [
  ⟨some 5,(.bin .eql),[.t 3,.c (.int .i64 7)],none⟩,⟨some 4,.mov,[.t 5],none⟩]
def Zqo : List Z2a := [
  ⟨some 6,(.bin .eql),[.t 3,.c (.int .i64 8)],none⟩,⟨some 4,.mov,[.t 6],none⟩]
def Zqp : List Z2a := [
  ⟨some 8,(.bin .eql),[.t 3,.c (.int .i64 16)],none⟩,⟨some 7,.mov,[.t 8],none⟩]
def Zqq : List Z2a := [
  ⟨some 9,(.bin .eql),[.t 3,.c (.int .i64 17)],none⟩,⟨some 7,.mov,[.t 9],none⟩]
def Zqr : List Z2a := [
  ⟨some 2,.mov,[.c (.bool true)],none⟩]
def Zqs : List Z2a := [
  ⟨some 2,.mov,[.c (.bool false)],none⟩]
def Zqt : Z2y := ⟨10,(.seq (.region Zql [0]) (.seq (.seq (.region Zqm [3]) (.block 0 (.seq (.block 2 (.block 1 (.seq (.seq (.seq (.seq (.region Zqn [3,4]) (.cond (.t 4) .skip (.region Zqo [3,4]))) (.cond (.t 4) (.exit 1) .skip)) (.seq (.seq (.region Zqp [3,7]) (.cond (.t 7) .skip (.region Zqq [7]))) (.cond (.t 7) (.exit 2) .skip))) (.exit 0)))) (.seq (.seq (.region Zqr [2]) .ret) (.exit 0))))) (.seq (.region Zqs [2]) .ret))),[.t 2]⟩
def Zs5 : List Z2a := [
  ⟨some 2,.mov,[.c (.slc 0 [] true)],none⟩]
def Zs6 : List Z2a := [
  ⟨some 3,.mov,[.t 0],none⟩,⟨some 4,.mov,[.t 0],none⟩,⟨some 5,.lens,[.t 4],none⟩,⟨some 6,.mov,[.t 0],none⟩,⟨some 7,.lens,[.t 6],none⟩,⟨some 8,(.clip 1),[.t 3,.t 5,.t 7],none⟩,⟨some 2,.mov,[.t 8],none⟩]
def Zs7 : Z2y := ⟨9,(.seq (.region Zs5 [0]) (.seq (.region Zs6 [2]) .ret)),[.t 2]⟩
def Zs8 : List Z2a := [
  ⟨some 2,.mov,[.c (.slc 0 [] true)],none⟩]
def Zs9 : List Z2a := [
  ⟨some 3,.mov,[.t 0],none⟩,⟨some 4,(.isnil false),[.t 3,.c (.slc 0 [] true)],none⟩]
def Zsa : List Z2a := [
  ⟨some 2,.mov,[.c (.slc 0 [] true)],none⟩]
def Zsb : List Z2a := [
  ⟨some 5,(.bsl 1),[],none⟩,⟨some 6,.mov,[.t 0],none⟩,⟨some 7,(.app 1 1),[.t 5,.t 6],none⟩,⟨some 2,.mov,[.t 7],none⟩]
def Zsc : Z2y := ⟨8,(.seq (.region Zs8 [0]) (.seq (.seq (.region Zs9 [0,4]) (.cond (.t 4) (.seq (.region Zsa [2]) .ret) .skip)) (.seq (.region Zsb [2]) .ret))),[.t 2]⟩
def Zsd : List Z2a := [
  ⟨some 2,.mov,[.c (.slc 0 [] true)],none⟩]
def Zse : List Z2a := [
  ⟨some 3,.mov,[.t 0],none⟩,⟨some 4,.mov,[.t 0],none⟩,⟨some 5,.lens,[.t 4],none⟩,⟨some 6,.mov,[.t 0],none⟩,⟨some 7,.lens,[.t 6],none⟩,⟨some 8,(.clip 5),[.t 3,.t 5,.t 7],none⟩,⟨some 2,.mov,[.t 8],none⟩]
def Zsf : Z2y := ⟨9,(.seq (.region Zsd [0]) (.seq (.region Zse [2]) .ret)),[.t 2]⟩
end Go.Abs
namespace Go.Abs
open Go Go.Proofs
theorem Zx7 : Z2z Try.prog [] Zdl = some Zuj.erase := by kernel_rfl
theorem Zx9 : Z2z Try.prog [] Zew = some Zuv.erase := by kernel_rfl
theorem Zxa : Z2z Try.prog [] Zfy = some Zv5.erase := by kernel_rfl
theorem Zt0 : Z2z Try.prog [(30, 3), (7, 16)] Zde = some Zor.erase := by kernel_rfl
theorem Zt7 : Z2z Try.prog [] Zfi = some Zqt.erase := by kernel_rfl
theorem Ztd : Z2z Try.prog [] Zfp = some Zs7.erase := by kernel_rfl
theorem Zte : Z2z Try.prog [] Zfq = some Zsc.erase := by kernel_rfl
theorem Ztf : Z2z Try.prog [] Zfr = some Zsf.erase := by kernel_rfl
end Go.Abs
namespace Go.Abs
open Go Go.Proofs
set_option linter.unusedVariables false
set_option linter.unusedSimpArgs false
set_option maxHeartbeats 4000000
attribute [local irreducible] AWp aops KP
inductive Ty.Small : Ty → Prop
  | mk {t : Ty} (h1 : t.kids.length ≤ 300) (h2 : t.names.length ≤ 300) (h4 : ∀ s ∈ t.names, s.length ≤ 100) (h : ∀ k ∈ t.kids, Ty.Small k) : Ty.Small t
theorem Ty.Small.fit : ∀ t : Ty, t.Small → t.Fit := by
  refine Ty.ind fun k ns ks l p s ih h => ?_
  cases h with
  | mk h1 h2 h4 h3 => exact .mk (by omega) (by omega) (fun s hs => Nat.le_trans (h4 s hs) (by unfold maxLen; omega)) fun t ht => ih t ht (h3 t ht)
theorem Znc : ∀ ks : List Ty, ks.length ≤ cntL ks
  | [] => by simp [cntL]
  | .mk k ns ks l p s :: ts => by have := Znc ts; simp only [List.length_cons, cntL, cnt]; omega
theorem Znd : ∀ (t : Ty) (deep n : Nat), (chk deep n t).2 = 0 → (chk deep n t).1 = n + cnt t ∧ t.Small ∧ n + cnt t ≤ 100 := by
  refine Ty.ind fun k ns ks l p s ih deep n h => ?_
  have hL : ∀ (ks : List Ty), (∀ t ∈ ks, ∀ (deep n : Nat), (chk deep n t).2 = 0 → (chk deep n t).1 = n + cnt t ∧ t.Small ∧ n + cnt t ≤ 100) → ∀ deep n, n ≤ 100 → (chkL deep n ks).2 = 0 → (chkL deep n ks).1 = n + cntL ks ∧ (∀ t ∈ ks, t.Small) ∧ n + cntL ks ≤ 100 := by
    intro ks
    induction ks with
    | nil => intro _ deep n hn h; simp [chkL, cntL]; exact hn
    | cons t ts ih2 =>
      intro ht deep n hn h
      rw [chkL] at h ⊢
      split at h
      · rename_i hne; exact absurd h hne
      · rename_i hne
        rw [if_neg hne]
        have h1 := ht t (by simp) deep n (by simpa using hne)
        have h2 := ih2 (fun t ht' => ht t (by simp [ht'])) deep (chk deep n t).1 (by omega) h
        refine ⟨by rw [h2.1, h1.1, cntL]; omega, fun u hu => ?_, by rw [cntL]; have := h2.2.2; omega⟩
        rcases List.mem_cons.1 hu with rfl | hu
        · exact h1.2.1
        · exact h2.2.1 u hu
  rw [chk] at h ⊢
  split at h
  · simp at h
  · rename_i hc
    rw [if_neg hc]
    split at h
    · rename_i ho; exact absurd h ho
    · rename_i ho
      rw [if_neg ho]
      have h1 := hL ks ih (deep + 1) (n + 1) (by omega) h
      have hlen := Znc ks
      refine ⟨by rw [h1.1, cnt]; omega, .mk ?_ ?_ ?_ ?_, by rw [cnt]; have := h1.2.2; omega⟩
      · show ks.length ≤ 300
        have := h1.2.2; omega
      · show ns.length ≤ 300
        simp only [ne_eq, Decidable.not_not, ownF] at ho
        split at ho
        · cases ho
        · split at ho
          · cases ho
          · rename_i hr
            simp only [not_or, Bool.not_eq_false] at hr
            have hr' := hr.2.2
            simp only [Zlw, Bool.and_eq_true, Bool.or_eq_true, decide_eq_true_eq, List.isEmpty_iff] at hr'
            obtain ⟨⟨⟨⟨q1, q2⟩, _⟩, _⟩, _⟩ := hr'
            rcases q2 with q2 | q2
            · subst q2
              simp [Zlv] at q1
              have := h1.2.2; omega
            · rw [q2]; simp
      · show ∀ s ∈ ns, s.length ≤ 100
        simp only [ne_eq, Decidable.not_not, ownF] at ho
        split at ho
        · cases ho
        · split at ho
          · cases ho
          · rename_i hr
            simp only [not_or, Bool.not_eq_false] at hr
            have hr' := hr.2.2
            simp only [Zlw, Bool.and_eq_true, Zlu, List.all_eq_true, decide_eq_true_eq] at hr'
            exact fun s hs => (hr'.1.1.2.1 s hs).2
      · exact h1.2.1
theorem Zne : ∀ (ks : List Ty) (a i : Nat) (t : Ty), ks[i]? = some t → Zly a (ks.take (i + 1)) = Zly a (ks.take i) ++ [a + cntL (ks.take i)]
  | [], a, i, t, h => by simp at h
  | u :: ks, a, 0, t, h => by simp [Zly, cntL]
  | u :: ks, a, i + 1, t, h => by
    simp only [List.take_succ_cons, Zly, cntL, List.cons_append]
    rw [Zne ks (a + cnt u) i t (by simpa using h), Nat.add_assoc]
theorem Znf : ∀ (ks : List Ty) (a i : Nat) (parent : Int) (deep : Nat) (t : Ty), ks[i]? = some t → Zm0 a parent deep (ks.take (i + 1)) = Zm0 a parent deep (ks.take i) ++ Zlz (a + cntL (ks.take i)) parent deep t
  | [], a, i, _, _, t, h => by simp at h
  | u :: ks, a, 0, _, _, t, h => by simp at h; subst h; simp [Zm0, cntL]
  | u :: ks, a, i + 1, parent, deep, t, h => by
    simp only [List.take_succ_cons, Zm0, cntL, List.append_assoc]
    rw [Znf ks (a + cnt u) i parent deep t (by simpa using h), Nat.add_assoc]
theorem Zng : ∀ (ks : List Ty) (a : Nat) (parent : Int) (deep : Nat), (Zm0 a parent deep ks).length = cntL ks
  | [], _, _, _ => rfl
  | t :: ts, a, parent, deep => by rw [Zm0, List.length_append, Zm1, Zng ts, cntL]
theorem Znh : ∀ (ks : List Ty) (i : Nat) (t : Ty), ks[i]? = some t → cntL (ks.take (i + 1)) = cntL (ks.take i) + cnt t ∧ cntL (ks.take i) + cnt t ≤ cntL ks
  | [], i, t, h => by simp at h
  | u :: ks, 0, t, h => by simp at h; subst h; simp [cntL]
  | u :: ks, i + 1, t, h => by
    have := Znh ks i t (by simpa using h)
    simp only [List.take_succ_cons, cntL]
    omega
theorem Zni (ns : List (List UInt8)) : ∀ x ∈ ns.map Z0.str, x.elem 1 := fun x hx => by
  obtain ⟨s, _, rfl⟩ := List.mem_map.1 hx
  exact ⟨rfl, fun c hc => by rw [List.mem_singleton.1 hc]; rfl⟩
end Go.Abs
namespace Go.Abs
open Go Go.Proofs
set_option linter.unusedVariables false
set_option linter.unusedSimpArgs false
set_option maxHeartbeats 4000000
inductive Ty.Ok : Ty → Prop
  | mk {t : Ty} (h1 : ownF t.kind t.names t.kids.length t.len t.prec t.scale = 0) (h : ∀ k ∈ t.kids, Ty.Ok k) : Ty.Ok t
inductive Vl.Fit : Vl → Prop
  | mk {v : Vl} (h1 : -9223372036854775808 ≤ v.i ∧ v.i ≤ 9223372036854775807) (h2 : v.b.length ≤ 9223372036854775807) (h3 : v.kids.length ≤ 9223372036854775807) (h : ∀ k ∈ v.kids, Vl.Fit k) : Vl.Fit v
theorem Ztu : ∀ (t : Ty) (deep n : Nat), (chk deep n t).2 = 0 → t.Ok := by
  refine Ty.ind fun k ns ks l p s ih deep n h => ?_
  have hL : ∀ (ks : List Ty), (∀ t ∈ ks, ∀ (deep n : Nat), (chk deep n t).2 = 0 → t.Ok) → ∀ deep n, (chkL deep n ks).2 = 0 → ∀ t ∈ ks, t.Ok := by
    intro ks
    induction ks with
    | nil => intro _ deep n h t ht; cases ht
    | cons t ts ih2 =>
      intro ht deep n h u hu
      rw [chkL] at h
      split at h
      · rename_i hne; exact absurd h hne
      · rename_i hne
        rcases List.mem_cons.1 hu with rfl | hu
        · exact ht u (by simp) deep n (by simpa using hne)
        · exact ih2 (fun t ht' => ht t (by simp [ht'])) deep _ h u hu
  rw [chk] at h
  split at h
  · simp at h
  · split at h
    · rename_i ho; exact absurd h ho
    · rename_i ho
      refine .mk ?_ (hL ks ih (deep + 1) (n + 1) h)
      show ownF k ns ks.length l p s = 0
      simpa using ho
theorem Ty.Ok.kinds {t : Ty} (h : t.Ok) : Zlv t.kind t.names.length t.kids.length = true ∧ 0 ≤ t.kind ∧ t.kind ≤ 17 := by
  cases h with
  | mk h1 _ =>
    rw [ownF] at h1
    split at h1
    · cases h1
    · split at h1
      · cases h1
      · rename_i hr
        simp only [not_or, Bool.not_eq_false] at hr
        have := hr.2.2
        simp only [Zlw, Bool.and_eq_true] at this
        exact ⟨this.1.1.1.1, by omega, by omega⟩
theorem Ztv {t : Ty} (h : t.Ok) {i n : Int} {b : List UInt8} {ks j : Nat} (ho : ownV t i n b ks = 0) (hj : j < ks) : Zmf t.kind i j < t.kids.length ∧ (t.kind = 13 → 0 ≤ i) := by
  obtain ⟨h1, h2, h3⟩ := h.kinds
  simp only [ownV] at ho
  split at ho
  · cases ho
  rename_i hA
  simp only [not_or, not_and, Bool.not_eq_false, Bool.not_eq_true] at hA
  obtain ⟨a1, _, a3⟩ := hA
  have hleaf := a3 (by omega)
  simp only [Zlt, Bool.not_eq_false', Bool.or_eq_true, decide_eq_true_eq] at hleaf
  split at ho
  · cases ho
  simp only [Zlv] at h1
  simp only [Zmf]
  by_cases k10 : t.kind = 10
  · rw [if_pos k10] at h1 ⊢
    simp at h1
    exact ⟨by omega, by omega⟩
  rw [if_neg k10] at h1 ⊢
  by_cases k11 : t.kind = 11
  · rw [if_pos k11] at h1 ⊢
    simp at h1
    exact ⟨by omega, by omega⟩
  rw [if_neg k11] at h1 ⊢
  by_cases k13 : t.kind = 13
  · rw [if_pos k13]
    have : decide (0 ≤ i ∧ i < (t.kids.length : Int)) = true := by
      rw [Zme] at a1
      split at a1
      · cases a1
      · simpa [k13] using a1
    simp at this
    exact ⟨by omega, fun _ => this.1⟩
  rw [if_neg k13]
  have k12 : t.kind = 12 := by omega
  rw [if_neg k10, if_neg k11, if_pos k12] at ho
  split at ho
  · cases ho
  · exact ⟨by omega, fun h => absurd h k13⟩
theorem Ztw {t : Ty} (h : t.Ok) {i : Int} {j : Nat} (hlt : Zmf t.kind i j < t.kids.length) : (kidT t i j).Ok := by
  cases h with
  | mk _ hk =>
    refine hk _ ?_
    rw [kidT, List.getD_eq_getElem?_getD, List.getElem?_eq_getElem hlt]
    exact List.getElem_mem hlt
theorem Ztx (t : Ty) (i : Int) : ∀ (ks : List Vl) (j : Nat) (v : Vl), ks[j]? = some v → Zmg t i j (ks.drop j) = if t.kind = 11 ∧ j % 2 = 0 ∧ v.null = true then 1 else if vchk (kidT t i j) v ≠ 0 then vchk (kidT t i j) v else Zmg t i (j + 1) (ks.drop (j + 1)) := by
  intro ks j v h
  obtain ⟨hj, rfl⟩ := List.getElem?_eq_some_iff.1 h
  rw [List.drop_eq_getElem_cons hj, Zmg]
theorem Zty : ∀ (v : Vl) (t : Ty), vchk t v ≤ 4 := by
  refine Vl.ind fun nu i n b ks ih t => ?_
  have hL : ∀ (ks : List Vl), (∀ v ∈ ks, ∀ t : Ty, vchk t v ≤ 4) → ∀ j, Zmg t i j ks ≤ 4 := by
    intro ks
    induction ks with
    | nil => intro _ j; simp [Zmg]
    | cons v vs ih2 =>
      intro h j
      rw [Zmg]
      split
      · omega
      · split
        · exact h v (by simp) _
        · exact ih2 (fun v hv => h v (by simp [hv])) _
  rw [vchk]
  split
  · split <;> omega
  · split
    · simp only [ownV]; (repeat' split) <;> omega
    · exact hL ks ih 0
attribute [local irreducible] AWp aops
theorem Ztz : ∀ (v : Vl), v.Fit → ∀ (t : Ty), t.Ok → ∀ σ, Z1q Try.prog Zde [encT t, encV v] σ fun r σ' => r = .int .i64 (vchk t v : Int) ∧ σ' = σ := by
  refine Vl.ind fun nu i n bs vks ih hfit t hok σ => ?_
  cases hfit with
  | mk hi hbl hkl hkids =>
  have hka := fun (j : Nat) (hj : j < vks.length) (ho : ownV t i n bs vks.length = 0) => Ztv hok ho hj
  have hko := fun (j : Nat) (hlt : Zmf t.kind i j < t.kids.length) => Ztw (i := i) (j := j) hok hlt
  have hnum := Zts t i n hi.1 hi.2
  have hkid := fun (j : Nat) (hj : j ≤ 9223372036854775807) => Ztt t i n nu bs vks j hj
  obtain ⟨k, ns, ks, l, p, s⟩ := t
  simp only [encT, encV, Ty.kind, Ty.kids, Ty.prec, Vl.i, Vl.b, Vl.kids] at *
  refine Z8t rfl Zt0 (Nat.le_of_ble_eq_true rfl) ?_
  refine Z9z ?_
  refine Z9j rfl (Kfi rfl) fun b1 hb1 => ?_
  refine Z9j rfl (Kfi rfl) fun b2 hb2 => ?_
  (repeat (refine st_q rfl rfl rfl ?_))
  (refine Z8y ?_; (repeat (first | refine Z9v rfl ?_ | refine Z9w ?_)); refine Z9u ?_)
  refine Zb3 (d := 3) (cs := [.bool nu, .int .i64 i, .int .i64 n, .slc 1 (bytes bs) false, .slc 5 (Zm5 vks) false]) rfl ?_
  refine Zb3 (d := 2) (cs := [.int .i64 k, .slc 1 (ns.map .str) false, .slc 6 (Zln ks) false, .int .i64 l, .int .i64 p, .int .i64 s]) rfl ?_
  (refine Z9y (keep := [2, 3]) ?_; ((repeat (first | refine Z9v rfl ?_ | refine Z9w ?_)); refine Z9u ?_))
  generalize hX : vchk (.mk k ns ks l p s) (.mk nu i n bs vks) = X
  have hX' := hX
  rw [vchk] at hX'
  have ret : ∀ (x : Nat) (R : Z87) (F : Z26), F 4 = some (.int .i64 (x : Int)) → X = x → (∀ F τ, R .ret F τ = ARet Zor.res (fun r σ' => r = .int .i64 (X : Int) ∧ σ' = σ) .ret F τ) → AWp Try.prog Zor.n .ret R F σ := by
    intro x R F hF hx hR
    refine Z8d ?_
    rw [hR]
    exact ares (vs := [.int .i64 (x : Int)]) (by simp [Z8l, Z8k, Zor, hF]) (HSub.refl _) ⟨by rw [hx]; rfl, rfl⟩
  cases nu with
  | true =>
    rw [if_pos rfl] at hX'
    (repeat (first | refine st_q rfl rfl rfl ?_ | (refine Z8y ?_; (repeat (first | refine Z9v rfl ?_ | refine Z9w ?_)); refine Z9u ?_) | refine awp_seq ?_ | refine Zbm (fun _ _ => rfl) ?_ | refine Kc1 rfl ?_))
    by_cases q1 : i = 0
    · (rw [decide_eq_false (p := i ≠ 0) (by omega)])
      (repeat (first | refine st_q rfl rfl rfl ?_ | refine Z8v rfl (st_q rfl rfl rfl ?_)))
      by_cases q2 : n = 0
      · (rw [decide_eq_false (p := n ≠ 0) (by omega)])
        (repeat (first | refine st_q rfl rfl rfl ?_ | refine Z8v rfl (st_q rfl rfl rfl ?_)))
        rw [Zam]
        by_cases q3 : bs = []
        · rw [show decide ((0 : Int) < ((bs.length : Nat) : Int)) = false from decide_eq_false (by rw [q3]; simp)]
          (repeat (first | refine st_q rfl rfl rfl ?_ | refine Z8v rfl (st_q rfl rfl rfl ?_) | (refine Z8y ?_; (repeat (first | refine Z9v rfl ?_ | refine Z9w ?_)); refine Z9u ?_)))
          rw [Zm9]
          by_cases q4 : vks.length = 0
          · (rw [decide_eq_false (p := (0 : Int) < ((vks.length : Nat) : Int)) (by omega)])
            (repeat (first | refine st_q rfl rfl rfl ?_ | (refine Z8y ?_; (repeat (first | refine Z9v rfl ?_ | refine Z9w ?_)); refine Z9u ?_) | refine awp_seq ?_ | refine Zbm (fun _ _ => rfl) ?_ | refine Zbn (fun _ _ => rfl) ?_ | refine Kc2 rfl ?_))
            exact ret 0 _ _ rfl (by rw [← hX']; simp [q1, q2, q3, q4]) fun _ _ => rfl
          · (rw [decide_eq_true (p := (0 : Int) < ((vks.length : Nat) : Int)) (by omega)])
            (repeat (first | refine st_q rfl rfl rfl ?_ | (refine Z8y ?_; (repeat (first | refine Z9v rfl ?_ | refine Z9w ?_)); refine Z9u ?_) | refine awp_seq ?_ | refine Zbm (fun _ _ => rfl) ?_ | refine Kc1 rfl ?_))
            exact ret 1 _ _ rfl (by rw [← hX']; simp [q4]) fun _ _ => rfl
        · have := List.length_pos_iff.2 q3
          (rw [decide_eq_true (p := (0 : Int) < ((bs.length : Nat) : Int)) (by omega)])
          (repeat (first | refine st_q rfl rfl rfl ?_ | refine Z8w rfl ?_ | (refine Z8y ?_; (repeat (first | refine Z9v rfl ?_ | refine Z9w ?_)); refine Z9u ?_) | refine awp_seq ?_ | refine Zbm (fun _ _ => rfl) ?_ | refine Kc1 rfl ?_))
          exact ret 1 _ _ rfl (by rw [← hX']; simp [q3]) fun _ _ => rfl
      · (rw [decide_eq_true (p := n ≠ 0) (by omega)])
        (repeat (first | refine st_q rfl rfl rfl ?_ | refine Z8w rfl ?_ | (refine Z8y ?_; (repeat (first | refine Z9v rfl ?_ | refine Z9w ?_)); refine Z9u ?_) | refine awp_seq ?_ | refine Zbm (fun _ _ => rfl) ?_ | refine Kc1 rfl ?_))
        exact ret 1 _ _ rfl (by rw [← hX']; simp [q2]) fun _ _ => rfl
    · (rw [decide_eq_true (p := i ≠ 0) (by omega)])
      (repeat (first | refine st_q rfl rfl rfl ?_ | refine Z8w rfl ?_ | (refine Z8y ?_; (repeat (first | refine Z9v rfl ?_ | refine Z9w ?_)); refine Z9u ?_) | refine awp_seq ?_ | refine Zbm (fun _ _ => rfl) ?_ | refine Kc1 rfl ?_))
      exact ret 1 _ _ rfl (by rw [← hX']; simp [q1]) fun _ _ => rfl
  | false =>
    rw [if_neg (by simp)] at hX'
    have bad : ∀ x : Nat, x ≠ 0 → ownV (.mk k ns ks l p s) i n bs vks.length = x → X = x := fun x hx h => by rw [← hX', h, if_pos hx]
    have hO : ownV (.mk k ns ks l p s) i n bs vks.length = (if Zme k ks.length p i n = false ∨ (bs ≠ [] ∧ Zmb k = false) ∨ (vks.length ≠ 0 ∧ Zlt k = true) then 1
      else if 4096 < bs.length ∨ ((k = 16 ∨ k = 17) ∧ l < (Zmc bs : Int)) then 4
      else if k = 10 then (if 16384 < vks.length then 4 else 0)
      else if k = 11 then (if vks.length % 2 ≠ 0 then 1 else if 32768 < vks.length then 4 else 0)
      else if k = 12 then (if vks.length ≠ ks.length then 1 else 0)
      else if k = 13 then (if vks.length ≠ 1 then 1 else 0)
      else 0) := rfl
    refine awp_seq ?_
    refine awp_seq ?_
    refine Zbm (fun _ _ => rfl) ?_
    (repeat (refine st_q rfl rfl rfl ?_))
    (refine Z8y ?_; (repeat (first | refine Z9v rfl ?_ | refine Z9w ?_)); refine Z9u ?_)
    refine Kc2 rfl ?_
    refine Zbn (fun _ _ => rfl) ?_
    refine awp_seq ?_
    refine awp_seq ?_
    refine Zae (fun F' σ' => σ' = σ ∧ ∃ d : Bool, (d = true ↔ (Zme k ks.length p i n = false ∨ (bs ≠ [] ∧ Zmb k = false) ∨ (vks.length ≠ 0 ∧ Zlt k = true))) ∧
      KP [2, 3, 59] F' fun G => G = fset 2 (some (.iptr [.int .i64 k, .slc 1 (ns.map .str) false, .slc 6 (Zln ks) false, .int .i64 l, .int .i64 p, .int .i64 s])) (fset 3 (some (.iptr [.bool false, .int .i64 i, .int .i64 n, .slc 1 (bytes bs) false, .slc 5 (Zm5 vks) false])) (fset 59 (some (.bool d)) Z27))) ?_ ?_
    · (repeat refine st_q rfl rfl rfl ?_)
      refine Z9t rfl (hnum _) ?_
      cases hN : Zme k ks.length p i n with
      | false =>
        (repeat (first | refine st_q rfl rfl rfl ?_ | refine Z8w rfl ?_ | refine Z8x rfl ?_))
        refine Z8y ⟨rfl, true, by simp, ?_⟩
        ((repeat (first | refine Z9v rfl ?_ | refine Z9w ?_)); refine Z9u ?_)
        rfl
      | true =>
        (repeat (first | refine st_q rfl rfl rfl ?_ | refine Z8v rfl (st_q rfl rfl rfl ?_)))
        rw [Zam]
        have t3 : ∀ d : Bool, (d = true ↔ (vks.length ≠ 0 ∧ Zlt k = true)) → (bs = [] ∨ Zmb k = true) → (d = true ↔ (true = false ∨ (bs ≠ [] ∧ Zmb k = false) ∨ (vks.length ≠ 0 ∧ Zlt k = true))) := by
          intro d hd hb
          rw [hd]
          constructor
          · exact fun h => .inr (.inr h)
          · rintro (h | h | h)
            · cases h
            · rcases hb with hb | hb
              · exact absurd hb h.1
              · rw [hb] at h; simp at h
            · exact h
        by_cases q3 : bs = []
        · rw [show decide ((0 : Int) < ((bs.length : Nat) : Int)) = false from decide_eq_false (by rw [q3]; simp)]
          (repeat (first | refine st_q rfl rfl rfl ?_ | refine Z8v rfl (st_q rfl rfl rfl ?_) | refine Z8w rfl ?_))
          rw [Zm9]
          by_cases q4 : vks.length = 0
          · (rw [decide_eq_false (p := (0 : Int) < ((vks.length : Nat) : Int)) (by omega)])
            (repeat (first | refine st_q rfl rfl rfl ?_ | refine Z8v rfl (st_q rfl rfl rfl ?_) | refine Z8w rfl ?_))
            refine Z8y ⟨rfl, false, t3 _ (by simp [q4]) (.inl q3), ?_⟩
            ((repeat (first | refine Z9v rfl ?_ | refine Z9w ?_)); refine Z9u ?_)
            rfl
          · (rw [decide_eq_true (p := (0 : Int) < ((vks.length : Nat) : Int)) (by omega)])
            (repeat refine Z8v rfl (st_q rfl rfl rfl ?_))
            refine Z8v rfl (Z9t rfl (Ztm k _) ?_)
            (repeat (first | refine st_q rfl rfl rfl ?_ | refine Z8v rfl (st_q rfl rfl rfl ?_)))
            refine Z8y ⟨rfl, Zlt k, t3 _ (by simp [q4]) (.inl q3), ?_⟩
            ((repeat (first | refine Z9v rfl ?_ | refine Z9w ?_)); refine Z9u ?_)
            rfl
        · have hbp := List.length_pos_iff.2 q3
          (rw [decide_eq_true (p := (0 : Int) < ((bs.length : Nat) : Int)) (by omega)])
          (repeat refine Z8v rfl (st_q rfl rfl rfl ?_))
          refine Z8v rfl (Z9t rfl (Ztl k _) ?_)
          cases hT : Zmb k with
          | false =>
            (repeat (first | refine st_q rfl rfl rfl ?_ | refine Z8v rfl (st_q rfl rfl rfl ?_) | refine Z8w rfl ?_ | refine Z8x rfl ?_))
            refine Z8y ⟨rfl, true, by simp [q3], ?_⟩
            ((repeat (first | refine Z9v rfl ?_ | refine Z9w ?_)); refine Z9u ?_)
            rfl
          | true =>
            rw [hT] at t3
            (repeat (first | refine st_q rfl rfl rfl ?_ | refine Z8v rfl (st_q rfl rfl rfl ?_)))
            rw [Zm9]
            by_cases q4 : vks.length = 0
            · (rw [decide_eq_false (p := (0 : Int) < ((vks.length : Nat) : Int)) (by omega)])
              (repeat (first | refine st_q rfl rfl rfl ?_ | refine Z8v rfl (st_q rfl rfl rfl ?_) | refine Z8w rfl ?_))
              refine Z8y ⟨rfl, false, t3 _ (by simp [q4]) (.inr rfl), ?_⟩
              ((repeat (first | refine Z9v rfl ?_ | refine Z9w ?_)); refine Z9u ?_)
              rfl
            · (rw [decide_eq_true (p := (0 : Int) < ((vks.length : Nat) : Int)) (by omega)])
              (repeat refine Z8v rfl (st_q rfl rfl rfl ?_))
              refine Z8v rfl (Z9t rfl (Ztm k _) ?_)
              (repeat (first | refine st_q rfl rfl rfl ?_ | refine Z8v rfl (st_q rfl rfl rfl ?_)))
              refine Z8y ⟨rfl, Zlt k, t3 _ (by simp [q4]) (.inr rfl), ?_⟩
              ((repeat (first | refine Z9v rfl ?_ | refine Z9w ?_)); refine Z9u ?_)
              rfl
    rintro F' σ1 ⟨rfl, d, hd, G, hG, rfl⟩
    refine Z9y (keep := [2, 3, 59]) ⟨_, hG, ?_⟩
    cases d with
    | true =>
      (repeat (first | refine st_q rfl rfl rfl ?_ | (refine Z8y ?_; (repeat (first | refine Z9v rfl ?_ | refine Z9w ?_)); refine Z9u ?_) | refine awp_seq ?_ | refine Zbm (fun _ _ => rfl) ?_ | refine Kc1 rfl ?_))
      exact ret 1 _ _ rfl (bad 1 (by decide) (by rw [hO, if_pos (hd.1 rfl)])) fun _ _ => rfl
    | false =>
      have hA : ¬ (Zme k ks.length p i n = false ∨ (bs ≠ [] ∧ Zmb k = false) ∨ (vks.length ≠ 0 ∧ Zlt k = true)) := fun h => by have := hd.2 h; cases this
      rw [if_neg hA] at hO
      refine Kc2 rfl ?_
      refine Zbn (fun _ _ => rfl) ?_
      refine awp_seq ?_
      refine awp_seq ?_
      refine Zae (fun F' σ' => σ' = σ1 ∧ ∃ d : Bool, (d = true ↔ (4096 < bs.length ∨ ((k = 16 ∨ k = 17) ∧ l < (Zmc bs : Int)))) ∧
        KP [2, 3, 81] F' fun G => G = fset 2 (some (.iptr [.int .i64 k, .slc 1 (ns.map .str) false, .slc 6 (Zln ks) false, .int .i64 l, .int .i64 p, .int .i64 s])) (fset 3 (some (.iptr [.bool false, .int .i64 i, .int .i64 n, .slc 1 (bytes bs) false, .slc 5 (Zm5 vks) false])) (fset 81 (some (.bool d)) Z27))) ?_ ?_
      · (repeat refine st_q rfl rfl rfl ?_)
        rw [Zam]
        by_cases q1 : 4096 < bs.length
        · (rw [decide_eq_true (p := (4096 : Int) < ((bs.length : Nat) : Int)) (by omega)])
          (repeat (first | refine st_q rfl rfl rfl ?_ | refine Z8w rfl ?_ | refine Z8x rfl ?_))
          refine Z8y ⟨rfl, true, by simp [q1], ?_⟩
          ((repeat (first | refine Z9v rfl ?_ | refine Z9w ?_)); refine Z9u ?_)
          rfl
        · (rw [decide_eq_false (p := (4096 : Int) < ((bs.length : Nat) : Int)) (by omega)])
          (repeat refine Z8v rfl (st_q rfl rfl rfl ?_))
          by_cases q2 : k = 16
          · (rw [decide_eq_true (p := k = 16) (by omega)])
            (repeat (first | refine Z8v rfl (st_q rfl rfl rfl ?_) | refine Z8w rfl ?_))
            refine Z8v rfl (Zbw rfl (fun σ => Ztr bs false hbl σ) ?_)
            (repeat (first | refine st_q rfl rfl rfl ?_ | refine Z8v rfl (st_q rfl rfl rfl ?_)))
            refine Z8y ⟨rfl, decide (l < (Zmc bs : Int)), by simp [q1, q2], ?_⟩
            ((repeat (first | refine Z9v rfl ?_ | refine Z9w ?_)); refine Z9u ?_)
            rfl
          · (rw [decide_eq_false (p := k = 16) (by omega)])
            (repeat refine Z8v rfl (st_q rfl rfl rfl ?_))
            by_cases q3 : k = 17
            · (rw [decide_eq_true (p := k = 17) (by omega)])
              (repeat refine Z8v rfl (st_q rfl rfl rfl ?_))
              refine Z8v rfl (Zbw rfl (fun σ => Ztr bs false hbl σ) ?_)
              (repeat (first | refine st_q rfl rfl rfl ?_ | refine Z8v rfl (st_q rfl rfl rfl ?_)))
              refine Z8y ⟨rfl, decide (l < (Zmc bs : Int)), by simp [q1, q3], ?_⟩
              ((repeat (first | refine Z9v rfl ?_ | refine Z9w ?_)); refine Z9u ?_)
              rfl
            · (rw [decide_eq_false (p := k = 17) (by omega)])
              (repeat (first | refine st_q rfl rfl rfl ?_ | refine Z8v rfl (st_q rfl rfl rfl ?_) | refine Z8w rfl ?_))
              refine Z8y ⟨rfl, false, by simp [q1, q2, q3], ?_⟩
              ((repeat (first | refine Z9v rfl ?_ | refine Z9w ?_)); refine Z9u ?_)
              rfl
      rintro F' σ2 ⟨rfl, d, hd, G, hG, rfl⟩
      refine Z9y (keep := [2, 3, 81]) ⟨_, hG, ?_⟩
      cases d with
      | true =>
        (repeat (first | refine st_q rfl rfl rfl ?_ | (refine Z8y ?_; (repeat (first | refine Z9v rfl ?_ | refine Z9w ?_)); refine Z9u ?_) | refine awp_seq ?_ | refine Zbm (fun _ _ => rfl) ?_ | refine Kc1 rfl ?_))
        exact ret 4 _ _ rfl (bad 4 (by decide) (by rw [hO, if_pos (hd.1 rfl)])) fun _ _ => rfl
      | false =>
        have hB : ¬ (4096 < bs.length ∨ ((k = 16 ∨ k = 17) ∧ l < (Zmc bs : Int))) := fun h => by have := hd.2 h; cases this
        rw [if_neg hB] at hO
        refine Kc2 rfl ?_
        refine Zbn (fun _ _ => rfl) ?_
        refine Z9z ?_
        (repeat (refine st_q rfl rfl rfl ?_))
        rw [Zm9]
        (refine Z8y ?_; (repeat (first | refine Z9v rfl ?_ | refine Z9w ?_)); refine Z9u ?_)
        have key : ∀ rest : Z2b, (ownV (.mk k ns ks l p s) i n bs vks.length = 0 → AWp Try.prog Zor.n rest (ARet Zor.res fun r σ' => r = .int .i64 (X : Int) ∧ σ' = σ2)
              (fset 2 (some (.iptr [.int .i64 k, .slc 1 (ns.map .str) false, .slc 6 (Zln ks) false, .int .i64 l, .int .i64 p, .int .i64 s])) (fset 3 (some (.iptr [.bool false, .int .i64 i, .int .i64 n, .slc 1 (bytes bs) false, .slc 5 (Zm5 vks) false])) (fset 5 (some (.int .i64 (vks.length : Int))) Z27))) σ2) →
            AWp Try.prog Zor.n (.seq (Zor.code.snd 5).fst rest) (ARet Zor.res fun r σ' => r = .int .i64 (X : Int) ∧ σ' = σ2)
              (fset 2 (some (.iptr [.int .i64 k, .slc 1 (ns.map .str) false, .slc 6 (Zln ks) false, .int .i64 l, .int .i64 p, .int .i64 s])) (fset 3 (some (.iptr [.bool false, .int .i64 i, .int .i64 n, .slc 1 (bytes bs) false, .slc 5 (Zm5 vks) false])) (fset 5 (some (.int .i64 (vks.length : Int))) Z27))) σ2 := by
          intro rest hrest
          by_cases k10 : k = 10
          · subst k10
            rw [if_pos rfl] at hO
            (repeat (first | refine st_q rfl rfl rfl ?_ | (refine Z8y ?_; (repeat (first | refine Z9v rfl ?_ | refine Z9w ?_)); refine Z9u ?_) | refine awp_seq ?_ | refine Zbm (fun _ _ => rfl) ?_ | refine Z8h ?_ | refine Kc1 rfl ?_))
            by_cases q : 16384 < vks.length
            · (rw [decide_eq_true (p := (16384 : Int) < ((vks.length : Nat) : Int)) (by omega)])
              (repeat (first | refine st_q rfl rfl rfl ?_ | (refine Z8y ?_; (repeat (first | refine Z9v rfl ?_ | refine Z9w ?_)); refine Z9u ?_) | refine awp_seq ?_ | refine Zbm (fun _ _ => rfl) ?_ | refine Kc1 rfl ?_))
              exact ret 4 _ _ rfl (bad 4 (by decide) (by rw [hO, if_pos q])) fun _ _ => rfl
            · (rw [decide_eq_false (p := (16384 : Int) < ((vks.length : Nat) : Int)) (by omega)])
              (repeat (first | refine Zbn (fun _ _ => rfl) ?_ | refine Kc2 rfl ?_))
              (refine Z9y (keep := [2, 3, 5]) ?_; ((repeat (first | refine Z9v rfl ?_ | refine Z9w ?_)); refine Z9u ?_))
              exact hrest (by rw [hO, if_neg q])
          by_cases k11 : k = 11
          · subst k11
            rw [if_neg (by decide), if_pos rfl] at hO
            (repeat (first | refine st_q rfl rfl rfl ?_ | (refine Z8y ?_; (repeat (first | refine Z9v rfl ?_ | refine Z9w ?_)); refine Z9u ?_) | refine awp_seq ?_ | refine Zbm (fun _ _ => rfl) ?_ | refine Z8h ?_ | refine Kc1 rfl ?_ | refine Kc2 rfl ?_))
            have e : ((vks.length : Nat) : Int).tmod 2 = ((vks.length % 2 : Nat) : Int) := by rw [Int.tmod_eq_emod_of_nonneg (by omega)]; omega
            rw [e]
            by_cases q : vks.length % 2 = 0
            · (rw [decide_eq_false (p := ((vks.length % 2 : Nat) : Int) ≠ 0) (by omega)])
              rw [if_neg (by omega)] at hO
              (repeat (first | refine st_q rfl rfl rfl ?_ | (refine Z8y ?_; (repeat (first | refine Z9v rfl ?_ | refine Z9w ?_)); refine Z9u ?_) | refine awp_seq ?_ | refine Zbm (fun _ _ => rfl) ?_ | refine Zbn (fun _ _ => rfl) ?_ | refine Kc2 rfl ?_))
              by_cases q2 : 32768 < vks.length
              · (rw [decide_eq_true (p := (32768 : Int) < ((vks.length : Nat) : Int)) (by omega)])
                (repeat (first | refine st_q rfl rfl rfl ?_ | (refine Z8y ?_; (repeat (first | refine Z9v rfl ?_ | refine Z9w ?_)); refine Z9u ?_) | refine awp_seq ?_ | refine Zbm (fun _ _ => rfl) ?_ | refine Kc1 rfl ?_))
                exact ret 4 _ _ rfl (bad 4 (by decide) (by rw [hO, if_pos q2])) fun _ _ => rfl
              · (rw [decide_eq_false (p := (32768 : Int) < ((vks.length : Nat) : Int)) (by omega)])
                (repeat (first | refine Zbn (fun _ _ => rfl) ?_ | refine Kc2 rfl ?_))
                (refine Z9y (keep := [2, 3, 5]) ?_; ((repeat (first | refine Z9v rfl ?_ | refine Z9w ?_)); refine Z9u ?_))
                exact hrest (by rw [hO, if_neg q2])
            · (rw [decide_eq_true (p := ((vks.length % 2 : Nat) : Int) ≠ 0) (by omega)])
              (repeat (first | refine st_q rfl rfl rfl ?_ | (refine Z8y ?_; (repeat (first | refine Z9v rfl ?_ | refine Z9w ?_)); refine Z9u ?_) | refine awp_seq ?_ | refine Zbm (fun _ _ => rfl) ?_ | refine Kc1 rfl ?_))
              exact ret 1 _ _ rfl (bad 1 (by decide) (by rw [hO, if_pos q])) fun _ _ => rfl
          by_cases k12 : k = 12
          · subst k12
            rw [if_neg (by decide), if_neg (by decide), if_pos rfl] at hO
            (repeat (first | refine st_q rfl rfl rfl ?_ | (refine Z8y ?_; (repeat (first | refine Z9v rfl ?_ | refine Z9w ?_)); refine Z9u ?_) | refine awp_seq ?_ | refine Zbm (fun _ _ => rfl) ?_ | refine Z8h ?_ | refine Kc1 rfl ?_ | refine Kc2 rfl ?_))
            rw [Zlr]
            by_cases q : vks.length = ks.length
            · (rw [decide_eq_false (p := ((vks.length : Nat) : Int) ≠ ((ks.length : Nat) : Int)) (by omega)])
              (repeat (first | refine Zbn (fun _ _ => rfl) ?_ | refine Kc2 rfl ?_))
              (refine Z9y (keep := [2, 3, 5]) ?_; ((repeat (first | refine Z9v rfl ?_ | refine Z9w ?_)); refine Z9u ?_))
              exact hrest (by rw [hO, if_neg (by omega)])
            · (rw [decide_eq_true (p := ((vks.length : Nat) : Int) ≠ ((ks.length : Nat) : Int)) (by omega)])
              (repeat (first | refine st_q rfl rfl rfl ?_ | (refine Z8y ?_; (repeat (first | refine Z9v rfl ?_ | refine Z9w ?_)); refine Z9u ?_) | refine awp_seq ?_ | refine Zbm (fun _ _ => rfl) ?_ | refine Kc1 rfl ?_))
              exact ret 1 _ _ rfl (bad 1 (by decide) (by rw [hO, if_pos q])) fun _ _ => rfl
          by_cases k13 : k = 13
          · subst k13
            rw [if_neg (by decide), if_neg (by decide), if_neg (by decide), if_pos rfl] at hO
            (repeat (first | refine st_q rfl rfl rfl ?_ | (refine Z8y ?_; (repeat (first | refine Z9v rfl ?_ | refine Z9w ?_)); refine Z9u ?_) | refine awp_seq ?_ | refine Zbm (fun _ _ => rfl) ?_ | refine Z8h ?_ | refine Kc1 rfl ?_ | refine Kc2 rfl ?_))
            by_cases q : vks.length = 1
            · (rw [decide_eq_false (p := ((vks.length : Nat) : Int) ≠ 1) (by omega)])
              (repeat (first | refine Zbn (fun _ _ => rfl) ?_ | refine Kc2 rfl ?_))
              (refine Z9y (keep := [2, 3, 5]) ?_; ((repeat (first | refine Z9v rfl ?_ | refine Z9w ?_)); refine Z9u ?_))
              exact hrest (by rw [hO, if_neg (by omega)])
            · (rw [decide_eq_true (p := ((vks.length : Nat) : Int) ≠ 1) (by omega)])
              (repeat (first | refine st_q rfl rfl rfl ?_ | (refine Z8y ?_; (repeat (first | refine Z9v rfl ?_ | refine Z9w ?_)); refine Z9u ?_) | refine awp_seq ?_ | refine Zbm (fun _ _ => rfl) ?_ | refine Kc1 rfl ?_))
              exact ret 1 _ _ rfl (bad 1 (by decide) (by rw [hO, if_pos q])) fun _ _ => rfl
          rw [if_neg k10, if_neg k11, if_neg k12, if_neg k13] at hO
          (repeat (first | refine st_q rfl rfl rfl ?_ | (refine Z8y ?_; (repeat (first | refine Z9v rfl ?_ | refine Z9w ?_)); refine Z9u ?_) | refine awp_seq ?_ | refine Zbm (fun _ _ => rfl) ?_ | refine Z8h ?_))
          (rw [decide_eq_false (p := k = 10) (by omega)])
          (repeat (first | refine st_q rfl rfl rfl ?_ | (refine Z8y ?_; (repeat (first | refine Z9v rfl ?_ | refine Z9w ?_)); refine Z9u ?_) | refine awp_seq ?_ | refine Zbm (fun _ _ => rfl) ?_ | refine Kc2 rfl ?_))
          (rw [decide_eq_false (p := k = 11) (by omega)])
          (repeat (first | refine st_q rfl rfl rfl ?_ | (refine Z8y ?_; (repeat (first | refine Z9v rfl ?_ | refine Z9w ?_)); refine Z9u ?_) | refine awp_seq ?_ | refine Zbm (fun _ _ => rfl) ?_ | refine Kc2 rfl ?_))
          (rw [decide_eq_false (p := k = 12) (by omega)])
          (repeat (first | refine st_q rfl rfl rfl ?_ | (refine Z8y ?_; (repeat (first | refine Z9v rfl ?_ | refine Z9w ?_)); refine Z9u ?_) | refine awp_seq ?_ | refine Zbm (fun _ _ => rfl) ?_ | refine Kc2 rfl ?_))
          (rw [decide_eq_false (p := k = 13) (by omega)])
          (repeat (first | refine Zbn (fun _ _ => rfl) ?_ | refine Kc2 rfl ?_))
          (refine Z9y (keep := [2, 3, 5]) ?_; ((repeat (first | refine Z9v rfl ?_ | refine Z9w ?_)); refine Z9u ?_))
          exact hrest hO
        refine key _ fun hown => ?_
        rw [hown, if_neg (by simp)] at hX'
        (repeat (first | refine st_q rfl rfl rfl ?_ | (refine Z8y ?_; (repeat (first | refine Z9v rfl ?_ | refine Z9w ?_)); refine Z9u ?_) | refine awp_seq ?_ | refine Zbm (fun _ _ => rfl) ?_ | refine Z8h ?_))
        refine Zaa (fun m F σ' => ∃ (j : Nat), F = fset 2 (some (.iptr [.int .i64 k, .slc 1 (ns.map .str) false, .slc 6 (Zln ks) false, .int .i64 l, .int .i64 p, .int .i64 s])) (fset 3 (some (.iptr [.bool false, .int .i64 i, .int .i64 n, .slc 1 (bytes bs) false, .slc 5 (Zm5 vks) false])) (fset 5 (some (.int .i64 (vks.length : Int))) (fset 6 (some (.int .i64 (j : Int))) Z27))) ∧
          σ2 = σ' ∧ j ≤ vks.length ∧ X = Zmg (.mk k ns ks l p s) i j (vks.drop j) ∧ m = vks.length - j) (n := vks.length)
          ⟨0, rfl, rfl, by omega, hX'.symm, rfl⟩ ?_
        rintro m F σ' ⟨j, rfl, rfl, hj, hXj, rfl⟩
        (repeat (first | refine st_q rfl rfl rfl ?_ | (refine Z8y ?_; (repeat (first | refine Z9v rfl ?_ | refine Z9w ?_)); refine Z9u ?_) | refine awp_seq ?_ | refine Zbm (fun _ _ => rfl) ?_))
        refine Za3 (p := (j : Int) < (vks.length : Int)) rfl (fun h3 => ?_) (fun h3 => ?_)
        · have hjl : j < vks.length := by omega
          have Zd : vks[j]? = some vks[j] := List.getElem?_eq_getElem hjl
          have hx : (Zm5 vks)[(j : Int).toNat]? = some (encV vks[j]) := Zma (by rw [Int.toNat_natCast, Zd])
          obtain ⟨hlt, hi0⟩ := hka j hjl hown
          have hkc := hkid j (by omega) hi0 hlt
          have hvc := ih vks[j] (List.getElem_mem hjl) (hkids _ (List.getElem_mem hjl)) (kidT (.mk k ns ks l p s) i j) (hko j hlt)
          rw [Ztx _ _ _ _ _ Zd] at hXj
          have hX1 : (k = 11 ∧ j % 2 = 0 ∧ vks[j].null = true) → X = 1 := fun h => hXj.trans (if_pos h)
          have hX2 := fun (h : ¬ (k = 11 ∧ j % 2 = 0 ∧ vks[j].null = true)) => hXj.trans (if_neg h)
          rw [Zm7] at hx
          simp only [Zm7] at hvc
          refine Zbn (fun _ _ => rfl) ?_
          refine awp_seq ?_
          refine Z8h ?_
          refine awp_seq ?_
          refine awp_seq ?_
          refine Zae (fun F' σ' => σ2 = σ' ∧ ∃ d : Bool, (d = true ↔ (k = 11 ∧ j % 2 = 0 ∧ vks[j].null = true)) ∧
            KP [2, 3, 5, 6, 129] F' fun G => G = fset 2 (some (.iptr [.int .i64 k, .slc 1 (ns.map .str) false, .slc 6 (Zln ks) false, .int .i64 l, .int .i64 p, .int .i64 s])) (fset 3 (some (.iptr [.bool false, .int .i64 i, .int .i64 n, .slc 1 (bytes bs) false, .slc 5 (Zm5 vks) false])) (fset 5 (some (.int .i64 (vks.length : Int))) (fset 6 (some (.int .i64 (j : Int))) (fset 129 (some (.bool d)) Z27))))) ?_ ?_
          · (repeat refine st_q rfl rfl rfl ?_)
            by_cases q1 : k = 11
            · (rw [decide_eq_true (p := k = 11) (by omega)])
              (repeat (first | refine st_q rfl rfl rfl ?_ | refine Z8v rfl (st_q rfl rfl rfl ?_)))
              have e : (j : Int).tmod 2 = ((j % 2 : Nat) : Int) := by rw [Int.tmod_eq_emod_of_nonneg (by omega)]; omega
              rw [e]
              by_cases q2 : j % 2 = 0
              · (rw [decide_eq_true (p := ((j % 2 : Nat) : Int) = 0) (by omega)])
                (repeat refine Z8v rfl (st_q rfl rfl rfl ?_))
                refine Z8v rfl (Z93 rfl (by omega) hx ?_)
                (repeat (first | refine st_q rfl rfl rfl ?_ | refine Z8v rfl (st_q rfl rfl rfl ?_)))
                refine Z8y ⟨rfl, vks[j].null, by simp [q1, q2], ?_⟩
                ((repeat (first | refine Z9v rfl ?_ | refine Z9w ?_)); refine Z9u ?_)
                rfl
              · (rw [decide_eq_false (p := ((j % 2 : Nat) : Int) = 0) (by omega)])
                (repeat (first | refine st_q rfl rfl rfl ?_ | refine Z8w rfl ?_))
                refine Z8y ⟨rfl, false, by simp [q2], ?_⟩
                ((repeat (first | refine Z9v rfl ?_ | refine Z9w ?_)); refine Z9u ?_)
                rfl
            · (rw [decide_eq_false (p := k = 11) (by omega)])
              (repeat (first | refine st_q rfl rfl rfl ?_ | refine Z8w rfl ?_))
              refine Z8y ⟨rfl, false, by simp [q1], ?_⟩
              ((repeat (first | refine Z9v rfl ?_ | refine Z9w ?_)); refine Z9u ?_)
              rfl
          rintro F' σ3 ⟨rfl, d, hd, G, hG, rfl⟩
          refine Z9y (keep := [2, 3, 5, 6, 129]) ⟨_, hG, ?_⟩
          cases d with
          | true =>
            (repeat (first | refine st_q rfl rfl rfl ?_ | (refine Z8y ?_; (repeat (first | refine Z9v rfl ?_ | refine Z9w ?_)); refine Z9u ?_) | refine awp_seq ?_ | refine Zbm (fun _ _ => rfl) ?_ | refine Kc1 rfl ?_))
            exact ret 1 _ _ rfl (hX1 (hd.1 rfl)) fun _ _ => rfl
          | false =>
            replace hXj := hX2 (fun h => by have := hd.2 h; cases this)
            (repeat (first | refine st_q rfl rfl rfl ?_ | refine awp_seq ?_ | refine Zbm (fun _ _ => rfl) ?_ | refine Zbn (fun _ _ => rfl) ?_ | refine Kc2 rfl ?_))
            refine Zbw rfl hkc ?_
            (repeat refine st_q rfl rfl rfl ?_)
            refine Z93 rfl (by omega) hx ?_
            (repeat refine st_q rfl rfl rfl ?_)
            refine Z9t rfl (hvc _) ?_
            have hle := Zty vks[j] (kidT (.mk k ns ks l p s) i j)
            generalize hq : vchk (kidT (.mk k ns ks l p s) i j) vks[j] = x at hXj hle
            (repeat (first | refine st_q rfl rfl rfl ?_ | (refine Z8y ?_; (repeat (first | refine Z9v rfl ?_ | refine Z9w ?_)); refine Z9u ?_) | refine awp_seq ?_ | refine Zbm (fun _ _ => rfl) ?_))
            by_cases q : x = 0
            · rw [if_neg (by omega)] at hXj
              (rw [decide_eq_false (p := ((x : Nat) : Int) ≠ 0) (by omega)])
              (repeat (first | refine Zbn (fun _ _ => rfl) ?_ | refine Kc2 rfl ?_))
              refine Zbp ?_
              (repeat (refine st_q rfl rfl rfl ?_))
              rw [Kwr j (by omega)]
              (refine Z8y ?_; (repeat (first | refine Z9v rfl ?_ | refine Z9w ?_)); refine Z9u ?_)
              exact ⟨_, vks.length - (j + 1), HSub.refl _, ⟨j + 1, rfl, rfl, by omega, hXj, rfl⟩, by omega⟩
            · rw [if_pos q] at hXj
              (rw [decide_eq_true (p := ((x : Nat) : Int) ≠ 0) (by omega)])
              (repeat (first | refine st_q rfl rfl rfl ?_ | (refine Z8y ?_; (repeat (first | refine Z9v rfl ?_ | refine Z9w ?_)); refine Z9u ?_) | refine awp_seq ?_ | refine Zbm (fun _ _ => rfl) ?_ | refine Kc1 rfl ?_))
              exact ret x _ _ rfl hXj fun _ _ => rfl
        · (repeat (first | refine st_q rfl rfl rfl ?_ | (refine Z8y ?_; (repeat (first | refine Z9v rfl ?_ | refine Z9w ?_)); refine Z9u ?_) | refine awp_seq ?_ | refine Zbm (fun _ _ => rfl) ?_ | refine Zbo (fun _ _ => rfl) ?_))
          have hd0 : vks.drop j = [] := List.drop_of_length_le (by omega)
          rw [hd0, Zmg] at hXj
          exact ret 0 _ _ rfl hXj fun _ _ => rfl
end Go.Abs
namespace Go.Abs
open Go Go.Proofs
set_option linter.unusedVariables false
set_option linter.unusedSimpArgs false
theorem Z1ft : Try.prog.cellsOf 25 = 6 := by kernel_rfl
theorem Z1fu : Try.prog.cellsOf 38 = 5 := by kernel_rfl
theorem Z1fv : Try.prog.cellsOf 9 = 1 := by kernel_rfl
theorem Z1fw : Try.prog.cellsOf 5 = 1 := by kernel_rfl
theorem Z1fx {α : Type} {f : α → Z0} {p : α → Prop} : ∀ {xs : List Z0}, (∀ x ∈ xs, ∃ a, x = f a ∧ p a) → ∃ l : List α, xs = l.map f ∧ ∀ a ∈ l, p a := fun h => Zbl h
theorem Z1fy {t : TypeId} {a : Z0} (h : Has Try.prog t a) : (t = 25 → ∃ ty : Ty, a = encT ty) ∧ (t = 23 → ∃ ks : List Ty, a = .slc 6 (Zln ks) false) := by
  induction h with
  | bool h => exact ⟨fun e => (by subst e; rw [Try.underlying25] at h; cases h), fun e => (by subst e; rw [Try.underlying23] at h; cases h)⟩
  | int h _ => exact ⟨fun e => (by subst e; rw [Try.underlying25] at h; cases h), fun e => (by subst e; rw [Try.underlying23] at h; cases h)⟩
  | str h _ => exact ⟨fun e => (by subst e; rw [Try.underlying25] at h; cases h), fun e => (by subst e; rw [Try.underlying23] at h; cases h)⟩
  | @slc t e xs h hl hx ih =>
    refine ⟨fun e => (by subst e; rw [Try.underlying25] at h; cases h), fun e => ?_⟩
    subst e
    rw [Try.underlying23] at h
    simp only [Option.some.injEq, TypeDesc.slice.injEq] at h
    subst h
    obtain ⟨ks, rfl, _⟩ := Z1fx (f := encT) (p := fun _ => True) (fun x hm => by
      obtain ⟨ty, e⟩ := (ih x hm).1 rfl
      exact ⟨ty, e, trivial⟩)
    exact ⟨ks, by rw [Z1ft, Zlq]⟩
  | @agg t fs ys h hn hy ih =>
    refine ⟨fun e => ?_, fun e => (by subst e; rw [Try.underlying23] at h; cases h)⟩
    subst e
    rw [Try.underlying25] at h
    simp only [Option.some.injEq, TypeDesc.struct.injEq] at h
    subst h
    match ys, hn with
    | [y0, y1, y2, y3, y4, y5], _ =>
    obtain ⟨k, rfl, _⟩ := (hy 0 _ y0 rfl rfl).int_inv Try.underlying3
    obtain ⟨xs, rfl, _, hx⟩ := (hy 1 _ y1 rfl rfl).slc_inv Try.underlying22
    obtain ⟨ks, rfl⟩ := (ih 2 _ y2 rfl rfl).2 rfl
    obtain ⟨l, rfl, _⟩ := (hy 3 _ y3 rfl rfl).int_inv Try.underlying3
    obtain ⟨p, rfl, _⟩ := (hy 4 _ y4 rfl rfl).int_inv Try.underlying3
    obtain ⟨s, rfl, _⟩ := (hy 5 _ y5 rfl rfl).int_inv Try.underlying3
    obtain ⟨ns, rfl, _⟩ := Z1fx (f := Z0.str) (p := fun _ => True) (fun x hm => by
      obtain ⟨s, e, _⟩ := (hx x hm).str_inv Try.underlying9
      exact ⟨s, e, trivial⟩)
    refine ⟨.mk k ns ks l p s, ?_⟩
    rw [Z1fv, Zlp]
    rfl
theorem Z1fz {t : TypeId} {a : Z0} (h : Has Try.prog t a) : (t = 38 → ∃ v : Vl, a = encV v ∧ v.Fit) ∧ (t = 26 → ∃ vs : List Vl, a = .slc 5 (Zm5 vs) false ∧ (∀ v ∈ vs, v.Fit) ∧ vs.length ≤ 9223372036854775807) := by
  induction h with
  | bool h => exact ⟨fun e => (by subst e; rw [Try.underlying38] at h; cases h), fun e => (by subst e; rw [Try.underlying26] at h; cases h)⟩
  | int h _ => exact ⟨fun e => (by subst e; rw [Try.underlying38] at h; cases h), fun e => (by subst e; rw [Try.underlying26] at h; cases h)⟩
  | str h _ => exact ⟨fun e => (by subst e; rw [Try.underlying38] at h; cases h), fun e => (by subst e; rw [Try.underlying26] at h; cases h)⟩
  | @slc t e xs h hl hx ih =>
    refine ⟨fun e => (by subst e; rw [Try.underlying38] at h; cases h), fun e => ?_⟩
    subst e
    rw [Try.underlying26] at h
    simp only [Option.some.injEq, TypeDesc.slice.injEq] at h
    subst h
    obtain ⟨vs, rfl, hv⟩ := Z1fx (f := encV) (p := Vl.Fit) (fun x hm => (ih x hm).1 rfl)
    exact ⟨vs, by rw [Z1fu, Zm8], hv, by simpa [maxLen] using hl⟩
  | @agg t fs ys h hn hy ih =>
    refine ⟨fun e => ?_, fun e => (by subst e; rw [Try.underlying26] at h; cases h)⟩
    subst e
    rw [Try.underlying38] at h
    simp only [Option.some.injEq, TypeDesc.struct.injEq] at h
    subst h
    match ys, hn with
    | [y0, y1, y2, y3, y4], _ =>
    obtain ⟨nu, rfl⟩ := (hy 0 _ y0 rfl rfl).bool_inv Try.underlying4
    obtain ⟨i, rfl, w1⟩ := (hy 1 _ y1 rfl rfl).int_inv Try.underlying2
    obtain ⟨n, rfl, _⟩ := (hy 2 _ y2 rfl rfl).int_inv Try.underlying3
    obtain ⟨b, rfl, hb⟩ := (hy 3 _ y3 rfl rfl).bytes_inv Try.underlying36 Try.underlying5 Z1fw
    obtain ⟨ks, rfl, hk, hkl⟩ := (ih 4 _ y4 rfl rfl).2 rfl
    refine ⟨.mk nu i n b ks, ?_, .mk (Zbi w1) (by simpa [maxLen, Vl.b] using hb) hkl hk⟩
    rw [Zm7]
    rfl
end Go.Abs
namespace Go.Abs
open Go Go.Proofs
set_option linter.unusedVariables false
set_option linter.unusedSimpArgs false
set_option maxHeartbeats 4000000
attribute [local irreducible] AWp aops KP
def Zxj (k : Int) : Bool := decide (k = 0) || decide (k = 1) || decide (k = 2) || decide (k = 3) || decide (k = 4) || decide (k = 7) || decide (k = 16) || decide (k = 17) || decide (k = 8) || decide (k = 14)
def Zxk (k : Int) : Bool := Zlt k && (decide (k ≠ 0) && decide (k ≠ 8))
def addF (a b : Int) : Int × Bool := if -9223372036854775808 ≤ a + b ∧ a + b ≤ 9223372036854775807 then (a + b, true) else (0, false)
end Go.Abs
namespace Go.Abs
open Go Go.Proofs Go.RowKit
set_option linter.unusedVariables false
set_option linter.unusedSimpArgs false
end Go.Abs
namespace Go.Abs
open Go Go.Proofs
set_option linter.unusedVariables false
set_option linter.unusedSimpArgs false
set_option maxHeartbeats 4000000
attribute [local irreducible] AWp aops KP
def cmpI (a b : Int) : Int := if a < b then -1 else if b < a then 1 else 0
def cmpV (k : Int) (a b : Vl) : Int × Bool :=
  if Zlt k = false ∨ a.null = true ∨ b.null = true then (0, false)
  else if Zmb k = true then (Lib.compareBytes a.b b.b, true)
  else (if cmpI a.i b.i ≠ 0 then cmpI a.i b.i else cmpI a.n b.n, true)
theorem Zu8 (k : Int) (σ : Zc) : Z1q Try.prog Zfi [.int .i64 k] σ fun r σ' => r = .bool (Zmb k) ∧ σ' = σ := by
  refine Z8t rfl Zt7 (Nat.le_of_ble_eq_true rfl) ?_
  by_cases h7 : k = 7
  · subst h7; (repeat (first | refine st_q rfl rfl rfl ?_ | (refine Z8y ?_; (repeat (first | refine Z9v rfl ?_ | refine Z9w ?_)); refine Z9u ?_) | refine awp_seq ?_ | refine Zbm (fun _ _ => rfl) ?_ | refine Z8h ?_ | refine Zbn (fun _ _ => rfl) ?_ | refine Zbo (fun _ _ => rfl) ?_ | refine Kc1 rfl ?_)); refine Z8d ?_; exact Kar rfl ⟨rfl, rfl⟩
  by_cases h16 : k = 16
  · subst h16; (repeat (first | refine st_q rfl rfl rfl ?_ | (refine Z8y ?_; (repeat (first | refine Z9v rfl ?_ | refine Z9w ?_)); refine Z9u ?_) | refine awp_seq ?_ | refine Zbm (fun _ _ => rfl) ?_ | refine Z8h ?_ | refine Zbn (fun _ _ => rfl) ?_ | refine Zbo (fun _ _ => rfl) ?_ | refine Kc1 rfl ?_ | refine Kc2 rfl ?_)); refine Z8d ?_; exact Kar rfl ⟨rfl, rfl⟩
  by_cases h17 : k = 17
  · subst h17; (repeat (first | refine st_q rfl rfl rfl ?_ | (refine Z8y ?_; (repeat (first | refine Z9v rfl ?_ | refine Z9w ?_)); refine Z9u ?_) | refine awp_seq ?_ | refine Zbm (fun _ _ => rfl) ?_ | refine Z8h ?_ | refine Zbn (fun _ _ => rfl) ?_ | refine Zbo (fun _ _ => rfl) ?_ | refine Kc1 rfl ?_ | refine Kc2 rfl ?_)); refine Z8d ?_; exact Kar rfl ⟨rfl, rfl⟩
  by_cases h8 : k = 8
  · subst h8; (repeat (first | refine st_q rfl rfl rfl ?_ | (refine Z8y ?_; (repeat (first | refine Z9v rfl ?_ | refine Z9w ?_)); refine Z9u ?_) | refine awp_seq ?_ | refine Zbm (fun _ _ => rfl) ?_ | refine Z8h ?_ | refine Zbo (fun _ _ => rfl) ?_ | refine Kc1 rfl ?_ | refine Kc2 rfl ?_)); refine Z8d ?_; exact Kar rfl ⟨rfl, rfl⟩
  (repeat (first | refine st_q rfl rfl rfl ?_ | (refine Z8y ?_; (repeat (first | refine Z9v rfl ?_ | refine Z9w ?_)); refine Z9u ?_) | refine awp_seq ?_ | refine Zbm (fun _ _ => rfl) ?_ | refine Z8h ?_))
  (rw [decide_eq_false (p := k = 7) (by omega)])
  (repeat (first | refine st_q rfl rfl rfl ?_ | (refine Z8y ?_; (repeat (first | refine Z9v rfl ?_ | refine Z9w ?_)); refine Z9u ?_) | refine Zbm (fun _ _ => rfl) ?_ | refine Kc2 rfl ?_))
  (rw [decide_eq_false (p := k = 8) (by omega)])
  (repeat (first | refine st_q rfl rfl rfl ?_ | (refine Z8y ?_; (repeat (first | refine Z9v rfl ?_ | refine Z9w ?_)); refine Z9u ?_) | refine awp_seq ?_ | refine Zbm (fun _ _ => rfl) ?_ | refine Zbn (fun _ _ => rfl) ?_ | refine Kc2 rfl ?_))
  (rw [decide_eq_false (p := k = 16) (by omega)])
  (repeat (first | refine st_q rfl rfl rfl ?_ | (refine Z8y ?_; (repeat (first | refine Z9v rfl ?_ | refine Z9w ?_)); refine Z9u ?_) | refine Zbm (fun _ _ => rfl) ?_ | refine Kc2 rfl ?_))
  (rw [decide_eq_false (p := k = 17) (by omega)])
  (repeat (first | refine st_q rfl rfl rfl ?_ | (refine Z8y ?_; (repeat (first | refine Z9v rfl ?_ | refine Z9w ?_)); refine Z9u ?_) | refine awp_seq ?_ | refine Zbm (fun _ _ => rfl) ?_ | refine Zbn (fun _ _ => rfl) ?_ | refine Zbo (fun _ _ => rfl) ?_ | refine Kc2 rfl ?_))
  refine Z8d ?_
  exact Kar rfl ⟨by simp [Zmb, Z8m, h7, h16, h17, h8], rfl⟩
end Go.Abs
namespace Go.Abs
open Go Go.Proofs
set_option linter.unusedVariables false
set_option linter.unusedSimpArgs false
set_option maxHeartbeats 4000000
attribute [local irreducible] AWp aops KP
theorem Zua (xs : List Z0) (f : Bool) (σ : Zc) : Z1q Try.prog Zfp [.slc 1 xs f] σ fun r σ' => r = .slc 1 xs true ∧ σ' = σ := by
  refine Z8t rfl Ztd (Nat.le_of_ble_eq_true rfl) ?_
  (repeat (first | refine st_q rfl rfl rfl ?_ | (refine Z8y ?_; (repeat (first | refine Z9v rfl ?_ | refine Z9w ?_)); refine Z9u ?_) | refine awp_seq ?_ | refine Zbm (fun _ _ => rfl) ?_))
  refine Z9r rfl (by omega) (by omega) ?_
  rw [Int.toNat_natCast, List.take_length]
  (repeat (first | refine st_q rfl rfl rfl ?_ | (refine Z8y ?_; (repeat (first | refine Z9v rfl ?_ | refine Z9w ?_)); refine Z9u ?_)))
  refine Z8d ?_
  exact Kar rfl ⟨rfl, rfl⟩
theorem Zuc (xs : List Z0) (f : Bool) (σ : Zc) : Z1q Try.prog Zfr [.slc 5 xs f] σ fun r σ' => r = .slc 5 xs true ∧ σ' = σ := by
  refine Z8t rfl Ztf (Nat.le_of_ble_eq_true rfl) ?_
  (repeat (first | refine st_q rfl rfl rfl ?_ | (refine Z8y ?_; (repeat (first | refine Z9v rfl ?_ | refine Z9w ?_)); refine Z9u ?_) | refine awp_seq ?_ | refine Zbm (fun _ _ => rfl) ?_))
  refine Z9r rfl (by omega) (by omega) ?_
  rw [Int.toNat_natCast, List.take_length]
  (repeat (first | refine st_q rfl rfl rfl ?_ | (refine Z8y ?_; (repeat (first | refine Z9v rfl ?_ | refine Z9w ?_)); refine Z9u ?_)))
  refine Z8d ?_
  exact Kar rfl ⟨rfl, rfl⟩
theorem Zud {v : Z0} {xs : List Z0} {β : Zc} (ho : Zbr 5 v xs β) (σ : Zc) : Z1q Try.prog Zfr [v] (β ++ σ) fun r σ' => r = .slc 5 xs true ∧ σ' = σ := by
  rcases ho with ⟨⟨z, rfl⟩, rfl, rfl⟩ | ⟨b, rfl, rfl⟩
  · exact Z1q.args (VRle.nil_slc z 5 true) (Zuc [] true σ)
  refine Z8t rfl Ztf (Nat.le_of_ble_eq_true rfl) ?_
  (repeat (first | refine st_q rfl rfl rfl ?_ | (refine Z8y ?_; (repeat (first | refine Z9v rfl ?_ | refine Z9w ?_)); refine Z9u ?_) | refine awp_seq ?_ | refine Zbm (fun _ _ => rfl) ?_))
  refine Z9q rfl Z8z (by omega) (by omega) (by omega) Z9h ?_
  rw [List.drop_zero, Int.toNat_natCast, List.take_length]
  (repeat (first | refine st_q rfl rfl rfl ?_ | (refine Z8y ?_; (repeat (first | refine Z9v rfl ?_ | refine Z9w ?_)); refine Z9u ?_)))
  refine Z8d ?_
  exact Kar rfl ⟨rfl, rfl⟩
theorem Zue (xs : List Z0) (f : Bool) (he : ∀ x ∈ xs, x.elem 1) (hb : xs.length * 1 ≤ 140737488355328) (σ : Zc) : Z1q Try.prog Zfq [.slc 1 xs f] σ fun r σ' => r = .slc 1 xs false ∧ σ' = σ := by
  refine Z8t rfl Zte (Nat.le_of_ble_eq_true rfl) ?_
  have key : ∀ t : Bool, (t = true → xs = []) → AWp Try.prog Zsc.n (.cond (.t 4) (.seq (.region Zsa [2]) .ret) .skip) (Z8e Try.prog Zsc.n (Zsc.code.snd 2) (ARet Zsc.res fun r σ' => r = .slc 1 xs false ∧ σ' = σ))
      (fset 0 (some (.slc 1 xs f)) (fset 4 (some (.bool t)) Z27)) σ := by
    intro t ht
    cases t with
    | true =>
      (repeat (first | refine st_q rfl rfl rfl ?_ | (refine Z8y ?_; (repeat (first | refine Z9v rfl ?_ | refine Z9w ?_)); refine Z9u ?_) | refine awp_seq ?_ | refine Zbm (fun _ _ => rfl) ?_ | refine Kc1 rfl ?_))
      refine Z8d ?_
      refine Zau rfl ?_ (HSub.refl _) ⟨rfl, rfl⟩
      rw [ht rfl]
      exact VRle.trans (VRle.nil_slc 0 1 true) VRle.full
    | false =>
      (repeat (first | refine st_q rfl rfl rfl ?_ | refine awp_seq ?_ | refine Zbm (fun _ _ => rfl) ?_ | refine Zbn (fun _ _ => rfl) ?_ | refine Kc2 rfl ?_))
      refine Z9p rfl (ys := xs) (by simp [Z1m]) (by simpa using hb) fun b hb => ?_
      (repeat (first | refine st_q rfl rfl rfl ?_ | (refine Z8y ?_; (repeat (first | refine Z9v rfl ?_ | refine Z9w ?_)); refine Z9u ?_)))
      refine Z8d ?_
      exact Zbu rfl (Zb6.one (Zb6.freeze rfl)) ⟨rfl, rfl⟩
  (repeat (first | refine st_q rfl rfl rfl ?_ | (refine Z8y ?_; (repeat (first | refine Z9v rfl ?_ | refine Z9w ?_)); refine Z9u ?_) | refine awp_seq ?_ | refine Zbm (fun _ _ => rfl) ?_))
  refine Z8u rfl ?_
  refine ⟨fun _ => ?_, fun hx t => ?_⟩
  · (refine Z8y ?_; (repeat (first | refine Z9v rfl ?_ | refine Z9w ?_)); refine Z9u ?_)
    exact key false (fun h => by cases h)
  · (refine Z8y ?_; (repeat (first | refine Z9v rfl ?_ | refine Z9w ?_)); refine Z9u ?_)
    exact key t (fun _ => hx)
inductive Vl.Cl : Vl → Prop
  | mk {v : Vl} (h1 : v.b.length ≤ 140737488355328) (h2 : v.kids.length ≤ 1000000000) (h : ∀ k ∈ v.kids, Vl.Cl k) : Vl.Cl v
end Go.Abs
namespace Go.Abs
open Go Go.Proofs
set_option linter.unusedVariables false
set_option linter.unusedSimpArgs false
set_option maxHeartbeats 4000000
attribute [local irreducible] AWp aops KP
structure Stt where
  count : Int
  null : Bool
  has : Bool
  min : Vl
  max : Vl
  sums : Bool
  sum : Int
def vl0 : Vl := .mk false 0 0 [] []
def Zxp (s : Stt) : List Z0 := [.int .i64 s.count, .bool s.null, .bool s.has,
  .bool s.min.null, .int .i64 s.min.i, .int .i64 s.min.n, .slc 1 (bytes s.min.b) false, .slc 5 (Zm5 s.min.kids) false,
  .bool s.max.null, .int .i64 s.max.i, .int .i64 s.max.n, .slc 1 (bytes s.max.b) false, .slc 5 (Zm5 s.max.kids) false,
  .bool s.sums, .int .i64 s.sum]
def encS (s : Stt) : Z0 := .agg (Zxp s)
def Zxq (s : Stt) (v : Int) : Stt := if s.sums = true then { s with sum := (addF s.sum v).1, sums := (addF s.sum v).2 } else s
def Zxr (k : Int) (s : Stt) (lo hi : Vl) : Stt :=
  { s with min := if s.has = false ∨ (cmpV k lo s.min).1 < 0 then lo else s.min, max := if s.has = false ∨ 0 < (cmpV k hi s.max).1 then hi else s.max, has := true }
end Go.Abs
namespace Go.Abs
open Go Go.Proofs
set_option linter.unusedVariables false
set_option linter.unusedSimpArgs false
set_option maxHeartbeats 4000000
attribute [local irreducible] AWp aops KP
structure Col where
  here : List Bool
  ints : List Int
  ns : List Int
  texts : List (List UInt8)
  lens : List Int
def Zxu (c : Col) : List Z0 := [.slc 1 (c.here.map .bool) false, .slc 1 (c.ints.map (.int .i64)) false, .slc 1 (c.ns.map (.int .i64)) false,
  .slc 1 (c.texts.map fun b => .slc 1 (bytes b) false) false, .slc 1 (c.lens.map (.int .i64)) false]
def encC (c : Col) : Z0 := .agg (Zxu c)
def hasF (c : Col) : Bool := c.here.any (!·)
def idxB (v : Bool) : Nat → List Bool → Int
  | _, [] => -1
  | i, b :: bs => if v = b then i else idxB v (i + 1) bs
theorem Zxv (v : Bool) : ∀ (bs : List Bool) (i : Nat), decide (0 ≤ idxB v i bs) = bs.any (· == v)
  | [], i => by simp [idxB]
  | b :: bs, i => by
    rw [idxB, List.any_cons]
    by_cases h : v = b
    · rw [if_pos h]; simp [h]
    · rw [if_neg h, Zxv v bs]
      have : (b == v) = false := by cases v <;> cases b <;> simp_all
      rw [this]; simp
theorem Zxw {α : Type} {f : α → Z0} {l : List α} {j : Nat} (h : j < l.length) : (l.map f)[((j : Nat) : Int).toNat]? = some (f l[j]) := by
  rw [Int.toNat_natCast, List.getElem?_map, List.getElem?_eq_getElem h]; rfl
theorem Zxx (bs : List Bool) (v : Bool) (hl : bs.length ≤ 140737488355328) (σ : Zc) : Z1q Try.prog Zfy [.slc 1 (bs.map .bool) false, .bool v] σ fun r σ' => r = .int .i64 (idxB v 0 bs) ∧ σ' = σ := by
  refine Z8t rfl Zxa (Nat.le_of_ble_eq_true rfl) ?_
  (repeat (first | refine st_q rfl rfl rfl ?_ | (refine Z8y ?_; (repeat (first | refine Z9v rfl ?_ | refine Z9w ?_)); refine Z9u ?_) | refine awp_seq ?_ | refine Zbm (fun _ _ => rfl) ?_ | refine Z8h ?_))
  rw [show ((bs.map Z0.bool).length : Int) = (bs.length : Int) by simp]
  generalize hX : idxB v 0 bs = X
  refine Zaa (fun m F σ' => ∃ (j : Nat), F = fset 0 (some (.slc 1 (bs.map .bool) false)) (fset 1 (some (.bool v)) (fset 7 (some (.int .i64 (bs.length : Int))) (fset 8 (some (.int .i64 (j : Int))) Z27))) ∧
    σ = σ' ∧ j ≤ bs.length ∧ X = idxB v j (bs.drop j) ∧ m = bs.length - j) (n := bs.length) ⟨0, rfl, rfl, by omega, hX.symm, rfl⟩ ?_
  rintro m F σ' ⟨j, rfl, rfl, hj, hXj, rfl⟩
  (repeat (first | refine st_q rfl rfl rfl ?_ | (refine Z8y ?_; (repeat (first | refine Z9v rfl ?_ | refine Z9w ?_)); refine Z9u ?_) | refine awp_seq ?_ | refine Zbm (fun _ _ => rfl) ?_))
  refine Za3 (p := (j : Int) < (bs.length : Int)) rfl (fun h3 => ?_) (fun h3 => ?_)
  · have hjl : j < bs.length := by omega
    rw [List.drop_eq_getElem_cons hjl, idxB] at hXj
    (repeat (first | refine st_q rfl rfl rfl ?_ | (refine Z8y ?_; (repeat (first | refine Z9v rfl ?_ | refine Z9w ?_)); refine Z9u ?_) | refine awp_seq ?_ | refine Zbm (fun _ _ => rfl) ?_ | refine Z8h ?_ | refine Zbn (fun _ _ => rfl) ?_))
    refine Z93 rfl (by omega) (Zxw hjl) ?_
    (repeat (first | refine st_q rfl rfl rfl ?_ | (refine Z8y ?_; (repeat (first | refine Z9v rfl ?_ | refine Z9w ?_)); refine Z9u ?_)))
    cases he : (v == bs[j]) with
    | true =>
      rw [if_pos (by simpa using he)] at hXj
      (repeat (first | refine st_q rfl rfl rfl ?_ | (refine Z8y ?_; (repeat (first | refine Z9v rfl ?_ | refine Z9w ?_)); refine Z9u ?_) | refine awp_seq ?_ | refine Zbm (fun _ _ => rfl) ?_ | refine Kc1 rfl ?_))
      refine Z8d ?_
      exact Kar rfl ⟨by rw [hXj]; rfl, rfl⟩
    | false =>
      rw [if_neg (by simpa using he)] at hXj
      (repeat (first | refine Zbn (fun _ _ => rfl) ?_ | refine Kc2 rfl ?_))
      refine Zbp ?_
      (repeat (refine st_q rfl rfl rfl ?_))
      rw [Kwr j (by omega)]
      (refine Z8y ?_; (repeat (first | refine Z9v rfl ?_ | refine Z9w ?_)); refine Z9u ?_)
      exact ⟨_, bs.length - (j + 1), HSub.refl _, ⟨j + 1, rfl, rfl, by omega, hXj, rfl⟩, by omega⟩
  · (repeat (first | refine st_q rfl rfl rfl ?_ | (refine Z8y ?_; (repeat (first | refine Z9v rfl ?_ | refine Z9w ?_)); refine Z9u ?_) | refine awp_seq ?_ | refine Zbm (fun _ _ => rfl) ?_ | refine Zbo (fun _ _ => rfl) ?_))
    rw [List.drop_of_length_le (by omega), idxB] at hXj
    refine Z8d ?_
    exact Kar rfl ⟨by rw [hXj]; rfl, rfl⟩
theorem Zxy (bs : List Bool) (v : Bool) (hl : bs.length ≤ 140737488355328) (σ : Zc) : Z1q Try.prog Zew [.slc 1 (bs.map .bool) false, .bool v] σ fun r σ' => r = .bool (bs.any (· == v)) ∧ σ' = σ := by
  refine Z8t rfl Zx9 (Nat.le_of_ble_eq_true rfl) ?_
  (repeat (first | refine st_q rfl rfl rfl ?_ | (refine Z8y ?_; (repeat (first | refine Z9v rfl ?_ | refine Z9w ?_)); refine Z9u ?_) | refine awp_seq ?_ | refine Zbm (fun _ _ => rfl) ?_))
  refine Z9t rfl (Zxx bs v hl _) ?_
  (repeat (first | refine st_q rfl rfl rfl ?_ | (refine Z8y ?_; (repeat (first | refine Z9v rfl ?_ | refine Z9w ?_)); refine Z9u ?_)))
  refine Z8d ?_
  exact Kar rfl ⟨by rw [← Zxv v bs 0]; rfl, rfl⟩
theorem Zxz (c : Col) (hl : c.here.length ≤ 140737488355328) (σ : Zc) : Z1q Try.prog Zdl [encC c] σ fun r σ' => r = .bool (hasF c) ∧ σ' = σ := by
  refine Z8t rfl Zx7 (Nat.le_of_ble_eq_true rfl) ?_
  refine Z9z ?_
  refine Z9j rfl (Kfi rfl) fun b hb => ?_
  (repeat (refine st_q rfl rfl rfl ?_))
  (refine Z8y ?_; (repeat (first | refine Z9v rfl ?_ | refine Z9w ?_)); refine Z9u ?_)
  refine Zb3 (d := 1) (cs := Zxu c) rfl ?_
  (repeat (first | refine st_q rfl rfl rfl ?_ | refine awp_seq ?_ | refine Zbm (fun _ _ => rfl) ?_))
  refine Z9t rfl (Zxy c.here false hl _) ?_
  (repeat (first | refine st_q rfl rfl rfl ?_ | (refine Z8y ?_; (repeat (first | refine Z9v rfl ?_ | refine Z9w ?_)); refine Z9u ?_)))
  refine Z8d ?_
  exact Kar rfl ⟨by simp [Z8m, hasF], rfl⟩
end Go.Abs
namespace Go.Abs
open Go Go.Proofs
set_option linter.unusedVariables false
set_option linter.unusedSimpArgs false
def Zy8 (l : List (List UInt8)) : List Z0 := l.map fun b => .slc 1 (bytes b) false
def ColG (w : Z0) (c : Col) (β : Zc) : Prop := ∃ v1 v2 v3 v4 v5 β1 β2 β3 β4 β5, w = .agg [v1, v2, v3, v4, v5] ∧ Zbr 1 v1 (c.here.map .bool) β1 ∧ Zbr 1 v2 (c.ints.map (.int .i64)) β2 ∧
  Zbr 1 v3 (c.ns.map (.int .i64)) β3 ∧ Zbr 1 v4 (Zy8 c.texts) β4 ∧ Zbr 1 v5 (c.lens.map (.int .i64)) β5 ∧ β = β1 ++ (β2 ++ (β3 ++ (β4 ++ β5)))
def Zy9 : List Z0 → List Col → Zc → Prop
  | [], [], β => β = []
  | w :: ws, c :: cs, β => ∃ β1 γ, ColG w c β1 ∧ Zy9 ws cs γ ∧ β = β1 ++ γ
  | _, _, _ => False
theorem Zy9.len : ∀ {ws : List Z0} {cs : List Col} {β : Zc}, Zy9 ws cs β → ws.length = cs.length
  | [], [], _, _ => rfl
  | _ :: _, _ :: _, _, ⟨_, _, _, h, _⟩ => by rw [List.length_cons, List.length_cons, h.len]
  | [], _ :: _, _, h => h.elim
  | _ :: _, [], _, h => h.elim
theorem Zya {α : Type} (a b c : List α) : (a ++ (b ++ c)).Perm (b ++ (a ++ c)) := by
  rw [← List.append_assoc, ← List.append_assoc]
  exact List.Perm.append_right c List.perm_append_comm
theorem Zy9.pick : ∀ {ws : List Z0} {cs : List Col} {β : Zc} (i : Nat) (w : Z0) (c : Col), Zy9 ws cs β → ws[i]? = some w → cs[i]? = some c →
    ∃ β1 γ, ColG w c β1 ∧ β.Perm (β1 ++ γ) ∧ ∀ w' c' β', ColG w' c' β' → ∃ δ, Zy9 (ws.set i w') (cs.set i c') δ ∧ δ.Perm (β' ++ γ)
  | [], [], _, i, w, c, _, h1, _ => by simp at h1
  | [], _ :: _, _, _, _, _, h, _, _ => h.elim
  | _ :: _, [], _, _, _, _, h, _, _ => h.elim
  | x :: ws, y :: cs, β, 0, w, c, ⟨β1, γ, h1, h2, h3⟩, e1, e2 => by
    simp only [List.getElem?_cons_zero, Option.some.injEq] at e1 e2
    subst e1 e2 h3
    exact ⟨β1, γ, h1, List.Perm.refl _, fun w' c' β' h' => ⟨β' ++ γ, ⟨β', γ, h', h2, rfl⟩, List.Perm.refl _⟩⟩
  | x :: ws, y :: cs, β, i + 1, w, c, ⟨β1, γ, h1, h2, h3⟩, e1, e2 => by
    simp only [List.getElem?_cons_succ] at e1 e2
    obtain ⟨η, γ', g1, g2, g3⟩ := Zy9.pick i w c h2 e1 e2
    subst h3
    refine ⟨η, β1 ++ γ', g1, (List.Perm.append_left β1 g2).trans (Zya _ _ _), fun w' c' β' h' => ?_⟩
    obtain ⟨δ, k1, k2⟩ := g3 w' c' β' h'
    exact ⟨β1 ++ δ, ⟨β1, δ, h1, k1, rfl⟩, (List.Perm.append_left β1 k2).trans (Zya _ _ _)⟩
theorem ColG.nil : ColG (.agg [.slc 0 [] true, .slc 0 [] true, .slc 0 [] true, .slc 0 [] true, .slc 0 [] true]) ⟨[], [], [], [], []⟩ [] :=
  ⟨_, _, _, _, _, [], [], [], [], [], rfl, Zbr.nil 1 0, Zbr.nil 1 0, Zbr.nil 1 0, Zbr.nil 1 0, Zbr.nil 1 0, rfl⟩
theorem Zy9.nil : ∀ n, Zy9 (List.replicate n (.agg [.slc 0 [] true, .slc 0 [] true, .slc 0 [] true, .slc 0 [] true, .slc 0 [] true])) (List.replicate n ⟨[], [], [], [], []⟩) []
  | 0 => rfl
  | n + 1 => ⟨[], [], ColG.nil, Zy9.nil n, rfl⟩
theorem Zyb {α : Type} (x : α) (a m r : List α) : (m ++ (x :: (a ++ r))).Perm (x :: (a ++ (m ++ r))) :=
  (Zya m [x] (a ++ r)).trans (List.Perm.cons x (Zya m a r))
theorem Zyd {β τ : Zc} {b : Nat} {x : Zb} (h : (Zh (β ++ (b, x) :: τ)).Nodup) : Zd (β ++ (b, x) :: τ) b = some x := by
  have hb : b ∉ Zh β := by
    intro hb
    rw [Zh, List.map_append, List.nodup_append] at h
    exact h.2.2 b hb b (by simp) rfl
  rw [Zah hb]
  exact Z8z
end Go.Abs
namespace Go.Abs
open Go Go.Proofs
set_option linter.unusedVariables false
set_option linter.unusedSimpArgs false
instance : Inhabited Col := ⟨⟨[], [], [], [], []⟩⟩
def col0 : Col := ⟨[], [], [], [], []⟩
def Zye (k : Int) (v : Vl) (c : Col) : Col :=
  if Zmb k = true then { c with texts := c.texts ++ [v.b] }
  else if k = 10 then { c with lens := c.lens ++ [(v.kids.length : Int)] }
  else if k = 11 then { c with lens := c.lens ++ [((v.kids.length / 2 : Nat) : Int)] }
  else if k ≠ 12 then { c with ints := c.ints ++ [v.i] }
  else c
def Zyf (k : Int) (v : Vl) (c : Col) : Col := if k = 9 then { c with ns := c.ns ++ [v.n] } else c
def Zyg (b : Bool) (c : Col) : Col := { c with here := c.here ++ [b] }
def addC (k : Int) (v : Vl) (c : Col) : Col := Zyf k v (Zye k v (Zyg true c))
def kidC (l : List Nd) (at_ : Nat) (k i : Int) (j : Nat) : Nat :=
  match l[at_]? with
  | some nd => nd.kids.getD (Zmf k i j) 0
  | none => 0
def Zyh (l : List Nd) (at_ : Nat) : Int :=
  match l[at_]? with
  | some nd => nd.t.kind
  | none => 0
mutual
def putF (l : List Nd) (at_ : Nat) : Vl → List Col → List Col × Bool
  | .mk nu i n b ks, cols =>
    if 16384 ≤ (cols.getD at_ col0).here.length then (cols, false)
    else if nu = true then (cols.set at_ (Zyg false (cols.getD at_ col0)), true)
    else putL l at_ i 0 ks (cols.set at_ (addC (Zyh l at_) (.mk nu i n b ks) (cols.getD at_ col0)))
def putL (l : List Nd) (at_ : Nat) (i : Int) (j : Nat) : List Vl → List Col → List Col × Bool
  | [], cols => (cols, true)
  | v :: vs, cols =>
    let r := putF l (kidC l at_ (Zyh l at_) i j) v cols
    if r.2 = true then putL l at_ i (j + 1) vs r.1 else (r.1, false)
end
inductive At (l : List Nd) : Nat → Ty → Prop
  | mk {at_ : Nat} {t : Ty} {nd : Nd} (h : l[at_]? = some nd) (ht : nd.t = t) (hk : nd.kids.length = t.kids.length)
      (hkids : ∀ (j x : Nat) (u : Ty), nd.kids[j]? = some x → t.kids[j]? = some u → At l x u) : At l at_ t
theorem Zyi : ∀ (ks : List Ty) (a : Nat), (Zly a ks).length = ks.length
  | [], _ => rfl
  | t :: ks, a => by rw [Zly, List.length_cons, List.length_cons, Zyi ks]
theorem Zyj : ∀ (ks : List Ty) (a j x : Nat), (Zly a ks)[j]? = some x → x = a + cntL (ks.take j)
  | [], a, j, x, h => by simp [Zly] at h
  | t :: ks, a, 0, x, h => by simp [Zly] at h; simp [cntL, h]
  | t :: ks, a, j + 1, x, h => by
    simp only [Zly, List.getElem?_cons_succ] at h
    rw [Zyj ks _ j x h, List.take_succ_cons, cntL]
    omega
theorem Zyk : ∀ (ks : List Ty) (a j : Nat) (p : Int) (d : Nat) (u : Ty), ks[j]? = some u → ∃ post, Zm0 a p d ks = Zm0 a p d (ks.take j) ++ (Zlz (a + cntL (ks.take j)) p d u ++ post)
  | [], a, j, p, d, u, h => by simp at h
  | t :: ks, a, 0, p, d, u, h => by
    simp only [List.getElem?_cons_zero, Option.some.injEq] at h
    subst h
    exact ⟨Zm0 (a + cnt t) p d ks, by simp only [List.take_zero, cntL, Zm0, List.nil_append, Nat.add_zero]⟩
  | t :: ks, a, j + 1, p, d, u, h => by
    simp only [List.getElem?_cons_succ] at h
    obtain ⟨post, hp⟩ := Zyk ks (a + cnt t) j p d u h
    refine ⟨post, ?_⟩
    rw [Zm0, hp, List.take_succ_cons, Zm0, cntL, List.append_assoc, Nat.add_assoc]
theorem Zyl : ∀ (t : Ty) (pre post : List Nd) (p : Int) (d : Nat), At (pre ++ (Zlz pre.length p d t ++ post)) pre.length t := by
  refine Ty.ind fun k ns ks le pr sc ih pre post p d => ?_
  rw [Zlz]
  refine At.mk (nd := ⟨.mk k ns ks le pr sc, Zly (pre.length + 1) ks, p, d⟩) (by rw [List.getElem?_append_right (Nat.le_refl _), Nat.sub_self]; rfl) rfl (Zyi ks _) fun j x u hx hu => ?_
  have hx' := Zyj _ _ _ _ hx
  have hu' : ks[j]? = some u := hu
  obtain ⟨post', hp⟩ := Zyk ks (pre.length + 1) j (pre.length : Int) (d + 1) u hu'
  have hlen : (Zm0 (pre.length + 1) (pre.length : Int) (d + 1) (ks.take j)).length = cntL (ks.take j) := Zng _ _ _ _
  have := ih u (List.mem_of_getElem? hu') (pre ++ (⟨.mk k ns ks le pr sc, Zly (pre.length + 1) ks, p, d⟩ :: Zm0 (pre.length + 1) (pre.length : Int) (d + 1) (ks.take j))) (post' ++ post) (pre.length : Int) (d + 1)
  have hl2 : (pre ++ ((⟨.mk k ns ks le pr sc, Zly (pre.length + 1) ks, p, d⟩ : Nd) :: Zm0 (pre.length + 1) (pre.length : Int) (d + 1) (ks.take j))).length = x := by
    rw [List.length_append, List.length_cons, hlen, hx']; omega
  rw [hl2] at this
  rw [hp, ← hx']
  simpa [List.append_assoc] using this
theorem At.lt {l : List Nd} {at_ : Nat} {t : Ty} (h : At l at_ t) : at_ < l.length := by
  cases h with
  | mk h _ _ _ => exact (List.getElem?_eq_some_iff.1 h).1
theorem Zym (t : Ty) (h : Zlx t = 0) : At (Zm4 t) 0 t := by
  have := Zyl t [] [] (-1) 1
  rw [Zm4, if_pos h]
  simpa using this
end Go.Abs

