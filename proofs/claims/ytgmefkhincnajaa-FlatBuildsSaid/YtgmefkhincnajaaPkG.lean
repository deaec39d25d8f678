/- Part G of a proof: merged by program. -/
import Derived.Test.YtgmefkhincnajaaPkE
import Derived.Test.YtgmefkhincnajaaProg
import Derived.KernelRfl
set_option linter.unusedVariables false
set_option linter.unusedSimpArgs false
set_option maxHeartbeats 4000000
namespace Go.Abs
open Go
def Ztz : List Z2b := [
 ⟨some 3,(.box 8),[.t 0],none⟩,⟨some 4,(.box 5),[.t 1],none⟩,⟨some 6,.mov,[.c (.int .i64 0)],none⟩]
def Zu0 : List Z2b := [
 ⟨some 7,.mov,[.c (.int .i64 0)],none⟩]
def Zu1 : List Z2b := [
 ⟨some 12,(.fad 0),[.t 3],none⟩,⟨some 13,(.load false 1),[.t 12],none⟩]
def Zu2 : List Z2b := [
 ⟨some 17,(.bin .eql),[.t 13,.c (.int .i64 10)],none⟩,⟨some 16,.mov,[.t 17],none⟩]
def Zu3 : List Z2b := [
 ⟨some 18,(.bin .eql),[.t 13,.c (.int .i64 11)],none⟩,⟨some 16,.mov,[.t 18],none⟩]
def Zu4 : List Z2b := [
 ⟨some 19,(.fad 4),[.t 4],none⟩,⟨some 20,(.load false 1),[.t 19],none⟩,⟨some 21,.lens,[.t 20],none⟩,⟨some 22,.mov,[.c (.int .i64 0)],none⟩]
def Zu5 : List Z2b := [
 ⟨some 23,(.bin .lss),[.t 22,.t 21],none⟩]
def Zu6 : List Z2b := [
 ⟨some 24,(.iad 1),[.t 20,.t 22],none⟩,⟨some 25,(.load false 1),[.t 24],none⟩,⟨some 9,.mov,[.t 25],none⟩]
def Zu7 : List Z2b := [
 ⟨some 26,.mov,[.t 9],none⟩,⟨some 27,(.bin .lss),[.t 26,.c (.int .i64 0)],none⟩,⟨some 28,.mov,[.t 27],none⟩,⟨some 29,.mov,[.t 9],some (28,false)⟩,⟨some 30,.mov,[.t 7],some (28,false)⟩,⟨some 31,(.bin .sub),[.c (.int .i64 16384),.t 30],some (28,false)⟩,⟨some 32,(.bin .gtr),[.t 29,.t 31],some (28,false)⟩,⟨some 33,.pick,[.t 28,.c (.bool true),.t 32],none⟩]
def Zu8 : List Z2b := [
 ⟨some 6,.mov,[.c (.int .i64 16385)],none⟩]
def Zu9 : List Z2b := [
 ⟨some 34,.mov,[.t 7],none⟩,⟨some 35,.mov,[.t 9],none⟩,⟨some 36,(.bin .add),[.t 34,.t 35],none⟩,⟨some 7,.mov,[.t 36],none⟩]
def Zua : List Z2b := [
 ⟨some 37,(.bin .add),[.t 22,.c (.int .i64 1)],none⟩,⟨some 22,.mov,[.t 37],none⟩]
def Zub : Z2c := (.seq (.region Zu5 [7,20,21,22,23]) (.seq (.cond (.t 23) .skip (.exit 1)) (.seq (.block 2 (.seq (.region Zu6 [7,9,20,21,22]) (.seq (.seq (.region Zu7 [7,9,20,21,22,33]) (.cond (.t 33) (.seq (.region Zu8 [6]) .ret) .skip)) (.region Zu9 [7,20,21,22])))) (.region Zua [7,20,21,22]))))
def Zuc : List Z2b := [
 ⟨some 39,(.bin .eql),[.t 13,.c (.int .i64 13)],none⟩,⟨some 38,.mov,[.t 39],none⟩]
def Zud : List Z2b := [
 ⟨some 40,(.fad 1),[.t 4],none⟩,⟨some 41,(.load false 1),[.t 40],none⟩,⟨some 42,.lens,[.t 41],none⟩,⟨some 43,.mov,[.c (.int .i64 0)],none⟩]
def Zue : List Z2b := [
 ⟨some 44,(.bin .lss),[.t 43,.t 42],none⟩]
def Zuf : List Z2b := [
 ⟨some 45,(.iad 1),[.t 41,.t 43],none⟩,⟨some 46,(.load false 1),[.t 45],none⟩,⟨some 11,.mov,[.t 46],none⟩]
def Zug : List Z2b := [
 ⟨some 47,.mov,[.t 11],none⟩,⟨some 48,.mov,[.t 2],none⟩,⟨some 49,(.bin .eql),[.t 47,.t 48],none⟩]
def Zuh : List Z2b := [
 ⟨some 50,.mov,[.t 7],none⟩,⟨some 51,(.bin .add),[.t 50,.c (.int .i64 1)],none⟩,⟨some 7,.mov,[.t 51],none⟩]
def Zui : List Z2b := [
 ⟨some 52,(.bin .add),[.t 43,.c (.int .i64 1)],none⟩,⟨some 43,.mov,[.t 52],none⟩]
def Zuj : Z2c := (.seq (.region Zue [2,7,41,42,43,44]) (.seq (.cond (.t 44) .skip (.exit 3)) (.seq (.block 4 (.seq (.region Zuf [2,7,11,41,42,43]) (.seq (.region Zug [2,7,41,42,43,49]) (.cond (.t 49) (.region Zuh [2,7,41,42,43]) .skip)))) (.region Zui [2,7,41,42,43]))))
def Zuk : List Z2b := [
 ⟨some 14,(.load true 5),[.t 4],none⟩,⟨some 15,(.call Zf9),[.t 14],none⟩,⟨some 7,.mov,[.t 15],none⟩]
def Zul : List Z2b := [
 ⟨some 53,.mov,[.t 7],none⟩,⟨some 6,.mov,[.t 53],none⟩]
def Zum : Z2z := ⟨54,(.seq (.region Ztz [2,3,4]) (.seq (.region Zu0 [2,3,4,7]) (.seq (.seq (.region Zu1 [2,4,7,13]) (.block 0 (.seq (.seq (.region Zu2 [2,4,7,13,16]) (.cond (.t 16) .skip (.region Zu3 [2,4,7,13,16]))) (.cond (.t 16) (.seq (.region Zu4 [7,20,21,22]) (.block 1 (.loop Zub))) (.seq (.region Zuc [2,4,7,38]) (.cond (.t 38) (.seq (.region Zud [2,7,41,42,43]) (.block 3 (.loop Zuj))) (.region Zuk [7]))))))) (.seq (.region Zul [6]) .ret)))),[.t 6]⟩
def Zun : List Z2b := [
 ⟨some 2,(.alloc (.agg [(.bool false),(.bool false),(.bool false),(.bool false)])),[],none⟩]
def Zuo : List Z2b := [
 ⟨some 3,(.alloc (.agg [(.bool false),(.bool false),(.bool false),(.bool false)])),[],none⟩]
def Zup : List Z2b := [
 ⟨some 4,.mov,[.t 0],none⟩]
def Zuq : List Z2b := [
 ⟨some 6,(.bin .eql),[.t 4,.c (.int .i64 12)],none⟩,⟨some 5,.mov,[.t 6],none⟩]
def Zur : List Z2b := [
 ⟨some 8,(.bin .eql),[.t 4,.c (.int .i64 10)],none⟩,⟨some 7,.mov,[.t 8],none⟩]
def Zus : List Z2b := [
 ⟨some 9,(.bin .eql),[.t 4,.c (.int .i64 11)],none⟩,⟨some 7,.mov,[.t 9],none⟩]
def Zut : List Z2b := [
 ⟨some 11,(.bin .eql),[.t 4,.c (.int .i64 7)],none⟩,⟨some 10,.mov,[.t 11],none⟩]
def Zuu : List Z2b := [
 ⟨some 12,(.bin .eql),[.t 4,.c (.int .i64 8)],none⟩,⟨some 10,.mov,[.t 12],none⟩]
def Zuv : List Z2b := [
 ⟨some 13,(.bin .eql),[.t 4,.c (.int .i64 16)],none⟩,⟨some 10,.mov,[.t 13],none⟩]
def Zuw : List Z2b := [
 ⟨some 14,(.bin .eql),[.t 4,.c (.int .i64 17)],none⟩,⟨some 10,.mov,[.t 14],none⟩]
def Zux : List Z2b := [
 ⟨some 16,(.bin .eql),[.t 4,.c (.int .i64 9)],none⟩,⟨some 15,.mov,[.t 16],none⟩]
def Zuy : List Z2b := [
 ⟨some 17,(.fad 3),[.t 3],none⟩,⟨none,(.store 1),[.t 17,.c (.bool true)],none⟩]
def Zuz : List Z2b := [
 ⟨some 18,(.fad 2),[.t 3],none⟩,⟨none,(.store 1),[.t 18,.c (.bool true)],none⟩]
def Zv0 : List Z2b := [
 ⟨some 19,(.fad 1),[.t 3],none⟩,⟨none,(.store 1),[.t 19,.c (.bool true)],none⟩]
def Zv1 : List Z2b := [
 ⟨some 20,(.fad 0),[.t 3],none⟩,⟨none,(.store 1),[.t 20,.c (.bool true)],none⟩]
def Zv2 : List Z2b := [
 ⟨some 21,(.load true 4),[.t 3],none⟩,⟨none,(.store 4),[.t 2,.t 21],none⟩]
def Zv3 : Z2z := ⟨22,(.seq (.region Zun [0,2]) (.seq (.region Zuo [0,2,3]) (.seq (.seq (.region Zup [2,3,4]) (.block 0 (.seq (.block 5 (.seq (.block 4 (.seq (.block 3 (.seq (.block 2 (.seq (.block 1 (.seq (.seq (.seq (.region Zuq [2,3,4,5]) (.cond (.t 5) (.exit 1) .skip)) (.seq (.seq (.seq (.region Zur [2,3,4,7]) (.cond (.t 7) .skip (.region Zus [2,3,4,7]))) (.cond (.t 7) (.exit 2) .skip)) (.seq (.seq (.seq (.region Zut [2,3,4,10]) (.cond (.t 10) .skip (.seq (.region Zuu [2,3,4,10]) (.cond (.t 10) .skip (.seq (.region Zuv [2,3,4,10]) (.cond (.t 10) .skip (.region Zuw [2,3,4,10]))))))) (.cond (.t 10) (.exit 3) .skip)) (.seq (.region Zux [2,3,15]) (.cond (.t 15) (.exit 4) .skip))))) (.exit 5))) (.exit 0))) (.seq (.region Zuy [2,3]) (.exit 0)))) (.seq (.region Zuz [2,3]) (.exit 0)))) (.region Zv0 [2,3]))) (.seq (.region Zv1 [2,3]) (.exit 0))))) (.seq (.region Zv2 [2]) .ret)))),[.cell 2 true 4]⟩
def Zv4 : List Z2b := [
 ⟨some 1,(.box 5),[.t 0],none⟩,⟨some 2,.mov,[.c (.int .i64 0)],none⟩]
def Zv5 : List Z2b := [
 ⟨some 3,.mov,[.c (.int .i64 0)],none⟩]
def Zv6 : List Z2b := [
 ⟨some 6,(.fad 0),[.t 1],none⟩,⟨some 7,(.load false 1),[.t 6],none⟩,⟨some 8,.lens,[.t 7],none⟩,⟨some 9,.mov,[.c (.int .i64 0)],none⟩]
def Zv7 : List Z2b := [
 ⟨some 10,(.bin .lss),[.t 9,.t 8],none⟩]
def Zv8 : List Z2b := [
 ⟨some 11,(.iad 1),[.t 7,.t 9],none⟩,⟨some 12,(.load false 1),[.t 11],none⟩,⟨some 5,.mov,[.t 12],none⟩]
def Zv9 : List Z2b := [
 ⟨some 13,.mov,[.t 5],none⟩]
def Zva : List Z2b := [
 ⟨some 14,.mov,[.t 3],none⟩,⟨some 15,(.bin .add),[.t 14,.c (.int .i64 1)],none⟩,⟨some 3,.mov,[.t 15],none⟩]
def Zvb : List Z2b := [
 ⟨some 16,(.bin .add),[.t 9,.c (.int .i64 1)],none⟩,⟨some 9,.mov,[.t 16],none⟩]
def Zvc : Z2c := (.seq (.region Zv7 [3,7,8,9,10]) (.seq (.cond (.t 10) .skip (.exit 0)) (.seq (.block 1 (.seq (.region Zv8 [3,5,7,8,9]) (.seq (.region Zv9 [3,7,8,9,13]) (.cond (.t 13) (.region Zva [3,7,8,9]) .skip)))) (.region Zvb [3,7,8,9]))))
def Zvd : List Z2b := [
 ⟨some 17,.mov,[.t 3],none⟩,⟨some 2,.mov,[.t 17],none⟩]
def Zve : Z2z := ⟨18,(.seq (.region Zv4 [1]) (.seq (.region Zv5 [1,3]) (.seq (.seq (.region Zv6 [3,7,8,9]) (.block 0 (.loop Zvc))) (.seq (.region Zvd [2]) .ret)))),[.t 2]⟩
def Zvf : List Z2b := [
 ⟨some 1,(.box 5),[.t 0],none⟩,⟨some 2,.mov,[.c (.int .i64 0)],none⟩]
def Zvg : List Z2b := [
 ⟨some 3,.mov,[.c (.int .i64 0)],none⟩]
def Zvh : List Z2b := [
 ⟨some 4,.mov,[.c (.int .i64 0)],none⟩]
def Zvi : List Z2b := [
 ⟨some 5,.mov,[.t 4],none⟩,⟨some 6,(.fad 0),[.t 1],none⟩,⟨some 7,(.load false 1),[.t 6],none⟩,⟨some 8,.lens,[.t 7],none⟩,⟨some 9,(.bin .lss),[.t 5,.t 8],none⟩]
def Zvj : List Z2b := [
 ⟨some 12,(.fad 0),[.t 1],none⟩,⟨some 13,(.load false 1),[.t 12],none⟩,⟨some 14,.mov,[.t 4],none⟩,⟨some 15,(.iad 1),[.t 13,.t 14],none⟩,⟨some 16,(.load false 1),[.t 15],none⟩]
def Zvk : List Z2b := [
 ⟨some 17,.mov,[.t 3],none⟩,⟨some 18,(.bin .add),[.t 17,.c (.int .i64 1)],none⟩,⟨some 3,.mov,[.t 18],none⟩]
def Zvl : List Z2b := [
 ⟨some 10,.mov,[.t 4],none⟩,⟨some 11,(.bin .add),[.t 10,.c (.int .i64 1)],none⟩,⟨some 4,.mov,[.t 11],none⟩]
def Zvm : Z2c := (.seq (.seq (.region Zvi [1,3,4,9]) (.cond (.t 9) .skip (.exit 0))) (.seq (.block 1 (.seq (.region Zvj [1,3,4,16]) (.cond (.t 16) (.region Zvk [1,3,4]) .skip))) (.region Zvl [1,3,4])))
def Zvn : List Z2b := [
 ⟨some 19,.mov,[.t 3],none⟩,⟨some 2,.mov,[.t 19],none⟩]
def Zvo : Z2z := ⟨20,(.seq (.region Zvf [1]) (.seq (.region Zvg [1,3]) (.seq (.seq (.region Zvh [1,3,4]) (.block 0 (.loop Zvm))) (.seq (.region Zvn [2]) .ret)))),[.t 2]⟩
def Zvp : List Z2b := [
 ⟨some 1,(.box 6),[.t 0],none⟩,⟨some 2,.mov,[.c (.bool false)],none⟩]
def Zvq : List Z2b := [
 ⟨some 4,(.load true 6),[.t 1],none⟩,⟨some 5,(.call Zed),[.t 4,.c (.int .i64 1)],none⟩,⟨some 3,.mov,[.t 5],none⟩]
def Zvr : List Z2b := [
 ⟨some 6,.mov,[.t 3],none⟩,⟨some 7,(.bin .leq),[.t 6,.c (.int .i64 150)],none⟩,⟨some 2,.mov,[.t 7],none⟩]
def Zvs : Z2z := ⟨8,(.seq (.region Zvp [1]) (.seq (.region Zvq [3]) (.seq (.region Zvr [2]) .ret))),[.t 2]⟩
def Zvt : List Z2b := [
 ⟨some 2,(.box 6),[.t 0],none⟩,⟨some 4,.mov,[.c (.int .i64 0)],none⟩]
def Zvu : List Z2b := [
 ⟨some 8,.mov,[.t 1],none⟩,⟨some 9,(.bin .gtr),[.t 8,.c (.int .i64 20)],none⟩,⟨some 10,.mov,[.t 9],none⟩,⟨some 11,(.fad 2),[.t 2],some (10,false)⟩,⟨some 12,(.load false 1),[.t 11],some (10,false)⟩,⟨some 13,.lens,[.t 12],some (10,false)⟩,⟨some 14,(.bin .gtr),[.t 13,.c (.int .i64 300)],some (10,false)⟩,⟨some 15,.pick,[.t 10,.c (.bool true),.t 14],none⟩,⟨some 16,.mov,[.t 15],none⟩,⟨some 17,(.fad 1),[.t 2],some (16,false)⟩,⟨some 18,(.load false 1),[.t 17],some (16,false)⟩,⟨some 19,.lens,[.t 18],some (16,false)⟩,⟨some 20,(.bin .gtr),[.t 19,.c (.int .i64 300)],some (16,false)⟩,⟨some 21,.pick,[.t 16,.c (.bool true),.t 20],none⟩]
def Zvv : List Z2b := [
 ⟨some 4,.mov,[.c (.int .i64 1000)],none⟩]
def Zvw : List Z2b := [
 ⟨some 5,.mov,[.c (.int .i64 1)],none⟩]
def Zvx : List Z2b := [
 ⟨some 6,.mov,[.c (.int .i64 0)],none⟩]
def Zvy : List Z2b := [
 ⟨some 22,.mov,[.t 6],none⟩,⟨some 23,(.fad 1),[.t 2],none⟩,⟨some 24,(.load false 1),[.t 23],none⟩,⟨some 25,.lens,[.t 24],none⟩,⟨some 26,(.bin .lss),[.t 22,.t 25],none⟩]
def Zvz : List Z2b := [
 ⟨some 29,(.fad 1),[.t 2],none⟩,⟨some 30,(.load false 1),[.t 29],none⟩,⟨some 31,.mov,[.t 6],none⟩,⟨some 32,(.iad 1),[.t 30,.t 31],none⟩,⟨some 33,(.load false 1),[.t 32],none⟩,⟨some 34,.lent,[.t 33],none⟩,⟨some 35,(.bin .gtr),[.t 34,.c (.int .i64 200)],none⟩]
def Zw0 : List Z2b := [
 ⟨some 4,.mov,[.c (.int .i64 1000)],none⟩]
def Zw1 : List Z2b := [
 ⟨some 27,.mov,[.t 6],none⟩,⟨some 28,(.bin .add),[.t 27,.c (.int .i64 1)],none⟩,⟨some 6,.mov,[.t 28],none⟩]
def Zw2 : Z2c := (.seq (.seq (.region Zvy [1,2,5,6,26]) (.cond (.t 26) .skip (.exit 0))) (.seq (.block 1 (.seq (.region Zvz [1,2,5,6,35]) (.cond (.t 35) (.seq (.region Zw0 [4]) .ret) .skip))) (.region Zw1 [1,2,5,6])))
def Zw3 : List Z2b := [
 ⟨some 7,.mov,[.c (.int .i64 0)],none⟩]
def Zw4 : List Z2b := [
 ⟨some 36,.mov,[.t 7],none⟩,⟨some 37,(.fad 2),[.t 2],none⟩,⟨some 38,(.load false 1),[.t 37],none⟩,⟨some 39,.lens,[.t 38],none⟩,⟨some 40,(.bin .lss),[.t 36,.t 39],none⟩]
def Zw5 : List Z2b := [
 ⟨some 43,.mov,[.t 5],none⟩,⟨some 44,(.fad 2),[.t 2],none⟩,⟨some 45,(.load false 1),[.t 44],none⟩,⟨some 46,.mov,[.t 7],none⟩,⟨some 47,(.iad 6),[.t 45,.t 46],none⟩,⟨some 48,(.load true 6),[.t 47],none⟩,⟨some 49,.mov,[.t 1],none⟩,⟨some 50,(.bin .add),[.t 49,.c (.int .i64 1)],none⟩,⟨some 51,(.call Zed),[.t 48,.t 50],none⟩,⟨some 52,(.bin .add),[.t 43,.t 51],none⟩,⟨some 5,.mov,[.t 52],none⟩]
def Zw6 : List Z2b := [
 ⟨some 53,.mov,[.t 5],none⟩,⟨some 54,(.bin .gtr),[.t 53,.c (.int .i64 1000)],none⟩]
def Zw7 : List Z2b := [
 ⟨some 4,.mov,[.c (.int .i64 1000)],none⟩]
def Zw8 : List Z2b := [
 ⟨some 41,.mov,[.t 7],none⟩,⟨some 42,(.bin .add),[.t 41,.c (.int .i64 1)],none⟩,⟨some 7,.mov,[.t 42],none⟩]
def Zw9 : Z2c := (.seq (.seq (.region Zw4 [1,2,5,7,40]) (.cond (.t 40) .skip (.exit 2))) (.seq (.block 3 (.seq (.region Zw5 [1,2,5,7]) (.seq (.region Zw6 [1,2,5,7,54]) (.cond (.t 54) (.seq (.region Zw7 [4]) .ret) .skip)))) (.region Zw8 [1,2,5,7])))
def Zwa : List Z2b := [
 ⟨some 55,.mov,[.t 5],none⟩,⟨some 4,.mov,[.t 55],none⟩]
def Zwb : Z2z := ⟨56,(.seq (.region Zvt [1,2]) (.seq (.seq (.region Zvu [1,2,21]) (.cond (.t 21) (.seq (.region Zvv [4]) .ret) .skip)) (.seq (.region Zvw [1,2,5]) (.seq (.seq (.region Zvx [1,2,5,6]) (.block 0 (.loop Zw2))) (.seq (.seq (.region Zw3 [1,2,5,7]) (.block 2 (.loop Zw9))) (.seq (.region Zwa [4]) .ret)))))),[.t 4]⟩
def Zwc : List Z2b := [
 ⟨some 1,(.box 6),[.t 0],none⟩,⟨some 2,.mov,[.c (.slc 0 [] true)],none⟩]
def Zwd : List Z2b := [
 ⟨some 3,(.load true 6),[.t 1],none⟩,⟨some 4,(.call Zdc),[.t 3],none⟩,⟨some 5,(.bin .neq),[.t 4,.c (.int .i64 0)],none⟩]
def Zwe : List Z2b := [
 ⟨some 2,.mov,[.c (.slc 0 [] true)],none⟩]
def Zwf : List Z2b := [
 ⟨some 6,(.load true 6),[.t 1],none⟩,⟨some 7,(.call Zde),[.c (.slc 0 [] true),.t 6,.c (.int .i64 (-1)),.c (.int .i64 1)],none⟩,⟨some 8,(.call Zdd),[.t 7],none⟩,⟨some 2,.mov,[.t 8],none⟩]
def Zwg : Z2z := ⟨9,(.seq (.region Zwc [1]) (.seq (.seq (.region Zwd [1,5]) (.cond (.t 5) (.seq (.region Zwe [2]) .ret) .skip)) (.seq (.region Zwf [2]) .ret))),[.t 2]⟩
def Zwh : List Z2b := [
 ⟨some 5,(.box 6),[.t 1],none⟩,⟨some 8,.mov,[.c (.slc 0 [] true)],none⟩]
def Zwi : List Z2b := [
 ⟨some 13,.mov,[.t 0],none⟩,⟨some 14,.lens,[.t 13],none⟩,⟨some 9,.mov,[.t 14],none⟩]
def Zwj : List Z2b := [
 ⟨some 15,.mov,[.t 0],none⟩,⟨some 16,(.fad 0),[.t 5],none⟩,⟨some 17,(.load false 1),[.t 16],none⟩,⟨some 18,(.fad 1),[.t 5],none⟩,⟨some 19,(.load false 1),[.t 18],none⟩,⟨some 20,(.callp Zel),[.t 19],none⟩,⟨some 21,(.callp Zek),[.t 20],none⟩,⟨some 22,(.fad 3),[.t 5],none⟩,⟨some 23,(.load false 1),[.t 22],none⟩,⟨some 24,(.fad 4),[.t 5],none⟩,⟨some 25,(.load false 1),[.t 24],none⟩,⟨some 26,(.fad 5),[.t 5],none⟩,⟨some 27,(.load false 1),[.t 26],none⟩,⟨some 28,.mov,[.t 2],none⟩,⟨some 29,.mov,[.t 3],none⟩,⟨some 30,(.bld [(.int .i64 0),(.slc 0 [] true),(.slc 0 [] true),(.int .i64 0),(.int .i64 0),(.int .i64 0),(.int .i64 0),(.int .i64 0)] [(0,1),(1,1),(2,1),(3,1),(4,1),(5,1),(6,1),(7,1)]),[.t 17,.c (.slc 0 [] true),.t 21,.t 23,.t 25,.t 27,.t 28,.t 29],none⟩,⟨some 31,(.bsl 8),[.t 30],none⟩,⟨some 32,(.app 8 96),[.t 15,.t 31],none⟩,⟨some 0,.mov,[.t 32],none⟩]
def Zwk : List Z2b := [
 ⟨some 10,.mov,[.c (.slc 0 [] true)],none⟩]
def Zwl : List Z2b := [
 ⟨some 33,(.fad 2),[.t 5],none⟩,⟨some 34,(.load false 1),[.t 33],none⟩,⟨some 35,.lens,[.t 34],none⟩,⟨some 36,.mov,[.c (.int .i64 0)],none⟩]
def Zwm : List Z2b := [
 ⟨some 37,(.bin .lss),[.t 36,.t 35],none⟩]
def Zwn : List Z2b := [
 ⟨some 38,(.iad 6),[.t 34,.t 36],none⟩,⟨some 39,(.load true 6),[.t 38],none⟩,⟨some 12,(.alloc (.agg [(.int .i64 0),(.slc 0 [] true),(.slc 0 [] true),(.int .i64 0),(.int .i64 0),(.int .i64 0)])),[],none⟩,⟨none,(.store 6),[.t 12,.t 39],none⟩]
def Zwo : List Z2b := [
 ⟨some 40,.mov,[.t 10],none⟩,⟨some 41,.mov,[.t 0],none⟩,⟨some 42,.lens,[.t 41],none⟩,⟨some 43,(.bsl 1),[.t 42],none⟩,⟨some 44,(.app 1 8),[.t 40,.t 43],none⟩,⟨some 10,.mov,[.t 44],none⟩]
def Zwp : List Z2b := [
 ⟨some 45,.mov,[.t 0],none⟩,⟨some 46,(.load true 6),[.t 12],none⟩,⟨some 47,.mov,[.t 9],none⟩,⟨some 48,.mov,[.t 3],none⟩,⟨some 49,(.bin .add),[.t 48,.c (.int .i64 1)],none⟩,⟨some 50,(.call Zde),[.t 45,.t 46,.t 47,.t 49],none⟩,⟨some 0,.mov,[.t 50],none⟩]
def Zwq : List Z2b := [
 ⟨some 51,(.bin .add),[.t 36,.c (.int .i64 1)],none⟩,⟨some 36,.mov,[.t 51],none⟩]
def Zwr : Z2c := (.seq (.region Zwm [0,3,9,10,34,35,36,37]) (.seq (.cond (.t 37) .skip (.exit 0)) (.seq (.block 1 (.seq (.region Zwn [0,3,9,10,12,34,35,36]) (.seq (.region Zwo [0,3,9,10,12,34,35,36]) (.region Zwp [0,3,9,10,34,35,36])))) (.region Zwq [0,3,9,10,34,35,36]))))
def Zws : List Z2b := [
 ⟨some 52,.mov,[.t 0],none⟩,⟨some 53,.mov,[.t 9],none⟩,⟨some 54,.mov,[.t 10],none⟩,⟨some 55,(.call Zem),[.t 54],none⟩,⟨some 56,(.iad 8),[.t 52,.t 53],none⟩,⟨some 57,(.fad 1),[.t 56],none⟩,⟨none,(.store 1),[.t 57,.t 55],none⟩]
def Zwt : List Z2b := [
 ⟨some 58,.mov,[.t 0],none⟩,⟨some 8,.mov,[.t 58],none⟩]
def Zwu : Z2z := ⟨59,(.seq (.region Zwh [0,2,3,5]) (.seq (.region Zwi [0,2,3,5,9]) (.seq (.region Zwj [0,3,5,9]) (.seq (.region Zwk [0,3,5,9,10]) (.seq (.seq (.region Zwl [0,3,9,10,34,35,36]) (.block 0 (.loop Zwr))) (.seq (.region Zws [0]) (.seq (.region Zwt [8]) .ret))))))),[.t 8]⟩
end Go.Abs
namespace Go.Abs
open Go Go.Proofs
theorem Zwv : Z30 Try.prog [] Ze7 = some Zum.erase := by kernel_rfl
theorem Zww : Z30 Try.prog [] Zf7 = some Zv3.erase := by kernel_rfl
theorem Zwx : Z30 Try.prog [] Zf9 = some Zve.erase := by kernel_rfl
theorem Zwy : Z30 Try.prog [] Zfa = some Zvo.erase := by kernel_rfl
theorem Zwz : Z30 Try.prog [] Zd1 = some Zvs.erase := by kernel_rfl
theorem Zx0 : Z30 Try.prog [] Zed = some Zwb.erase := by kernel_rfl
theorem Zx1 : Z30 Try.prog [] Zc2 = some Zwg.erase := by kernel_rfl
theorem Zx2 : Z30 Try.prog [(2, 6), (2, 5)] Zde = some Zwu.erase := by kernel_rfl
end Go.Abs
namespace Go.Abs
open Go Go.Proofs
attribute [local irreducible] AWp aops KP
def Zx3 (a b : Stt) : Bool := decide (a.count = b.count) && ((a.null == b.null) && ((a.has == b.has) && (Ztu a.min b.min && (Ztu a.max b.max && ((a.sums == b.sums) && decide (a.sum = b.sum))))))
end Go.Abs
namespace Go.Abs
open Go Go.Proofs
attribute [local irreducible] AWp aops KP
end Go.Abs
namespace Go.Abs
open Go Go.Proofs
mutual
def fewT (deep : Nat) : Ty → Nat
 | .mk k ns ks l p s => if 20 < deep ∨ 300 < ks.length ∨ 300 < ns.length then 1000 else if ns.any (fun s => decide (200 < s.length)) = true then 1000 else Zx4 (deep + 1) 1 ks
def Zx4 (deep n : Nat) : List Ty → Nat
 | [] => n
 | t :: ts => if 1000 < n + fewT deep t then 1000 else Zx4 deep (n + fewT deep t) ts
end
mutual
def fewV (deep : Nat) : Vl → Nat
 | .mk nu i n b ks => if 20 < deep ∨ 400 < ks.length ∨ 5000 < b.length then 1000 else Zx5 (deep + 1) (1 + b.length / 50) ks
def Zx5 (deep n : Nat) : List Vl → Nat
 | [] => n
 | t :: ts => if 1000 < n + fewV deep t then 1000 else Zx5 deep (n + fewV deep t) ts
end
theorem Zx6 : ∀ (ts : List Ty) (deep n : Nat), n ≤ 1000 → n ≤ Zx4 deep n ts
 | [], deep, n, h => by rw [Zx4]; omega
 | t :: ts, deep, n, h => by
  rw [Zx4]
  split
  ·exact h
  ·have := Zx6 ts deep (n + fewT deep t) (by omega)
   omega
theorem Zx7 : ∀ (ts : List Ty) (deep n : Nat), n ≤ 1000 → Zx4 deep n ts < 1000 → ∀ t ∈ ts, fewT deep t < 1000 ∧ n + fewT deep t ≤ Zx4 deep n ts
 | [], _, _, _, _, t, ht => by cases ht
 | t :: ts, deep, n, h, hlt, u, hu => by
  rw [Zx4] at hlt ⊢
  split at hlt
  ·omega
  ·rename_i h1
   rw [if_neg h1]
   have hge := Zx6 ts deep (n + fewT deep t) (by omega)
   rcases List.mem_cons.1 hu with rfl | hu
   ·omega
   ·have := Zx7 ts deep (n + fewT deep t) (by omega) hlt u hu
    omega
theorem Zx8 : ∀ (t : Ty) (deep : Nat), fewT deep t ≤ 1000 := by
 refine Ty.ind fun k ns ks l p s ih deep => ?_
 have hL : ∀ (ts : List Ty) (deep n : Nat), n ≤ 1000 → Zx4 deep n ts ≤ 1000 := by
  intro ts
  induction ts with
  | nil => intro deep n h; rw [Zx4]; exact h
  | cons t ts ih2 =>
   intro deep n h
   rw [Zx4]
   split
   ·omega
   ·exact ih2 deep _ (by omega)
 rw [fewT]
 split
 ·omega
 ·split
  ·omega
  ·exact hL ks _ 1 (by omega)
inductive Ty.Few : Ty → Prop
 | mk {t : Ty} (h1 : t.kids.length ≤ 300) (h2 : t.names.length ≤ 300) (h4 : ∀ s ∈ t.names, s.length ≤ 200) (h : ∀ k ∈ t.kids, Ty.Few k) : Ty.Few t
theorem Zx9 : ∀ (t : Ty) (deep : Nat), fewT deep t < 1000 → t.Few := by
 refine Ty.ind fun k ns ks l p s ih deep h => ?_
 rw [fewT] at h
 split at h
 ·omega
 ·split at h
  ·omega
  ·rename_i h1 h2
   refine .mk (by show ks.length ≤ 300; omega) (by show ns.length ≤ 300; omega) (fun s hs => ?_) fun t ht => ih t ht (deep + 1) (Zx7 ks (deep + 1) 1 (by omega) h t ht).1
   refine Nat.le_of_not_lt fun h3 => h2 ?_
   exact List.any_eq_true.2 ⟨s, hs, decide_eq_true h3⟩
theorem Ty.Few.fit : ∀ t : Ty, t.Few → t.Fit := by
 refine Ty.ind fun k ns ks l p s ih h => ?_
 cases h with
 | mk h1 h2 h4 h3 => exact .mk (by omega) (by omega) (fun s hs => Nat.le_trans (h4 s hs) (by unfold maxLen; omega)) fun t ht => ih t ht (h3 t ht)
inductive Vl.Few : Vl → Prop
 | mk {v : Vl} (h1 : v.b.length ≤ 5000) (h2 : v.kids.length ≤ 400) (h : ∀ k ∈ v.kids, Vl.Few k) : Vl.Few v
def fewR (n : Nat) : List Vl → Bool
 | [] => true
 | v :: vs => if 1000 < n + fewV 1 v then false else fewR (n + fewV 1 v) vs
end Go.Abs
namespace Go.Abs
open Go Go.Proofs
attribute [local irreducible] AWp aops KP
theorem Zxa : ∀ (t : Ty) (deep : Nat), deep ≤ 1000 → ∀ σ, Z1s Try.prog Zed [encT t, .int .i64 (deep : Int)] σ fun r σ' => r = .int .i64 (fewT deep t : Int) ∧ σ' = σ := by
 refine Ty.ind fun k ns ks l p s ih deep hd σ => ?_
 rw [Zm0]
 refine Z94 rfl Zx0 (Nat.le_of_ble_eq_true rfl) ?_
 refine Za1 ?_
 refine Z9n rfl (Kfi rfl) fun b2 hb2 => ?_
 repeat refine Kq rfl rfl rfl ?_
 (refine Z99 ?_; (repeat(first|refine Z9x rfl ?_|refine Z9y ?_)); refine Z9w ?_)
 refine Zaj (d := 2) (cs := [.int .i64 k, .slc 1 (ns.map .str) false, .slc 6 (Zly ks) false, .int .i64 l, .int .i64 p, .int .i64 s]) rfl ?_
 generalize hX : fewT deep (.mk k ns ks l p s) = X
 rw [fewT] at hX
 by_cases h1 : 20 < deep
 ·(repeat(first|refine Kq rfl rfl rfl ?_|refine Ks ?_|refine Zb1 (fun _ _ => rfl) ?_))
  (rw [decide_eq_true (p := (20 : Int) < (deep : Int)) (by omega)])
  (repeat(first|refine Kq rfl rfl rfl ?_|refine Z97 rfl ?_|(refine Z99 ?_; (repeat(first|refine Z9x rfl ?_|refine Z9y ?_)); refine Z9w ?_)|refine Ks ?_|refine Zb1 (fun _ _ => rfl) ?_|refine Kc1 rfl ?_))
  (refine Z8o ?_; exact Kar rfl ⟨(by rw [← hX, if_pos (.inl h1)]; rfl), rfl⟩)
 (repeat(first|refine Kq rfl rfl rfl ?_|refine Ks ?_|refine Zb1 (fun _ _ => rfl) ?_))
 (rw [decide_eq_false (p := (20 : Int) < (deep : Int)) (by omega)])
 (repeat(first|refine Kq rfl rfl rfl ?_|refine Z96 rfl (Kq rfl rfl rfl ?_)))
 rw [Zm2]
 by_cases h2 : 300 < ks.length
 ·(rw [decide_eq_true (p := (300 : Int) < (ks.length : Int)) (by omega)])
  (repeat(first|refine Kq rfl rfl rfl ?_|refine Z97 rfl ?_|(refine Z99 ?_; (repeat(first|refine Z9x rfl ?_|refine Z9y ?_)); refine Z9w ?_)|refine Ks ?_|refine Zb1 (fun _ _ => rfl) ?_|refine Kc1 rfl ?_))
  (refine Z8o ?_; exact Kar rfl ⟨(by rw [← hX, if_pos (.inr (.inl h2))]; rfl), rfl⟩)
 (rw [decide_eq_false (p := (300 : Int) < (ks.length : Int)) (by omega)])
 (repeat(first|refine Kq rfl rfl rfl ?_|refine Z96 rfl (Kq rfl rfl rfl ?_)|(refine Z99 ?_; (repeat(first|refine Z9x rfl ?_|refine Z9y ?_)); refine Z9w ?_)))
 rw [List.length_map]
 by_cases h3 : 300 < ns.length
 ·(rw [decide_eq_true (p := (300 : Int) < (ns.length : Int)) (by omega)])
  (repeat(first|refine Kq rfl rfl rfl ?_|(refine Z99 ?_; (repeat(first|refine Z9x rfl ?_|refine Z9y ?_)); refine Z9w ?_)|refine Ks ?_|refine Zb1 (fun _ _ => rfl) ?_|refine Kc1 rfl ?_))
  (refine Z8o ?_; exact Kar rfl ⟨(by rw [← hX, if_pos (.inr (.inr h3))]; rfl), rfl⟩)
 (rw [decide_eq_false (p := (300 : Int) < (ns.length : Int)) (by omega)])
 (repeat(first|refine Kq rfl rfl rfl ?_|(refine Z99 ?_; (repeat(first|refine Z9x rfl ?_|refine Z9y ?_)); refine Z9w ?_)|refine Ks ?_|refine Zb1 (fun _ _ => rfl) ?_|refine Z8s ?_|refine Zb2 (fun _ _ => rfl) ?_|refine Kc2 rfl ?_))
 rw [if_neg (by omega)] at hX
 refine Za6 (fun m F σ' => ∃ (j : Nat), F = fset 1 (some (.int .i64 (deep : Int))) (fset 2 (some (.iptr [.int .i64 k, .slc 1 (ns.map .str) false, .slc 6 (Zly ks) false, .int .i64 l, .int .i64 p, .int .i64 s])) (fset 5 (some (.int .i64 1)) (fset 6 (some (.int .i64 (j : Int))) Z28))) ∧
  σ = σ' ∧ j ≤ ns.length ∧ (ns.take j).any (fun s => decide (200 < s.length)) = false ∧ m = ns.length - j) (n := ns.length) ⟨0, rfl, rfl, by omega, by simp, rfl⟩ ?_
 rintro m F σ' ⟨j, rfl, rfl, hj, hno, rfl⟩
 (repeat(first|refine Kq rfl rfl rfl ?_|(refine Z99 ?_; (repeat(first|refine Z9x rfl ?_|refine Z9y ?_)); refine Z9w ?_)|refine Ks ?_|refine Zb1 (fun _ _ => rfl) ?_))
 rw [List.length_map]
 refine Za2 (p := (j : Int) < (ns.length : Int)) rfl (fun h5 => ?_) (fun h5 => ?_)
 ·have hjl : j < ns.length := by omega
  (repeat(first|refine Kq rfl rfl rfl ?_|refine Ks ?_|refine Zb1 (fun _ _ => rfl) ?_|refine Z8s ?_|refine Zb2 (fun _ _ => rfl) ?_))
  refine Z9d rfl (by omega) (Zrn hjl) ?_
  (repeat(first|refine Kq rfl rfl rfl ?_|(refine Z99 ?_; (repeat(first|refine Z9x rfl ?_|refine Z9y ?_)); refine Z9w ?_)))
  by_cases h6 : 200 < (ns[j]).length
  ·(rw [show decide ((200 : Int) < ((ns[j]).length : Int)) = true from decide_eq_true (by omega)])
   (repeat(first|refine Kq rfl rfl rfl ?_|(refine Z99 ?_; (repeat(first|refine Z9x rfl ?_|refine Z9y ?_)); refine Z9w ?_)|refine Ks ?_|refine Zb1 (fun _ _ => rfl) ?_|refine Kc1 rfl ?_))
   refine Z8o ?_
   refine ares rfl (HSub.refl _) ⟨?_, rfl⟩
   have : ns.any (fun s => decide (200 < s.length)) = true := List.any_eq_true.2 ⟨ns[j], List.getElem_mem hjl, decide_eq_true h6⟩
   rw [← hX, if_pos this]; rfl
  ·(rw [show decide ((200 : Int) < ((ns[j]).length : Int)) = false from decide_eq_false (by omega)])
   (repeat(first|refine Zb2 (fun _ _ => rfl) ?_|refine Kc2 rfl ?_))
   refine Zb4 ?_
   repeat refine Kq rfl rfl rfl ?_
   rw [Kwr j (by omega)]
   (refine Z99 ?_; (repeat(first|refine Z9x rfl ?_|refine Z9y ?_)); refine Z9w ?_)
   refine ⟨_, ns.length - (j + 1), HSub.refl _, ⟨j + 1, rfl, rfl, by omega, ?_, rfl⟩, by omega⟩
   rw [← List.take_append_getElem hjl, List.any_append, hno]
   simp; omega
 ·rw [show ns.take j = ns from List.take_of_length_le (by omega)] at hno
  rw [if_neg (by rw [hno]; simp)] at hX
  (repeat(first|refine Kq rfl rfl rfl ?_|(refine Z99 ?_; (repeat(first|refine Z9x rfl ?_|refine Z9y ?_)); refine Z9w ?_)|refine Ks ?_|refine Zb1 (fun _ _ => rfl) ?_|refine Z8s ?_|refine Zb3 (fun _ _ => rfl) ?_))
  refine Za6 (fun m F σ' => ∃ (j n : Nat), F = fset 1 (some (.int .i64 (deep : Int))) (fset 2 (some (.iptr [.int .i64 k, .slc 1 (ns.map .str) false, .slc 6 (Zly ks) false, .int .i64 l, .int .i64 p, .int .i64 s])) (fset 5 (some (.int .i64 (n : Int))) (fset 7 (some (.int .i64 (j : Int))) Z28))) ∧
   σ = σ' ∧ j ≤ ks.length ∧ n ≤ 1000 ∧ Zx4 (deep + 1) n (ks.drop j) = X ∧ m = ks.length - j) (n := ks.length) ⟨0, 1, rfl, rfl, by omega, by omega, hX, rfl⟩ ?_
  rintro m F σ' ⟨j, n, rfl, rfl, hj, hn, hXj, rfl⟩
  (repeat(first|refine Kq rfl rfl rfl ?_|(refine Z99 ?_; (repeat(first|refine Z9x rfl ?_|refine Z9y ?_)); refine Z9w ?_)|refine Ks ?_|refine Zb1 (fun _ _ => rfl) ?_))
  rw [Zm2]
  refine Za2 (p := (j : Int) < (ks.length : Int)) rfl (fun h5 => ?_) (fun h5 => ?_)
  ·have hjl : j < ks.length := by omega
   have h1 : (Zly ks)[((j : Nat) : Int).toNat]? = some (.agg (Zlz ks[j])) := by rw [← Zm0]; exact Zm3 (by rw [Int.toNat_natCast, List.getElem?_eq_getElem hjl])
   have hc := ih ks[j] (List.getElem_mem hjl) (deep + 1) (by omega)
   rw [Zm0] at hc
   have hle := Zx8 ks[j] (deep + 1)
   rw [List.drop_eq_getElem_cons hjl, Zx4] at hXj
   generalize fewT (deep + 1) ks[j] = q at hc hle hXj
   (repeat(first|refine Kq rfl rfl rfl ?_|refine Ks ?_|refine Zb1 (fun _ _ => rfl) ?_|refine Z8s ?_|refine Zb2 (fun _ _ => rfl) ?_))
   refine Z9d rfl (by omega) h1 ?_
   (repeat refine Kq rfl rfl rfl ?_)
   rw [Kwr deep (by omega)]
   (first|refine Z9v rfl (hc _) ?_|refine Z96 rfl (Z9v rfl (hc _) ?_)|refine Zb9 rfl hc ?_|refine Z96 rfl (Zb9 rfl hc ?_))
   (repeat(first|refine Kq rfl rfl rfl ?_|(refine Z99 ?_; (repeat(first|refine Z9x rfl ?_|refine Z9y ?_)); refine Z9w ?_)|refine Ks ?_|refine Zb1 (fun _ _ => rfl) ?_))
   rw [show IntKind.wrap .i64 ((n : Int) + (q : Int)) = ((n + q : Nat) : Int) by rw [w64 _ (by omega) (by omega)]; omega]
   by_cases h7 : 1000 < n + q
   ·(rw [decide_eq_true (p := (1000 : Int) < ((n + q : Nat) : Int)) (by omega)])
    (repeat(first|refine Kq rfl rfl rfl ?_|(refine Z99 ?_; (repeat(first|refine Z9x rfl ?_|refine Z9y ?_)); refine Z9w ?_)|refine Ks ?_|refine Zb1 (fun _ _ => rfl) ?_|refine Kc1 rfl ?_))
    (refine Z8o ?_; exact Kar rfl ⟨(by rw [← hXj, if_pos h7]; rfl), rfl⟩)
   ·(rw [decide_eq_false (p := (1000 : Int) < ((n + q : Nat) : Int)) (by omega)])
    rw [if_neg h7] at hXj
    (repeat(first|refine Zb2 (fun _ _ => rfl) ?_|refine Kc2 rfl ?_))
    refine Zb4 ?_
    repeat refine Kq rfl rfl rfl ?_
    rw [Kwr j (by omega)]
    (refine Z99 ?_; (repeat(first|refine Z9x rfl ?_|refine Z9y ?_)); refine Z9w ?_)
    exact ⟨_, ks.length - (j + 1), HSub.refl _, ⟨j + 1, n + q, rfl, rfl, by omega, by omega, hXj, rfl⟩, by omega⟩
  ·rw [List.drop_of_length_le (by omega), Zx4] at hXj
   subst hXj
   (repeat(first|refine Kq rfl rfl rfl ?_|(refine Z99 ?_; (repeat(first|refine Z9x rfl ?_|refine Z9y ?_)); refine Z9w ?_)|refine Ks ?_|refine Zb1 (fun _ _ => rfl) ?_|refine Zb3 (fun _ _ => rfl) ?_))
   (refine Z8o ?_; exact Kar rfl ⟨rfl, rfl⟩)
theorem Zxb (t : Ty) (σ : Zc) : Z1s Try.prog Zd1 [encT t] σ fun r σ' => r = .bool (decide (fewT 1 t ≤ 150)) ∧ σ' = σ := by
 have hc := Zxa t 1 (by omega)
 rw [Zm0] at hc ⊢
 refine Z94 rfl Zwz (Nat.le_of_ble_eq_true rfl) ?_
 refine Za1 ?_
 refine Z9n rfl (Kfi rfl) fun b2 hb2 => ?_
 repeat refine Kq rfl rfl rfl ?_
 (refine Z99 ?_; (repeat(first|refine Z9x rfl ?_|refine Z9y ?_)); refine Z9w ?_)
 refine Zaj (d := 1) (cs := Zlz t) rfl ?_
 (repeat(first|refine Kq rfl rfl rfl ?_|refine Ks ?_|refine Zb1 (fun _ _ => rfl) ?_))
 (first|refine Z9v rfl (hc _) ?_|refine Z96 rfl (Z9v rfl (hc _) ?_)|refine Zb9 rfl hc ?_|refine Z96 rfl (Zb9 rfl hc ?_))
 (repeat(first|refine Kq rfl rfl rfl ?_|(refine Z99 ?_; (repeat(first|refine Z9x rfl ?_|refine Z9y ?_)); refine Z9w ?_)|refine Ks ?_|refine Zb1 (fun _ _ => rfl) ?_))
 refine Z8o ?_
 refine ares rfl (HSub.refl _) ⟨?_, rfl⟩
 simp only [Z8x, Z0.bool.injEq, decide_eq_decide]
 omega
def Zxc (t : Ty) (rows : List Vl) : Bool := decide (fewT 1 t ≤ 150) && (decide (rows.length ≤ 200) && fewR 0 rows)
end Go.Abs
namespace Go.Abs
open Go Go.Proofs
attribute [local irreducible] AWp aops KP
theorem Zxd : ∀ (t : Ty), t.Small → ∀ (v : Z0) (xs : List Z0) (β : Zc) (parent : Int) (deep : Nat) (σ : Zc), Zb5 8 v xs β → xs.length + cnt t ≤ 1000 → deep + cnt t ≤ 1000 →
  Z1s Try.prog Zde [v, encT t, .int .i64 parent, .int .i64 (deep : Int)] (β ++ σ) fun r σ' => ∃ β', Zb5 8 r (xs ++ (Zma xs.length parent deep t).map encN) β' ∧ σ' = β' ++ σ := by
 refine Ty.ind fun k ns ks l p s ih hsmall v xs β parent deep σ ho hx hd => ?_
 cases hsmall with
 | mk hk1 hn1 hn4 hkids =>
 simp only [encT, Ty.kind, Ty.names, Ty.kids, Ty.len, Ty.prec, Ty.scale] at *
 have hlenks := Znu ks
 refine Z94 rfl Zx2 (Nat.le_of_ble_eq_true rfl) ?_
 refine Za1 ?_
 refine Z9n rfl (Kfi rfl) fun pb hpb => ?_
 repeat refine Kq rfl rfl rfl ?_
 (refine Z99 ?_; (repeat(first|refine Z9x rfl ?_|refine Z9y ?_)); refine Z9w ?_)
 refine Zaj (d := 5) (cs := [.int .i64 k, .slc 1 (ns.map .str) false, .slc 6 (Zly ks) false, .int .i64 l, .int .i64 p, .int .i64 s]) rfl ?_
 refine Za1 ?_
 refine Kq rfl rfl rfl ?_
 refine Zaf rfl ho.lens ?_
 repeat refine Kq rfl rfl rfl ?_
 (refine Z99 ?_; (repeat(first|refine Z9x rfl ?_|refine Z9y ?_)); refine Z9w ?_)
 refine Za1 ?_
 repeat refine Kq rfl rfl rfl ?_
 refine Zb9 rfl (Znt _ _ (Zo0 ns) (by rw [List.length_map]; omega)) ?_
 refine Zb9 rfl (Zno _ _) ?_
 repeat refine Kq rfl rfl rfl ?_
 refine Zb6 (ys := [.agg [.int .i64 k, .slc 0 [] true, .slc 1 (ns.map .str) true, .int .i64 l, .int .i64 p, .int .i64 s, .int .i64 parent, .int .i64 (deep : Int)]]) ho rfl rfl (by simp only [List.length_cons, List.length_nil]; omega) fun b1 hb1 => ?_
 (repeat(first|refine Kq rfl rfl rfl ?_|(refine Z99 ?_; (repeat(first|refine Z9x rfl ?_|refine Z9y ?_)); refine Z9w ?_)|refine Ks ?_|refine Zb1 (fun _ _ => rfl) ?_|refine Z8s ?_))
 rw [Zm2]
 obtain ⟨x0, hx0⟩ : ∃ x0, x0 = Z0.agg [.int .i64 k, .slc 0 [] true, .slc 1 (ns.map .str) true, .int .i64 l, .int .i64 p, .int .i64 s, .int .i64 parent, .int .i64 (deep : Int)] := ⟨_, rfl⟩
 rw [← hx0]
 refine Za6 (fun m F σ' => ∃ (i b : Nat) (vk : Z0) (βk : Zc) (R : List Z0), F = fset 0 (some (.arr 8 b 0 R.length)) (fset 3 (some (.int .i64 (deep : Int))) (fset 9 (some (.int .i64 (xs.length : Int))) (fset 10 (some vk) (fset 34 (some (.slc 6 (Zly ks) false)) (fset 35 (some (.int .i64 (ks.length : Int))) (fset 36 (some (.int .i64 (i : Int))) Z28)))))) ∧
  σ' = (b, .cells 8 R) :: (βk ++ σ) ∧ R = xs ++ x0 :: (Zmb (xs.length + 1) (xs.length : Int) (deep + 1) (ks.take i)).map encN ∧ Zb5 1 vk (ints (Zm9 (xs.length + 1) (ks.take i))) βk ∧ i ≤ ks.length ∧ m = ks.length - i) (n := ks.length)
  ⟨0, b1, _, [], _, rfl, rfl, rfl, Zb5.nil 1 0, by omega, rfl⟩ ?_
 rintro m F σ' ⟨i, b, vk, βk, R, rfl, rfl, hR, hok, hi, rfl⟩
 have hRl : R.length = xs.length + 1 + cntL (ks.take i) := by rw [hR]; simp [Zny]; omega
 (repeat(first|refine Kq rfl rfl rfl ?_|(refine Z99 ?_; (repeat(first|refine Z9x rfl ?_|refine Z9y ?_)); refine Z9w ?_)|refine Ks ?_|refine Zb1 (fun _ _ => rfl) ?_))
 refine Za2 (p := (i : Int) < (ks.length : Int)) rfl (fun h3 => ?_) (fun h3 => ?_)
 ·have hil : i < ks.length := by omega
  have Zd : ks[i]? = some ks[i] := List.getElem?_eq_getElem hil
  have hx' : (Zly ks)[(i : Int).toNat]? = some (encT ks[i]) := Zm3 (by rw [Int.toNat_natCast, Zd])
  have hcn := Znz ks i _ Zd
  have hkl := Znw ks (xs.length + 1) i _ Zd
  have hfl := Znx ks (xs.length + 1) i (xs.length : Int) (deep + 1) _ Zd
  simp only [cnt] at hx hd
  (repeat(first|refine Ks ?_|refine Zb1 (fun _ _ => rfl) ?_|refine Z8s ?_|refine Zb2 (fun _ _ => rfl) ?_))
  refine Z9d rfl (by omega) hx' ?_
  rw [Zm0]
  (repeat refine Kq rfl rfl rfl ?_)
  refine Z9o (by simp [Z0.cells, Z0.one]) fun vb hvb => ?_
  refine Z9g rfl Z9a rfl (by decide) (Kfi rfl) (fun h => by cases h) Z9h ?_
  (refine Z99 ?_; (repeat(first|refine Z9x rfl ?_|refine Z9y ?_)); refine Z9w ?_)
  refine Zaj (d := 12) (cs := Zlz ks[i]) rfl ?_
  refine Zak (β := [(b, .cells 8 R)]) (γ := βk) ?_
  refine Ks ?_
  refine Zb1 (fun _ _ => rfl) ?_
  repeat refine Kq rfl rfl rfl ?_
  refine Zb6 (ys := [.int .i64 (R.length : Int)]) hok rfl rfl (by
   simp only [List.length_cons, List.length_nil, ints, List.length_map]
   have : ∀ (l : List Ty) (a : Nat), (Zm9 a l).length = l.length := by
    intro l; induction l with
    | nil => intro a; rfl
    | cons t l ih => intro a; simp [Zm9, ih]
   rw [this, List.length_take]; omega) fun b2 hb2 => ?_
  repeat refine Kq rfl rfl rfl ?_
  (refine Z99 ?_; (repeat(first|refine Z9x rfl ?_|refine Z9y ?_)); refine Z9w ?_)
  refine Zak (β := [(b2, .cells 1 _)]) (γ := [(b, .cells 8 R)]) ?_
  refine Zb1 (fun _ _ => rfl) ?_
  repeat refine Kq rfl rfl rfl ?_
  rw [Kwr deep (by omega)]
  have hcw := ih ks[i] (List.getElem_mem hil) (hkids _ (List.getElem_mem hil)) (.arr 8 b 0 R.length) R [(b, .cells 8 R)] (xs.length : Int) (deep + 1) ([(b2, .cells 1 (ints (Zm9 (xs.length + 1) (ks.take i)) ++ [.int .i64 (R.length : Int)]))] ++ σ) Zb5.mk (by omega) (by omega)
  rw [Zm0] at hcw
  refine Z9u rfl hcw ?_ ?_
  ·obtain ⟨gv, gβ, hgr⟩ := Zb5.ex 8 (R ++ (Zma R.length (xs.length : Int) (deep + 1) ks[i]).map encN)
   exact ⟨_, _, gβ, hgr, rfl⟩
  rintro r2 _ ⟨β2, ho2, rfl⟩
  obtain ⟨b3, rfl, rfl⟩ := ho2.arr (by rw [hR]; simp)
  repeat refine Kq rfl rfl rfl ?_
  (refine Z99 ?_; (repeat(first|refine Z9x rfl ?_|refine Z9y ?_)); refine Z9w ?_)
  refine Zb4 ?_
  repeat refine Kq rfl rfl rfl ?_
  rw [Kwr i (by omega)]
  (refine Z99 ?_; (repeat(first|refine Z9x rfl ?_|refine Z9y ?_)); refine Z9w ?_)
  refine ⟨_, ks.length - (i + 1), HSub.refl _, ⟨i + 1, b3, _, _, _, rfl, rfl, ?_, ?_, by omega, rfl⟩, by omega⟩
  ·rw [hfl, hRl, hR]; simp
  ·rw [hkl]
   have e : ints (Zm9 (xs.length + 1) (ks.take i) ++ [xs.length + 1 + cntL (ks.take i)]) = ints (Zm9 (xs.length + 1) (ks.take i)) ++ [.int .i64 (R.length : Int)] := by
    rw [hRl]; simp [ints]
   rw [e]
   exact Zb5.mk
 ·have hie : i = ks.length := by omega
  subst hie
  rw [List.take_length] at hR hok
  refine Zb3 (fun _ _ => rfl) ?_
  refine Zak (β := [(b, .cells 8 R)]) (γ := βk) ?_
  refine Za1 ?_
  repeat refine Kq rfl rfl rfl ?_
  refine Z9v rfl (Znq hok ([(b, .cells 8 R)] ++ σ)) ?_
  refine Z9e rfl ⟨by omega, by omega⟩ ?_
  repeat refine Kq rfl rfl rfl ?_
  have hxat : R[0 + ((xs.length : Nat) : Int).toNat]? = some x0 := by
   rw [hR, Nat.zero_add, Int.toNat_natCast]; simp
  refine Z9g rfl Z9a hxat (by decide) (Kfi rfl) (fun h => by rw [hx0] at h; cases h) Z9h ?_
  (repeat(first|refine Kq rfl rfl rfl ?_|(refine Z99 ?_; (repeat(first|refine Z9x rfl ?_|refine Z9y ?_)); refine Z9w ?_)|refine Ks ?_|refine Zb1 (fun _ _ => rfl) ?_))
  refine Z8o ?_
  refine ares rfl (HSub.refl _) ⟨_, .inr ⟨b, ?_, rfl⟩, ?_⟩
  ·simp [Z8x, hR, Zma, Zny]
  ·have e : R.set (0 + ((xs.length : Nat) : Int).toNat) (Z1t x0 (0 + 1) (Z0.slc 1 (ints (Zm9 (xs.length + 1) ks)) true).cells) = xs ++ (Zma xs.length parent deep (.mk k ns ks l p s)).map encN := by
    rw [hR, Nat.zero_add, Int.toNat_natCast, List.set_append_right _ _ (Nat.le_refl _), Nat.sub_self, List.set_cons_zero, hx0, Zma]
    rfl
   rw [e]; rfl
theorem Zxe (t : Ty) (h : t.Fit) (σ : Zc) : Z1s Try.prog Zc2 [encT t] σ fun r σ' => r = .slc 8 ((Zmf t).map encN) true ∧ σ' = σ := by
 have hc := Znk t h σ
 have hf := fun (hs : t.Small) => Zxd t hs (.slc 0 [] true) [] [] (-1) 1 σ (Zb5.nil 8 0)
 rw [Zm0] at *
 refine Z94 rfl Zx1 (Nat.le_of_ble_eq_true rfl) ?_
 refine Za1 ?_
 refine Z9n rfl (Kfi rfl) fun pb hpb => ?_
 repeat refine Kq rfl rfl rfl ?_
 (refine Z99 ?_; (repeat(first|refine Z9x rfl ?_|refine Z9y ?_)); refine Z9w ?_)
 refine Zaj (d := 1) (cs := Zlz t) rfl ?_
 (repeat(first|refine Kq rfl rfl rfl ?_|refine Ks ?_|refine Zb1 (fun _ _ => rfl) ?_))
 refine Z9v rfl hc ?_
 (repeat(first|refine Kq rfl rfl rfl ?_|(refine Z99 ?_; (repeat(first|refine Z9x rfl ?_|refine Z9y ?_)); refine Z9w ?_)))
 by_cases h0 : Zm8 t = 0
 ·have hs := Znv t 1 0 h0
  (rw [decide_eq_false (p := ((Zm8 t : Nat) : Int) ≠ 0) (by omega)])
  (repeat(first|refine Kq rfl rfl rfl ?_|refine Ks ?_|refine Zb1 (fun _ _ => rfl) ?_|refine Zb2 (fun _ _ => rfl) ?_|refine Kc2 rfl ?_))
  refine Z9u rfl (hf hs.2.1 (by simp; omega) (by omega)) ?_ ?_
  ·obtain ⟨gv, gβ, hgr⟩ := Zb5.ex 8 ([] ++ (Zma 0 (-1) 1 t).map encN)
   exact ⟨_, _, gβ, hgr, rfl⟩
  rintro r2 _ ⟨β2, ho2, rfl⟩
  refine Z9v rfl (Zns ho2 σ) ?_
  (repeat(first|refine Kq rfl rfl rfl ?_|(refine Z99 ?_; (repeat(first|refine Z9x rfl ?_|refine Z9y ?_)); refine Z9w ?_)))
  refine Z8o ?_
  exact Kar rfl ⟨by rw [Zmf, if_pos h0]; rfl, rfl⟩
 ·(rw [decide_eq_true (p := ((Zm8 t : Nat) : Int) ≠ 0) (by omega)])
  (repeat(first|refine Kq rfl rfl rfl ?_|(refine Z99 ?_; (repeat(first|refine Z9x rfl ?_|refine Z9y ?_)); refine Z9w ?_)|refine Ks ?_|refine Zb1 (fun _ _ => rfl) ?_|refine Kc1 rfl ?_))
  refine Z8o ?_
  refine Zag rfl ?_ (HSub.refl _) ⟨rfl, rfl⟩
  rw [Zmf, if_neg h0]
  exact VRle.nil_slc 0 8 true
end Go.Abs
namespace Go.Abs
open Go Go.Proofs
attribute [local irreducible] AWp aops KP
def tA (k : Int) : Ty := .mk 12 [[97]] [.mk k [] [] 0 0 0] 0 0 0
def vA (i : Int) : Vl := .mk false 0 0 [] [.mk false i 0 [] []]
def vN : Vl := .mk false 0 0 [] [.mk true 0 0 [] []]
def Zxf : List Vl := [vA 5, vN, vA (-2)]
theorem Zxg (nu : Bool) (i : Int) (h : -9223372036854775808 ≤ i ∧ i ≤ 9223372036854775807) : (Vl.mk nu i 0 [] []).Fit := .mk h (by simp [Vl.b]) (by simp [Vl.kids]) (by simp [Vl.kids])
theorem Zxh (v : Vl) (h : v.Fit) : (Vl.mk false 0 0 [] [v]).Fit := .mk (by simp [Vl.i]) (by simp [Vl.b]) (by simp [Vl.kids]) (by simpa [Vl.kids] using h)
def Zxi : Col := ⟨[true, false, true], [5, -2], [], [], []⟩
def st16 : Stt := ⟨2, true, true, .mk false (-2) 0 [] [], .mk false 5 0 [] [], true, 3⟩
end Go.Abs
namespace Go.Abs
open Go Go.Proofs
attribute [local irreducible] AWp aops KP
theorem Zxj (t : Ty) : (Zmf t).length ≤ 100 := by
 unfold Zmf
 split
 ·rename_i h
  have := (Znv t 1 0 h).2.2
  rw [Zmc]; omega
 ·simp
theorem Zxk (n : Nd) : ∀ c ∈ Zmd n, c.one = true := by simp [Zmd, Z0.one]
theorem Zxl (t : Ty) : ∀ c ∈ Zlz t, c.one = true := by simp [Zlz, Z0.one]
end Go.Abs
namespace Go.Abs
open Go Go.Proofs
attribute [local irreducible] AWp aops KP
def intF (k : Int) : Bool := !(decide (k = 12) || decide (k = 10) || decide (k = 11) || Zmm k)
def lenF (k : Int) : Bool := decide (k = 10) || decide (k = 11)
def Zxm (k : Int) : List Z0 := [.bool (intF k), .bool (decide (k = 9)), .bool (Zmm k), .bool (lenF k)]
theorem c_of (k : Int) (σ : Zc) : Z1s Try.prog Zf7 [.int .i64 k] σ fun r σ' => r = .agg (Zxm k) ∧ σ' = σ := by
 refine Z94 rfl Zww (Nat.le_of_ble_eq_true rfl) ?_
 refine Za1 ?_
 refine Z9o (by simp [Z0.cells, Z0.one]) fun b2 hb2 => ?_
 (refine Z99 ?_; (repeat(first|refine Z9x rfl ?_|refine Z9y ?_)); refine Z9w ?_)
 refine Za1 ?_
 refine Z9o (by simp [Z0.cells, Z0.one]) fun b3 hb3 => ?_
 (refine Z99 ?_; (repeat(first|refine Z9x rfl ?_|refine Z9y ?_)); refine Z9w ?_)
 have hne : b3 ≠ b2 := fun e => hb3 (by rw [e]; simp [Zh])
 have fin : ∀ (F : Z27) (a b c d : Bool), F 2 = some (.ptr b2 0 0) → F 3 = some (.ptr b3 0 0) → Z0.agg [.bool a, .bool b, .bool c, .bool d] = .agg (Zxm k) → aops Try.prog Zv2 F
   ((b3, .cells 4 [.agg [.bool a, .bool b, .bool c, .bool d]]) :: (b2, .cells 4 [.agg [.bool false, .bool false, .bool false, .bool false]]) :: σ)
   fun F' σ' => KP [2] F' fun G => AWp Try.prog Zv3.n Z2c.ret (ARet Zv3.res fun r σ' => r = .agg (Zxm k) ∧ σ' = σ) G σ' := by
  intro F a b c d h2 h3 he
  refine Z9c (b := b3) (i := 0) (o := 0) (v := .agg [.bool a, .bool b, .bool c, .bool d]) (by simp [evs, ev, h3]) Z9a rfl rfl ?_
  refine Z9g (b := b2) (i := 0) (o := 0) (v := .agg [.bool a, .bool b, .bool c, .bool d]) (by simp [evs, ev, fset, h2]) (Z9b hne Z9a) rfl (by decide) (Kfi rfl) (fun h => by cases h) (Z9i hne Z9h) ?_
  refine Z99 ?_
  refine Z9x (by simp only [fset]; exact h2) ?_
  refine Z9w ?_
  refine Z8o ?_
  exact ares (vs := [.agg [.bool a, .bool b, .bool c, .bool d]]) (Zsj rfl (Z9b hne Z9a) rfl) (HSub.of_sublist ((List.sublist_cons_self _ _).trans (List.sublist_cons_self _ _))) ⟨he, rfl⟩
 by_cases k12 : k = 12
 ·subst k12
  (repeat(first|refine Kq rfl rfl rfl ?_|(refine Z99 ?_; (repeat(first|refine Z9x rfl ?_|refine Z9y ?_)); refine Z9w ?_)|refine Ks ?_|refine Zb1 (fun _ _ => rfl) ?_|refine Z8s ?_|refine Zb3 (fun _ _ => rfl) ?_|refine Kc1 rfl ?_))
  exact fin _ _ _ _ _ rfl rfl rfl
 by_cases k10 : k = 10
 ·subst k10
  (repeat(first|refine Kq rfl rfl rfl ?_|(refine Z99 ?_; (repeat(first|refine Z9x rfl ?_|refine Z9y ?_)); refine Z9w ?_)|refine Ks ?_|refine Zb1 (fun _ _ => rfl) ?_|refine Z8s ?_|refine Zb2 (fun _ _ => rfl) ?_|refine Zb3 (fun _ _ => rfl) ?_|refine Kc1 rfl ?_|refine Kc2 rfl ?_))
  (first|refine Z9g rfl Z9a rfl (by decide) (Kfi rfl) (fun h => by cases h) Z9h ?_|refine Z96 rfl (Z9g rfl Z9a rfl (by decide) (Kfi rfl) (fun h => by cases h) Z9h ?_))
  (repeat(first|(refine Z99 ?_; (repeat(first|refine Z9x rfl ?_|refine Z9y ?_)); refine Z9w ?_)|refine Ks ?_|refine Zb1 (fun _ _ => rfl) ?_|refine Zb3 (fun _ _ => rfl) ?_))
  exact fin _ _ _ _ _ rfl rfl rfl
 by_cases k11 : k = 11
 ·subst k11
  (repeat(first|refine Kq rfl rfl rfl ?_|(refine Z99 ?_; (repeat(first|refine Z9x rfl ?_|refine Z9y ?_)); refine Z9w ?_)|refine Ks ?_|refine Zb1 (fun _ _ => rfl) ?_|refine Z8s ?_|refine Zb2 (fun _ _ => rfl) ?_|refine Zb3 (fun _ _ => rfl) ?_|refine Kc1 rfl ?_|refine Kc2 rfl ?_))
  (first|refine Z9g rfl Z9a rfl (by decide) (Kfi rfl) (fun h => by cases h) Z9h ?_|refine Z96 rfl (Z9g rfl Z9a rfl (by decide) (Kfi rfl) (fun h => by cases h) Z9h ?_))
  (repeat(first|(refine Z99 ?_; (repeat(first|refine Z9x rfl ?_|refine Z9y ?_)); refine Z9w ?_)|refine Ks ?_|refine Zb1 (fun _ _ => rfl) ?_|refine Zb3 (fun _ _ => rfl) ?_))
  exact fin _ _ _ _ _ rfl rfl rfl
 by_cases k7 : k = 7
 ·subst k7
  (repeat(first|refine Kq rfl rfl rfl ?_|(refine Z99 ?_; (repeat(first|refine Z9x rfl ?_|refine Z9y ?_)); refine Z9w ?_)|refine Ks ?_|refine Zb1 (fun _ _ => rfl) ?_|refine Z8s ?_|refine Zb2 (fun _ _ => rfl) ?_|refine Zb3 (fun _ _ => rfl) ?_|refine Kc1 rfl ?_|refine Kc2 rfl ?_))
  (first|refine Z9g rfl Z9a rfl (by decide) (Kfi rfl) (fun h => by cases h) Z9h ?_|refine Z96 rfl (Z9g rfl Z9a rfl (by decide) (Kfi rfl) (fun h => by cases h) Z9h ?_))
  (repeat(first|(refine Z99 ?_; (repeat(first|refine Z9x rfl ?_|refine Z9y ?_)); refine Z9w ?_)|refine Ks ?_|refine Zb1 (fun _ _ => rfl) ?_|refine Zb3 (fun _ _ => rfl) ?_))
  exact fin _ _ _ _ _ rfl rfl rfl
 by_cases k8 : k = 8
 ·subst k8
  (repeat(first|refine Kq rfl rfl rfl ?_|(refine Z99 ?_; (repeat(first|refine Z9x rfl ?_|refine Z9y ?_)); refine Z9w ?_)|refine Ks ?_|refine Zb1 (fun _ _ => rfl) ?_|refine Z8s ?_|refine Zb2 (fun _ _ => rfl) ?_|refine Zb3 (fun _ _ => rfl) ?_|refine Kc1 rfl ?_|refine Kc2 rfl ?_))
  (first|refine Z9g rfl Z9a rfl (by decide) (Kfi rfl) (fun h => by cases h) Z9h ?_|refine Z96 rfl (Z9g rfl Z9a rfl (by decide) (Kfi rfl) (fun h => by cases h) Z9h ?_))
  (repeat(first|(refine Z99 ?_; (repeat(first|refine Z9x rfl ?_|refine Z9y ?_)); refine Z9w ?_)|refine Ks ?_|refine Zb1 (fun _ _ => rfl) ?_|refine Zb3 (fun _ _ => rfl) ?_))
  exact fin _ _ _ _ _ rfl rfl rfl
 by_cases k16 : k = 16
 ·subst k16
  (repeat(first|refine Kq rfl rfl rfl ?_|(refine Z99 ?_; (repeat(first|refine Z9x rfl ?_|refine Z9y ?_)); refine Z9w ?_)|refine Ks ?_|refine Zb1 (fun _ _ => rfl) ?_|refine Z8s ?_|refine Zb2 (fun _ _ => rfl) ?_|refine Zb3 (fun _ _ => rfl) ?_|refine Kc1 rfl ?_|refine Kc2 rfl ?_))
  (first|refine Z9g rfl Z9a rfl (by decide) (Kfi rfl) (fun h => by cases h) Z9h ?_|refine Z96 rfl (Z9g rfl Z9a rfl (by decide) (Kfi rfl) (fun h => by cases h) Z9h ?_))
  (repeat(first|(refine Z99 ?_; (repeat(first|refine Z9x rfl ?_|refine Z9y ?_)); refine Z9w ?_)|refine Ks ?_|refine Zb1 (fun _ _ => rfl) ?_|refine Zb3 (fun _ _ => rfl) ?_))
  exact fin _ _ _ _ _ rfl rfl rfl
 by_cases k17 : k = 17
 ·subst k17
  (repeat(first|refine Kq rfl rfl rfl ?_|(refine Z99 ?_; (repeat(first|refine Z9x rfl ?_|refine Z9y ?_)); refine Z9w ?_)|refine Ks ?_|refine Zb1 (fun _ _ => rfl) ?_|refine Z8s ?_|refine Zb2 (fun _ _ => rfl) ?_|refine Zb3 (fun _ _ => rfl) ?_|refine Kc1 rfl ?_|refine Kc2 rfl ?_))
  (first|refine Z9g rfl Z9a rfl (by decide) (Kfi rfl) (fun h => by cases h) Z9h ?_|refine Z96 rfl (Z9g rfl Z9a rfl (by decide) (Kfi rfl) (fun h => by cases h) Z9h ?_))
  (repeat(first|(refine Z99 ?_; (repeat(first|refine Z9x rfl ?_|refine Z9y ?_)); refine Z9w ?_)|refine Ks ?_|refine Zb1 (fun _ _ => rfl) ?_|refine Zb3 (fun _ _ => rfl) ?_))
  exact fin _ _ _ _ _ rfl rfl rfl
 by_cases k9 : k = 9
 ·subst k9
  (repeat(first|refine Kq rfl rfl rfl ?_|(refine Z99 ?_; (repeat(first|refine Z9x rfl ?_|refine Z9y ?_)); refine Z9w ?_)|refine Ks ?_|refine Zb1 (fun _ _ => rfl) ?_|refine Z8s ?_|refine Zb2 (fun _ _ => rfl) ?_|refine Zb3 (fun _ _ => rfl) ?_|refine Kc1 rfl ?_|refine Kc2 rfl ?_))
  (first|refine Z9g rfl Z9a rfl (by decide) (Kfi rfl) (fun h => by cases h) Z9h ?_|refine Z96 rfl (Z9g rfl Z9a rfl (by decide) (Kfi rfl) (fun h => by cases h) Z9h ?_))
  (repeat(first|refine Kq rfl rfl rfl ?_|(refine Z99 ?_; (repeat(first|refine Z9x rfl ?_|refine Z9y ?_)); refine Z9w ?_)|refine Ks ?_|refine Zb1 (fun _ _ => rfl) ?_))
  (first|refine Z9g rfl Z9a rfl (by decide) (Kfi rfl) (fun h => by cases h) Z9h ?_|refine Z96 rfl (Z9g rfl Z9a rfl (by decide) (Kfi rfl) (fun h => by cases h) Z9h ?_))
  (repeat(first|(refine Z99 ?_; (repeat(first|refine Z9x rfl ?_|refine Z9y ?_)); refine Z9w ?_)|refine Ks ?_|refine Zb1 (fun _ _ => rfl) ?_|refine Zb3 (fun _ _ => rfl) ?_))
  exact fin _ _ _ _ _ rfl rfl rfl
 (repeat(first|refine Kq rfl rfl rfl ?_|(refine Z99 ?_; (repeat(first|refine Z9x rfl ?_|refine Z9y ?_)); refine Z9w ?_)|refine Ks ?_|refine Zb1 (fun _ _ => rfl) ?_|refine Z8s ?_))
 rw [decide_eq_false k12]
 (repeat(first|refine Kq rfl rfl rfl ?_|(refine Z99 ?_; (repeat(first|refine Z9x rfl ?_|refine Z9y ?_)); refine Z9w ?_)|refine Ks ?_|refine Zb1 (fun _ _ => rfl) ?_|refine Zb2 (fun _ _ => rfl) ?_|refine Kc2 rfl ?_))
 rw [decide_eq_false k10]
 (repeat(first|refine Kq rfl rfl rfl ?_|(refine Z99 ?_; (repeat(first|refine Z9x rfl ?_|refine Z9y ?_)); refine Z9w ?_)|refine Zb1 (fun _ _ => rfl) ?_|refine Kc2 rfl ?_))
 rw [decide_eq_false k11]
 (repeat(first|refine Kq rfl rfl rfl ?_|(refine Z99 ?_; (repeat(first|refine Z9x rfl ?_|refine Z9y ?_)); refine Z9w ?_)|refine Ks ?_|refine Zb1 (fun _ _ => rfl) ?_|refine Zb2 (fun _ _ => rfl) ?_|refine Kc2 rfl ?_))
 rw [decide_eq_false k7]
 (repeat(first|refine Kq rfl rfl rfl ?_|(refine Z99 ?_; (repeat(first|refine Z9x rfl ?_|refine Z9y ?_)); refine Z9w ?_)|refine Ks ?_|refine Zb1 (fun _ _ => rfl) ?_|refine Kc2 rfl ?_))
 rw [decide_eq_false k8]
 (repeat(first|refine Kq rfl rfl rfl ?_|(refine Z99 ?_; (repeat(first|refine Z9x rfl ?_|refine Z9y ?_)); refine Z9w ?_)|refine Ks ?_|refine Zb1 (fun _ _ => rfl) ?_|refine Kc2 rfl ?_))
 rw [decide_eq_false k16]
 (repeat(first|refine Kq rfl rfl rfl ?_|(refine Z99 ?_; (repeat(first|refine Z9x rfl ?_|refine Z9y ?_)); refine Z9w ?_)|refine Zb1 (fun _ _ => rfl) ?_|refine Kc2 rfl ?_))
 rw [decide_eq_false k17]
 (repeat(first|refine Kq rfl rfl rfl ?_|(refine Z99 ?_; (repeat(first|refine Z9x rfl ?_|refine Z9y ?_)); refine Z9w ?_)|refine Ks ?_|refine Zb1 (fun _ _ => rfl) ?_|refine Zb2 (fun _ _ => rfl) ?_|refine Kc2 rfl ?_))
 rw [decide_eq_false k9]
 (repeat(first|refine Kq rfl rfl rfl ?_|refine Ks ?_|refine Zb1 (fun _ _ => rfl) ?_|refine Zb2 (fun _ _ => rfl) ?_|refine Zb3 (fun _ _ => rfl) ?_|refine Kc2 rfl ?_))
 (first|refine Z9g rfl Z9a rfl (by decide) (Kfi rfl) (fun h => by cases h) Z9h ?_|refine Z96 rfl (Z9g rfl Z9a rfl (by decide) (Kfi rfl) (fun h => by cases h) Z9h ?_))
 (repeat(first|(refine Z99 ?_; (repeat(first|refine Z9x rfl ?_|refine Z9y ?_)); refine Z9w ?_)|refine Ks ?_|refine Zb1 (fun _ _ => rfl) ?_|refine Zb3 (fun _ _ => rfl) ?_))
 exact fin _ _ _ _ _ rfl rfl (by simp [Zxm, intF, Zmm, lenF, k12, k10, k11, k7, k8, k16, k17, k9])
def Zxn (c : Col) : Nat := c.here.count true
theorem Zxo {l : List Bool} {i : Nat} (h : i < l.length) : (l.take (i + 1)).count true = (l.take i).count true + (if l[i] = true then 1 else 0) := by
 rw [List.take_add_one, List.getElem?_eq_getElem h]
 cases l[i] <;> simp
theorem Zxp (c : Col) (hl : c.here.length ≤ 1000000) (σ : Zc) : Z1s Try.prog Zf9 [Kc c] σ fun r σ' => r = .int .i64 (Zxn c : Nat) ∧ σ' = σ := by
 have hml : (c.here.map Z0.bool).length = c.here.length := List.length_map ..
 refine Z94 rfl Zwx (Nat.le_of_ble_eq_true rfl) ?_
 refine Za1 ?_
 refine Z9n rfl (Kfi rfl) fun b1 hb1 => ?_
 repeat refine Kq rfl rfl rfl ?_
 (refine Z99 ?_; (repeat(first|refine Z9x rfl ?_|refine Z9y ?_)); refine Z9w ?_)
 refine Zaj (d := 1) (cs := Zrl c) rfl ?_
 (repeat(first|refine Kq rfl rfl rfl ?_|(refine Z99 ?_; (repeat(first|refine Z9x rfl ?_|refine Z9y ?_)); refine Z9w ?_)|refine Ks ?_|refine Zb1 (fun _ _ => rfl) ?_|refine Z8s ?_))
 refine Za6 (fun m F σ' => ∃ i : Nat, F = fset 3 (some (.int .i64 ((c.here.take i).count true : Nat))) (fset 7 (some (.slc 1 (c.here.map .bool) false)) (fset 8 (some (.int .i64 (c.here.length : Nat))) (fset 9 (some (.int .i64 i)) Z28))) ∧ σ = σ' ∧ i ≤ c.here.length ∧ m = c.here.length - i) (n := c.here.length)
  ⟨0, by rw [hml]; rfl, rfl, by omega, by omega⟩ ?_
 rintro m F σ' ⟨i, rfl, rfl, hi, rfl⟩
 (repeat(first|refine Kq rfl rfl rfl ?_|(refine Z99 ?_; (repeat(first|refine Z9x rfl ?_|refine Z9y ?_)); refine Z9w ?_)|refine Ks ?_|refine Zb1 (fun _ _ => rfl) ?_))
 refine Za2 (p := (i : Int) < (c.here.length : Nat)) rfl (fun h3 => ?_) (fun h3 => ?_)
 ·have hil : i < c.here.length := by omega
  have hx := Zrn (f := Z0.bool) hil
  have hct := Zxo hil
  have hle : (c.here.take i).count true ≤ i := Nat.le_trans List.count_le_length (by rw [List.length_take]; omega)
  generalize c.here[i] = y at hx hct
  generalize (c.here.take i).count true = n0 at hct hle
  (repeat(first|refine Ks ?_|refine Zb1 (fun _ _ => rfl) ?_|refine Z8s ?_|refine Zb2 (fun _ _ => rfl) ?_))
  refine Z9d rfl (by omega) hx ?_
  (repeat(first|refine Kq rfl rfl rfl ?_|(refine Z99 ?_; (repeat(first|refine Z9x rfl ?_|refine Z9y ?_)); refine Z9w ?_)|refine Ks ?_|refine Zb1 (fun _ _ => rfl) ?_))
  cases y with
  | true =>
   (repeat(first|refine Kq rfl rfl rfl ?_|(refine Z99 ?_; (repeat(first|refine Z9x rfl ?_|refine Z9y ?_)); refine Z9w ?_)|refine Zb1 (fun _ _ => rfl) ?_|refine Kc1 rfl ?_))
   rw [Kwr n0 (by omega)]
   skip
   refine Zb4 ?_
   repeat refine Kq rfl rfl rfl ?_
   rw [Kwr i (by omega)]
   (refine Z99 ?_; (repeat(first|refine Z9x rfl ?_|refine Z9y ?_)); refine Z9w ?_)
   exact ⟨_, c.here.length - (i + 1), HSub.refl _, ⟨i + 1, by rw [hct]; rfl, rfl, by omega, rfl⟩, by omega⟩
  | false =>
   (repeat(first|refine Zb2 (fun _ _ => rfl) ?_|refine Kc2 rfl ?_))
   refine Zb4 ?_
   repeat refine Kq rfl rfl rfl ?_
   rw [Kwr i (by omega)]
   (refine Z99 ?_; (repeat(first|refine Z9x rfl ?_|refine Z9y ?_)); refine Z9w ?_)
   exact ⟨_, c.here.length - (i + 1), HSub.refl _, ⟨i + 1, by rw [hct]; rfl, rfl, by omega, rfl⟩, by omega⟩
 ·have e : c.here.take i = c.here := List.take_of_length_le (by omega)
  rw [e]
  (repeat(first|refine Kq rfl rfl rfl ?_|(refine Z99 ?_; (repeat(first|refine Z9x rfl ?_|refine Z9y ?_)); refine Z9w ?_)|refine Ks ?_|refine Zb1 (fun _ _ => rfl) ?_|refine Zb3 (fun _ _ => rfl) ?_))
  refine Z8o ?_
  exact Kar rfl ⟨rfl, rfl⟩
theorem Zxq (c : Col) (hl : c.here.length ≤ 1000000) (σ : Zc) : Z1s Try.prog Zfa [Kc c] σ fun r σ' => r = .int .i64 (Zxn c : Nat) ∧ σ' = σ := by
 have hml : (c.here.map Z0.bool).length = c.here.length := List.length_map ..
 refine Z94 rfl Zwy (Nat.le_of_ble_eq_true rfl) ?_
 refine Za1 ?_
 refine Z9n rfl (Kfi rfl) fun b1 hb1 => ?_
 repeat refine Kq rfl rfl rfl ?_
 (refine Z99 ?_; (repeat(first|refine Z9x rfl ?_|refine Z9y ?_)); refine Z9w ?_)
 refine Zaj (d := 1) (cs := Zrl c) rfl ?_
 (repeat(first|refine Kq rfl rfl rfl ?_|(refine Z99 ?_; (repeat(first|refine Z9x rfl ?_|refine Z9y ?_)); refine Z9w ?_)|refine Ks ?_|refine Zb1 (fun _ _ => rfl) ?_|refine Z8s ?_))
 refine Za6 (fun m F σ' => ∃ i : Nat, F = fset 1 (some (.iptr (Zrl c))) (fset 3 (some (.int .i64 ((c.here.take i).count true : Nat))) (fset 4 (some (.int .i64 i)) Z28)) ∧ σ = σ' ∧ i ≤ c.here.length ∧ m = c.here.length - i) (n := c.here.length)
  ⟨0, rfl, rfl, by omega, by omega⟩ ?_
 rintro m F σ' ⟨i, rfl, rfl, hi, rfl⟩
 (repeat(first|refine Kq rfl rfl rfl ?_|(refine Z99 ?_; (repeat(first|refine Z9x rfl ?_|refine Z9y ?_)); refine Z9w ?_)|refine Ks ?_|refine Zb1 (fun _ _ => rfl) ?_))
 rw [hml]
 refine Za2 (p := (i : Int) < (c.here.length : Nat)) rfl (fun h3 => ?_) (fun h3 => ?_)
 ·have hil : i < c.here.length := by omega
  have hx := Zrn (f := Z0.bool) hil
  have hct := Zxo hil
  have hle : (c.here.take i).count true ≤ i := Nat.le_trans List.count_le_length (by rw [List.length_take]; omega)
  generalize c.here[i] = y at hx hct
  generalize (c.here.take i).count true = n0 at hct hle
  (repeat(first|refine Kq rfl rfl rfl ?_|refine Ks ?_|refine Zb1 (fun _ _ => rfl) ?_|refine Z8s ?_|refine Zb2 (fun _ _ => rfl) ?_))
  refine Z9d rfl (by omega) hx ?_
  (repeat(first|refine Kq rfl rfl rfl ?_|(refine Z99 ?_; (repeat(first|refine Z9x rfl ?_|refine Z9y ?_)); refine Z9w ?_)))
  cases y with
  | true =>
   (repeat(first|refine Kq rfl rfl rfl ?_|(refine Z99 ?_; (repeat(first|refine Z9x rfl ?_|refine Z9y ?_)); refine Z9w ?_)|refine Zb1 (fun _ _ => rfl) ?_|refine Kc1 rfl ?_))
   rw [Kwr n0 (by omega)]
   skip
   refine Zb4 ?_
   repeat refine Kq rfl rfl rfl ?_
   rw [Kwr i (by omega)]
   (refine Z99 ?_; (repeat(first|refine Z9x rfl ?_|refine Z9y ?_)); refine Z9w ?_)
   exact ⟨_, c.here.length - (i + 1), HSub.refl _, ⟨i + 1, by rw [hct]; rfl, rfl, by omega, rfl⟩, by omega⟩
  | false =>
   (repeat(first|refine Zb2 (fun _ _ => rfl) ?_|refine Kc2 rfl ?_))
   refine Zb4 ?_
   repeat refine Kq rfl rfl rfl ?_
   rw [Kwr i (by omega)]
   (refine Z99 ?_; (repeat(first|refine Z9x rfl ?_|refine Z9y ?_)); refine Z9w ?_)
   exact ⟨_, c.here.length - (i + 1), HSub.refl _, ⟨i + 1, by rw [hct]; rfl, rfl, by omega, rfl⟩, by omega⟩
 ·have e : c.here.take i = c.here := List.take_of_length_le (by omega)
  rw [e]
  (repeat(first|refine Kq rfl rfl rfl ?_|(refine Z99 ?_; (repeat(first|refine Z9x rfl ?_|refine Z9y ?_)); refine Z9w ?_)|refine Ks ?_|refine Zb1 (fun _ _ => rfl) ?_|refine Zb3 (fun _ _ => rfl) ?_))
  refine Z8o ?_
  exact Kar rfl ⟨rfl, rfl⟩
def sumL : List Int → Nat → Nat
 | [], out => out
 | v :: vs, out => if v < 0 ∨ v > 16384 - out then 16385 else sumL vs (out + v.toNat)
def askF (k : Int) (c : Col) (j : Int) : Nat := if k = 10 ∨ k = 11 then sumL c.lens 0 else if k = 13 then c.ints.count j else Zxn c
theorem Zxr {l : List Int} {i : Nat} (x : Int) (h : i < l.length) : (l.take (i + 1)).count x = (l.take i).count x + (if l[i] = x then 1 else 0) := by
 rw [List.take_add_one, List.getElem?_eq_getElem h, List.count_append]
 simp [List.count_cons]
theorem Zxs (k j : Int) (nd : List Z0) (hnd : nd.length = 8) (hk : nd[0]? = some (.int .i64 k)) (h1 : ∀ c ∈ nd, c.one = true) (c : Col) (hl : c.Sm) (σ : Zc) : Z1s Try.prog Ze7 [.agg nd, Kc c, .int .i64 j] σ fun r σ' => r = .int .i64 (askF k c j : Nat) ∧ σ' = σ := by
 obtain ⟨l1, l2, l3, l4, l5⟩ := hl
 have hml : (c.lens.map (Z0.int .i64)).length = c.lens.length := List.length_map ..
 have hmi : (c.ints.map (Z0.int .i64)).length = c.ints.length := List.length_map ..
 match nd, hnd with
 | [n0, n1, n2, n3, n4, n5, n6, n7], _ =>
 simp only [List.getElem?_cons_zero, Option.some.injEq] at hk
 subst hk
 refine Z94 rfl Zwv (Nat.le_of_ble_eq_true rfl) ?_
 refine Za1 ?_
 refine Z9n rfl ⟨rfl, h1⟩ fun b3 hb3 => ?_
 refine Z9n rfl (Kfi rfl) fun b4 hb4 => ?_
 repeat refine Kq rfl rfl rfl ?_
 (refine Z99 ?_; (repeat(first|refine Z9x rfl ?_|refine Z9y ?_)); refine Z9w ?_)
 refine Zaj (d := 4) (cs := Zrl c) rfl ?_
 refine Zaj (d := 3) (cs := [.int .i64 k, n1, n2, n3, n4, n5, n6, n7]) rfl ?_
 have lens : k = 10 ∨ k = 11 → AWp Try.prog Zum.n (.loop Zub) (Z8r 1 (Z8r 0 (Z8p Try.prog Zum.n ((Z2c.region Zul [6]).seq Z2c.ret) (ARet Zum.res fun r σ' => r = .int .i64 (askF k c j : Nat) ∧ σ' = σ))))
   (fset 7 (some (.int .i64 0)) (fset 20 (some (.slc 1 (c.lens.map (.int .i64)) false)) (fset 21 (some (.int .i64 (c.lens.map (Z0.int .i64)).length)) (fset 22 (some (.int .i64 0)) Z28)))) σ := by
  intro hk
  rw [askF, if_pos hk]
  rw [hml]
  refine Za6 (fun m F σ' => ∃ i out : Nat, F = fset 7 (some (.int .i64 (out : Nat))) (fset 20 (some (.slc 1 (c.lens.map (.int .i64)) false)) (fset 21 (some (.int .i64 (c.lens.length : Nat))) (fset 22 (some (.int .i64 i)) Z28))) ∧ σ = σ' ∧ i ≤ c.lens.length ∧ out ≤ 16384 ∧ sumL (c.lens.drop i) out = sumL c.lens 0 ∧ m = c.lens.length - i) (n := c.lens.length)
   ⟨0, 0, rfl, rfl, by omega, by omega, rfl, by omega⟩ ?_
  rintro m F σ' ⟨i, out, rfl, rfl, hi, ho, hs, rfl⟩
  (repeat(first|refine Kq rfl rfl rfl ?_|(refine Z99 ?_; (repeat(first|refine Z9x rfl ?_|refine Z9y ?_)); refine Z9w ?_)|refine Ks ?_|refine Zb1 (fun _ _ => rfl) ?_))
  refine Za2 (p := (i : Int) < (c.lens.length : Nat)) rfl (fun h3 => ?_) (fun h3 => ?_)
  ·have hil : i < c.lens.length := by omega
   have hx := Zrn (f := Z0.int .i64) hil
   rw [List.drop_eq_getElem_cons hil, sumL] at hs
   generalize c.lens[i] = v at hx hs
   (repeat(first|refine Ks ?_|refine Zb1 (fun _ _ => rfl) ?_|refine Z8s ?_|refine Zb2 (fun _ _ => rfl) ?_))
   refine Z9d rfl (by omega) hx ?_
   (repeat(first|refine Kq rfl rfl rfl ?_|(refine Z99 ?_; (repeat(first|refine Z9x rfl ?_|refine Z9y ?_)); refine Z9w ?_)|refine Ks ?_|refine Zb1 (fun _ _ => rfl) ?_))
   by_cases hv : v < 0
   ·rw [if_pos (.inl hv)] at hs
    rw [← hs]
    (rw [decide_eq_true (p := v < 0) (by omega)])
    (repeat(first|refine Kq rfl rfl rfl ?_|refine Z97 rfl ?_|(refine Z99 ?_; (repeat(first|refine Z9x rfl ?_|refine Z9y ?_)); refine Z9w ?_)|refine Ks ?_|refine Zb1 (fun _ _ => rfl) ?_|refine Kc1 rfl ?_))
    refine Z8o ?_
    exact Kar rfl ⟨rfl, rfl⟩
   (rw [decide_eq_false (p := v < 0) (by omega)])
   (repeat(first|refine Kq rfl rfl rfl ?_|refine Z96 rfl (Kq rfl rfl rfl ?_)|(refine Z99 ?_; (repeat(first|refine Z9x rfl ?_|refine Z9y ?_)); refine Z9w ?_)))
   rw [show IntKind.wrap .i64 ((16384 : Int) - (out : Int)) = (16384 : Int) - (out : Int) from w64 _ (by omega) (by omega)]
   by_cases hv2 : v > 16384 - (out : Int)
   ·rw [if_pos (.inr hv2)] at hs
    rw [← hs]
    (rw [decide_eq_true (p := 16384 - (out : Int) < v) (by omega)])
    (repeat(first|refine Kq rfl rfl rfl ?_|(refine Z99 ?_; (repeat(first|refine Z9x rfl ?_|refine Z9y ?_)); refine Z9w ?_)|refine Ks ?_|refine Zb1 (fun _ _ => rfl) ?_|refine Kc1 rfl ?_))
    refine Z8o ?_
    exact Kar rfl ⟨rfl, rfl⟩
   ·rw [if_neg (by omega)] at hs
    (rw [decide_eq_false (p := 16384 - (out : Int) < v) (by omega)])
    (repeat(first|refine Kq rfl rfl rfl ?_|(refine Z99 ?_; (repeat(first|refine Z9x rfl ?_|refine Z9y ?_)); refine Z9w ?_)|refine Zb1 (fun _ _ => rfl) ?_|refine Zb2 (fun _ _ => rfl) ?_|refine Kc2 rfl ?_))
    rw [show IntKind.wrap .i64 ((out : Int) + v) = ((out + v.toNat : Nat) : Int) by rw [w64 _ (by omega) (by omega)]; omega]
    skip
    refine Zb4 ?_
    repeat refine Kq rfl rfl rfl ?_
    rw [Kwr i (by omega)]
    (refine Z99 ?_; (repeat(first|refine Z9x rfl ?_|refine Z9y ?_)); refine Z9w ?_)
    exact ⟨_, c.lens.length - (i + 1), HSub.refl _, ⟨i + 1, out + v.toNat, rfl, rfl, by omega, by omega, hs, rfl⟩, by omega⟩
  ·rw [List.drop_of_length_le (by omega), sumL] at hs
   rw [← hs]
   (repeat(first|refine Kq rfl rfl rfl ?_|(refine Z99 ?_; (repeat(first|refine Z9x rfl ?_|refine Z9y ?_)); refine Z9w ?_)|refine Ks ?_|refine Zb1 (fun _ _ => rfl) ?_|refine Zb3 (fun _ _ => rfl) ?_))
   refine Z8o ?_
   exact Kar rfl ⟨rfl, rfl⟩
 by_cases k10 : k = 10
 ·(repeat(first|refine Kq rfl rfl rfl ?_|(refine Z99 ?_; (repeat(first|refine Z9x rfl ?_|refine Z9y ?_)); refine Z9w ?_)|refine Ks ?_|refine Zb1 (fun _ _ => rfl) ?_|refine Z8s ?_))
  (rw [decide_eq_true (p := k = 10) (by omega)])
  (repeat(first|refine Kq rfl rfl rfl ?_|(refine Z99 ?_; (repeat(first|refine Z9x rfl ?_|refine Z9y ?_)); refine Z9w ?_)|refine Ks ?_|refine Zb1 (fun _ _ => rfl) ?_|refine Z8s ?_|refine Zb2 (fun _ _ => rfl) ?_|refine Kc1 rfl ?_))
  exact lens (.inl k10)
 by_cases k11 : k = 11
 ·(repeat(first|refine Kq rfl rfl rfl ?_|(refine Z99 ?_; (repeat(first|refine Z9x rfl ?_|refine Z9y ?_)); refine Z9w ?_)|refine Ks ?_|refine Zb1 (fun _ _ => rfl) ?_|refine Z8s ?_))
  (rw [decide_eq_false (p := k = 10) (by omega)])
  (repeat(first|refine Kq rfl rfl rfl ?_|(refine Z99 ?_; (repeat(first|refine Z9x rfl ?_|refine Z9y ?_)); refine Z9w ?_)|refine Zb1 (fun _ _ => rfl) ?_|refine Kc2 rfl ?_))
  (rw [decide_eq_true (p := k = 11) (by omega)])
  (repeat(first|refine Kq rfl rfl rfl ?_|(refine Z99 ?_; (repeat(first|refine Z9x rfl ?_|refine Z9y ?_)); refine Z9w ?_)|refine Ks ?_|refine Zb1 (fun _ _ => rfl) ?_|refine Z8s ?_|refine Kc1 rfl ?_))
  exact lens (.inr k11)
 rw [askF, if_neg (by omega)]
 (repeat(first|refine Kq rfl rfl rfl ?_|(refine Z99 ?_; (repeat(first|refine Z9x rfl ?_|refine Z9y ?_)); refine Z9w ?_)|refine Ks ?_|refine Zb1 (fun _ _ => rfl) ?_|refine Z8s ?_))
 (rw [decide_eq_false (p := k = 10) (by omega)])
 (repeat(first|refine Kq rfl rfl rfl ?_|(refine Z99 ?_; (repeat(first|refine Z9x rfl ?_|refine Z9y ?_)); refine Z9w ?_)|refine Zb1 (fun _ _ => rfl) ?_|refine Kc2 rfl ?_))
 (rw [decide_eq_false (p := k = 11) (by omega)])
 (repeat(first|refine Kq rfl rfl rfl ?_|(refine Z99 ?_; (repeat(first|refine Z9x rfl ?_|refine Z9y ?_)); refine Z9w ?_)|refine Ks ?_|refine Zb1 (fun _ _ => rfl) ?_|refine Kc2 rfl ?_))
 by_cases k13 : k = 13
 ·rw [if_pos k13]
  (rw [decide_eq_true (p := k = 13) (by omega)])
  (repeat(first|refine Kq rfl rfl rfl ?_|(refine Z99 ?_; (repeat(first|refine Z9x rfl ?_|refine Z9y ?_)); refine Z9w ?_)|refine Ks ?_|refine Zb1 (fun _ _ => rfl) ?_|refine Z8s ?_|refine Kc1 rfl ?_))
  rw [hmi]
  refine Za6 (fun m F σ' => ∃ i : Nat, F = fset 2 (some (.int .i64 j)) (fset 7 (some (.int .i64 ((c.ints.take i).count j : Nat))) (fset 41 (some (.slc 1 (c.ints.map (.int .i64)) false)) (fset 42 (some (.int .i64 (c.ints.length : Nat))) (fset 43 (some (.int .i64 i)) Z28)))) ∧ σ = σ' ∧ i ≤ c.ints.length ∧ m = c.ints.length - i) (n := c.ints.length)
   ⟨0, rfl, rfl, by omega, by omega⟩ ?_
  rintro m F σ' ⟨i, rfl, rfl, hi, rfl⟩
  (repeat(first|refine Kq rfl rfl rfl ?_|(refine Z99 ?_; (repeat(first|refine Z9x rfl ?_|refine Z9y ?_)); refine Z9w ?_)|refine Ks ?_|refine Zb1 (fun _ _ => rfl) ?_))
  refine Za2 (p := (i : Int) < (c.ints.length : Nat)) rfl (fun h3 => ?_) (fun h3 => ?_)
  ·have hil : i < c.ints.length := by omega
   have hx := Zrn (f := Z0.int .i64) hil
   have hct := Zxr j hil
   have hle : (c.ints.take i).count j ≤ i := Nat.le_trans List.count_le_length (by rw [List.length_take]; omega)
   generalize c.ints[i] = y at hx hct
   generalize (c.ints.take i).count j = n0 at hct hle
   (repeat(first|refine Ks ?_|refine Zb1 (fun _ _ => rfl) ?_|refine Z8s ?_|refine Zb2 (fun _ _ => rfl) ?_))
   refine Z9d rfl (by omega) hx ?_
   (repeat(first|refine Kq rfl rfl rfl ?_|(refine Z99 ?_; (repeat(first|refine Z9x rfl ?_|refine Z9y ?_)); refine Z9w ?_)|refine Ks ?_|refine Zb1 (fun _ _ => rfl) ?_))
   refine Za2 (p := y = j) rfl (fun h4 => ?_) (fun h4 => ?_)
   ·rw [if_pos h4] at hct
    (repeat(first|refine Kq rfl rfl rfl ?_|(refine Z99 ?_; (repeat(first|refine Z9x rfl ?_|refine Z9y ?_)); refine Z9w ?_)|refine Zb1 (fun _ _ => rfl) ?_))
    rw [Kwr n0 (by omega)]
    skip
    refine Zb4 ?_
    repeat refine Kq rfl rfl rfl ?_
    rw [Kwr i (by omega)]
    (refine Z99 ?_; (repeat(first|refine Z9x rfl ?_|refine Z9y ?_)); refine Z9w ?_)
    exact ⟨_, c.ints.length - (i + 1), HSub.refl _, ⟨i + 1, by rw [hct], rfl, by omega, rfl⟩, by omega⟩
   ·rw [if_neg h4] at hct
    (repeat refine Zb2 (fun _ _ => rfl) ?_)
    refine Zb4 ?_
    repeat refine Kq rfl rfl rfl ?_
    rw [Kwr i (by omega)]
    (refine Z99 ?_; (repeat(first|refine Z9x rfl ?_|refine Z9y ?_)); refine Z9w ?_)
    exact ⟨_, c.ints.length - (i + 1), HSub.refl _, ⟨i + 1, by rw [hct]; rfl, rfl, by omega, rfl⟩, by omega⟩
  ·have e : c.ints.take i = c.ints := List.take_of_length_le (by omega)
   rw [e]
   (repeat(first|refine Kq rfl rfl rfl ?_|(refine Z99 ?_; (repeat(first|refine Z9x rfl ?_|refine Z9y ?_)); refine Z9w ?_)|refine Ks ?_|refine Zb1 (fun _ _ => rfl) ?_|refine Zb3 (fun _ _ => rfl) ?_))
   refine Z8o ?_
   exact Kar rfl ⟨rfl, rfl⟩
 ·rw [if_neg k13]
  (rw [decide_eq_false (p := k = 13) (by omega)])
  (repeat(first|refine Kq rfl rfl rfl ?_|refine Zb1 (fun _ _ => rfl) ?_|refine Kc2 rfl ?_))
  refine Z9v rfl (Zxp c (by omega) _) ?_
  (repeat(first|refine Kq rfl rfl rfl ?_|(refine Z99 ?_; (repeat(first|refine Z9x rfl ?_|refine Z9y ?_)); refine Z9w ?_)|refine Ks ?_|refine Zb1 (fun _ _ => rfl) ?_))
  refine Z8o ?_
  exact Kar rfl ⟨rfl, rfl⟩
end Go.Abs

