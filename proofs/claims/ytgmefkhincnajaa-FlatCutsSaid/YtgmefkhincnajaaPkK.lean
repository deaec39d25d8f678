/- Part K of a proof: merged by program. -/
import Derived.Test.YtgmefkhincnajaaPkG
import Derived.Test.YtgmefkhincnajaaProg
import Derived.KernelRfl
namespace Go.Abs
open Go
def Z1s3 : List Z2a := [
  ⟨some 6,.mov,[.c (.slc 0 [] true)],none⟩]
def Z1s4 : List Z2a := [
  ⟨some 11,.mov,[.t 0],none⟩,⟨some 12,.lens,[.t 11],none⟩,⟨some 13,(.mks 1 8 (.int .i64 0)),[.t 12,.t 12],none⟩,⟨some 7,.mov,[.t 13],none⟩]
def Z1s5 : List Z2a := [
  ⟨some 14,.mov,[.t 0],none⟩,⟨some 15,.lens,[.t 14],none⟩,⟨some 16,(.bin .gtr),[.t 15,.c (.int .i64 0)],none⟩]
def Z1s6 : List Z2a := [
  ⟨some 17,.mov,[.t 7],none⟩,⟨some 18,.mov,[.t 2],none⟩,⟨some 19,(.iad 1),[.t 17,.c (.int .i64 0)],none⟩,⟨none,(.store 1),[.t 19,.t 18],none⟩]
def Z1s7 : List Z2a := [
  ⟨some 20,.mov,[.t 0],none⟩,⟨some 21,.lens,[.t 20],none⟩,⟨some 22,.mov,[.t 1],none⟩,⟨some 23,.lens,[.t 22],none⟩,⟨some 24,.min,[.t 21,.t 23],none⟩,⟨some 25,.mov,[.c (.int .i64 0)],none⟩]
def Z1s8 : List Z2a := [
  ⟨some 26,(.bin .lss),[.t 25,.t 24],none⟩]
def Z1s9 : List Z2a := [
  ⟨some 27,.mov,[.t 25],none⟩,⟨some 8,.mov,[.t 27],none⟩]
def Z1sa : List Z2a := [
  ⟨some 28,.mov,[.t 0],none⟩,⟨some 29,.mov,[.t 8],none⟩,⟨some 30,(.iad 8),[.t 28,.t 29],none⟩,⟨some 31,(.fad 1),[.t 30],none⟩,⟨some 32,(.load false 1),[.t 31],none⟩,⟨some 33,.lens,[.t 32],none⟩,⟨some 34,.mov,[.c (.int .i64 0)],none⟩]
def Z1sb : List Z2a := [
  ⟨some 35,(.bin .lss),[.t 34,.t 33],none⟩]
def Z1sc : List Z2a := [
  ⟨some 36,.mov,[.t 34],none⟩,⟨some 37,(.iad 1),[.t 32,.t 34],none⟩,⟨some 38,(.load false 1),[.t 37],none⟩,⟨some 9,.mov,[.t 36],none⟩,⟨some 10,.mov,[.t 38],none⟩]
def Z1sd : List Z2a := [
  ⟨some 39,.mov,[.t 10],none⟩,⟨some 40,(.bin .geq),[.t 39,.c (.int .i64 0)],none⟩,⟨some 41,.mov,[.t 40],none⟩,⟨some 42,.mov,[.t 10],some (41,true)⟩,⟨some 43,.mov,[.t 7],some (41,true)⟩,⟨some 44,.lens,[.t 43],some (41,true)⟩,⟨some 45,(.bin .lss),[.t 42,.t 44],some (41,true)⟩,⟨some 46,.pick,[.t 41,.t 45,.c (.bool false)],none⟩]
def Z1se : List Z2a := [
  ⟨some 47,.mov,[.t 7],none⟩,⟨some 48,.mov,[.t 10],none⟩,⟨some 49,.mov,[.t 0],none⟩,⟨some 50,.mov,[.t 8],none⟩,⟨some 51,(.iad 8),[.t 49,.t 50],none⟩,⟨some 52,(.load true 8),[.t 51],none⟩,⟨some 53,.mov,[.t 1],none⟩,⟨some 54,.mov,[.t 8],none⟩,⟨some 55,(.iad 5),[.t 53,.t 54],none⟩,⟨some 56,(.load true 5),[.t 55],none⟩,⟨some 57,.mov,[.t 9],none⟩,⟨some 58,(.call Zex),[.t 52,.t 56,.t 57],none⟩,⟨some 59,(.iad 1),[.t 47,.t 48],none⟩,⟨none,(.store 1),[.t 59,.t 58],none⟩]
def Z1sf : List Z2a := [
  ⟨some 60,(.bin .add),[.t 34,.c (.int .i64 1)],none⟩,⟨some 34,.mov,[.t 60],none⟩]
def Z1sg : Z2b := (.seq (.region Z1sb [0,1,7,8,24,25,32,33,34,35]) (.seq (.cond (.t 35) .skip (.exit 2)) (.seq (.block 3 (.seq (.region Z1sc [0,1,7,8,9,10,24,25,32,33,34]) (.seq (.region Z1sd [0,1,7,8,9,10,24,25,32,33,34,46]) (.cond (.t 46) (.region Z1se [0,1,7,8,24,25,32,33,34]) .skip)))) (.region Z1sf [0,1,7,8,24,25,32,33,34]))))
def Z1sh : List Z2a := [
  ⟨some 61,(.bin .add),[.t 25,.c (.int .i64 1)],none⟩,⟨some 25,.mov,[.t 61],none⟩]
def Z1si : Z2b := (.seq (.region Z1s8 [0,1,7,24,25,26]) (.seq (.cond (.t 26) .skip (.exit 0)) (.seq (.block 1 (.seq (.region Z1s9 [0,1,7,8,24,25]) (.seq (.region Z1sa [0,1,7,8,24,25,32,33,34]) (.block 2 (.loop Z1sg))))) (.region Z1sh [0,1,7,24,25]))))
def Z1sj : List Z2a := [
  ⟨some 62,.mov,[.t 7],none⟩,⟨some 6,.mov,[.t 62],none⟩]
def Z1sk : Z2y := ⟨63,(.seq (.region Z1s3 [0,1,2]) (.seq (.region Z1s4 [0,1,2,7]) (.seq (.seq (.region Z1s5 [0,1,2,7,16]) (.cond (.t 16) (.region Z1s6 [0,1,7]) .skip)) (.seq (.seq (.region Z1s7 [0,1,7,24,25]) (.block 0 (.loop Z1si))) (.seq (.region Z1sj [6]) .ret))))),[.t 6]⟩
def Z1qc : List Z2a := [
  ⟨some 3,(.box 8),[.t 0],none⟩,⟨some 4,(.box 5),[.t 1],none⟩,⟨some 6,.mov,[.c (.int .i64 0)],none⟩]
def Z1qd : List Z2a := [
  ⟨some 7,.mov,[.c (.int .i64 0)],none⟩]
def Z1qe : List Z2a := [
  ⟨some 12,(.fad 0),[.t 3],none⟩,⟨some 13,(.load false 1),[.t 12],none⟩]
def Z1qf : List Z2a := [
  ⟨some 17,(.bin .eql),[.t 13,.c (.int .i64 10)],none⟩,⟨some 16,.mov,[.t 17],none⟩]
def Z1qg : List Z2a := [
  ⟨some 18,(.bin .eql),[.t 13,.c (.int .i64 11)],none⟩,⟨some 16,.mov,[.t 18],none⟩]
def Z1qh : List Z2a := [
  ⟨some 19,(.fad 4),[.t 4],none⟩,⟨some 20,(.load false 1),[.t 19],none⟩,⟨some 21,.lens,[.t 20],none⟩,⟨some 22,.mov,[.c (.int .i64 0)],none⟩]
def Z1qi : List Z2a := [
  ⟨some 23,(.bin .lss),[.t 22,.t 21],none⟩]
def Z1qj : List Z2a := [
  ⟨some 24,(.iad 1),[.t 20,.t 22],none⟩,⟨some 25,(.load false 1),[.t 24],none⟩,⟨some 9,.mov,[.t 25],none⟩]
def Z1qk : List Z2a := [
  ⟨some 26,.mov,[.t 9],none⟩,⟨some 27,(.bin .lss),[.t 26,.c (.int .i64 0)],none⟩,⟨some 28,.mov,[.t 27],none⟩,⟨some 29,.mov,[.t 9],some (28,false)⟩,⟨some 30,.mov,[.t 7],some (28,false)⟩,⟨some 31,(.bin .sub),[.c (.int .i64 16384),.t 30],some (28,false)⟩,⟨some 32,(.bin .gtr),[.t 29,.t 31],some (28,false)⟩,⟨some 33,.pick,[.t 28,.c (.bool true),.t 32],none⟩]
def Z1ql : List Z2a := [
  ⟨some 6,.mov,[.c (.int .i64 16385)],none⟩]
def Z1qm : List Z2a := [
  ⟨some 34,.mov,[.t 7],none⟩,⟨some 35,.mov,[.t 9],none⟩,⟨some 36,(.bin .add),[.t 34,.t 35],none⟩,⟨some 7,.mov,[.t 36],none⟩]
def Z1qn : List Z2a := [
  ⟨some 37,(.bin .add),[.t 22,.c (.int .i64 1)],none⟩,⟨some 22,.mov,[.t 37],none⟩]
def Z1qo : Z2b := (.seq (.region Z1qi [7,20,21,22,23]) (.seq (.cond (.t 23) .skip (.exit 1)) (.seq (.block 2 (.seq (.region Z1qj [7,9,20,21,22]) (.seq (.seq (.region Z1qk [7,9,20,21,22,33]) (.cond (.t 33) (.seq (.region Z1ql [6]) .ret) .skip)) (.region Z1qm [7,20,21,22])))) (.region Z1qn [7,20,21,22]))))
def Z1qp : List Z2a := [
  ⟨some 39,(.bin .eql),[.t 13,.c (.int .i64 13)],none⟩,⟨some 38,.mov,[.t 39],none⟩]
def Z1qq : List Z2a := [
  ⟨some 40,(.fad 1),[.t 4],none⟩,⟨some 41,(.load false 1),[.t 40],none⟩,⟨some 42,.lens,[.t 41],none⟩,⟨some 43,.mov,[.c (.int .i64 0)],none⟩]
def Z1qr : List Z2a := [
  ⟨some 44,(.bin .lss),[.t 43,.t 42],none⟩]
def Z1qs : List Z2a := [
  ⟨some 45,(.iad 1),[.t 41,.t 43],none⟩,⟨some 46,(.load false 1),[.t 45],none⟩,⟨some 11,.mov,[.t 46],none⟩]
def Z1qt : List Z2a := [
  ⟨some 47,.mov,[.t 11],none⟩,⟨some 48,.mov,[.t 2],none⟩,⟨some 49,(.bin .eql),[.t 47,.t 48],none⟩]
def Z1qu : List Z2a := [
  ⟨some 50,.mov,[.t 7],none⟩,⟨some 51,(.bin .add),[.t 50,.c (.int .i64 1)],none⟩,⟨some 7,.mov,[.t 51],none⟩]
def Z1qv : List Z2a := [
  ⟨some 52,(.bin .add),[.t 43,.c (.int .i64 1)],none⟩,⟨some 43,.mov,[.t 52],none⟩]
def Z1qw : Z2b := (.seq (.region Z1qr [2,7,41,42,43,44]) (.seq (.cond (.t 44) .skip (.exit 3)) (.seq (.block 4 (.seq (.region Z1qs [2,7,11,41,42,43]) (.seq (.region Z1qt [2,7,41,42,43,49]) (.cond (.t 49) (.region Z1qu [2,7,41,42,43]) .skip)))) (.region Z1qv [2,7,41,42,43]))))
def Z1qx : List Z2a := [
  ⟨some 14,(.load true 5),[.t 4],none⟩,⟨some 15,(.call Zfz),[.t 14],none⟩,⟨some 7,.mov,[.t 15],none⟩]
def Z1qy : List Z2a := [
  ⟨some 53,.mov,[.t 7],none⟩,⟨some 6,.mov,[.t 53],none⟩]
def Z1qz : Z2y := ⟨54,(.seq (.region Z1qc [2,3,4]) (.seq (.region Z1qd [2,3,4,7]) (.seq (.seq (.region Z1qe [2,4,7,13]) (.block 0 (.seq (.seq (.region Z1qf [2,4,7,13,16]) (.cond (.t 16) .skip (.region Z1qg [2,4,7,13,16]))) (.cond (.t 16) (.seq (.region Z1qh [7,20,21,22]) (.block 1 (.loop Z1qo))) (.seq (.region Z1qp [2,4,7,38]) (.cond (.t 38) (.seq (.region Z1qq [2,7,41,42,43]) (.block 3 (.loop Z1qw))) (.region Z1qx [7]))))))) (.seq (.region Z1qy [6]) .ret)))),[.t 6]⟩
def Z1r0 : List Z2a := [
  ⟨some 2,(.alloc (.agg [(.bool false),(.bool false),(.bool false),(.bool false)])),[],none⟩]
def Z1r1 : List Z2a := [
  ⟨some 3,(.alloc (.agg [(.bool false),(.bool false),(.bool false),(.bool false)])),[],none⟩]
def Z1r2 : List Z2a := [
  ⟨some 4,.mov,[.t 0],none⟩]
def Z1r3 : List Z2a := [
  ⟨some 6,(.bin .eql),[.t 4,.c (.int .i64 12)],none⟩,⟨some 5,.mov,[.t 6],none⟩]
def Z1r4 : List Z2a := [
  ⟨some 8,(.bin .eql),[.t 4,.c (.int .i64 10)],none⟩,⟨some 7,.mov,[.t 8],none⟩]
def Z1r5 : List Z2a := [
  ⟨some 9,(.bin .eql),[.t 4,.c (.int .i64 11)],none⟩,⟨some 7,.mov,[.t 9],none⟩]
def Z1r6 : List Z2a := [
  ⟨some 11,(.bin .eql),[.t 4,.c (.int .i64 7)],none⟩,⟨some 10,.mov,[.t 11],none⟩]
def Z1r7 : List Z2a := [
  ⟨some 12,(.bin .eql),[.t 4,.c (.int .i64 8)],none⟩,⟨some 10,.mov,[.t 12],none⟩]
def Z1r8 : List Z2a := [
  ⟨some 13,(.bin .eql),[.t 4,.c (.int .i64 16)],none⟩,⟨some 10,.mov,[.t 13],none⟩]
def Z1r9 : List Z2a := [
  ⟨some 14,(.bin .eql),[.t 4,.c (.int .i64 17)],none⟩,⟨some 10,.mov,[.t 14],none⟩]
def Z1ra : List Z2a := [
  ⟨some 16,(.bin .eql),[.t 4,.c (.int .i64 9)],none⟩,⟨some 15,.mov,[.t 16],none⟩]
def Z1rb : List Z2a := [
  ⟨some 17,(.fad 3),[.t 3],none⟩,⟨none,(.store 1),[.t 17,.c (.bool true)],none⟩]
def Z1rc : List Z2a := [
  ⟨some 18,(.fad 2),[.t 3],none⟩,⟨none,(.store 1),[.t 18,.c (.bool true)],none⟩]
def Z1rd : List Z2a := [
  ⟨some 19,(.fad 1),[.t 3],none⟩,⟨none,(.store 1),[.t 19,.c (.bool true)],none⟩]
def Z1re : List Z2a := [
  ⟨some 20,(.fad 0),[.t 3],none⟩,⟨none,(.store 1),[.t 20,.c (.bool true)],none⟩]
def Z1rf : List Z2a := [
  ⟨some 21,(.load true 4),[.t 3],none⟩,⟨none,(.store 4),[.t 2,.t 21],none⟩]
def Z1rg : Z2y := ⟨22,(.seq (.region Z1r0 [0,2]) (.seq (.region Z1r1 [0,2,3]) (.seq (.seq (.region Z1r2 [2,3,4]) (.block 0 (.seq (.block 5 (.seq (.block 4 (.seq (.block 3 (.seq (.block 2 (.seq (.block 1 (.seq (.seq (.seq (.region Z1r3 [2,3,4,5]) (.cond (.t 5) (.exit 1) .skip)) (.seq (.seq (.seq (.region Z1r4 [2,3,4,7]) (.cond (.t 7) .skip (.region Z1r5 [2,3,4,7]))) (.cond (.t 7) (.exit 2) .skip)) (.seq (.seq (.seq (.region Z1r6 [2,3,4,10]) (.cond (.t 10) .skip (.seq (.region Z1r7 [2,3,4,10]) (.cond (.t 10) .skip (.seq (.region Z1r8 [2,3,4,10]) (.cond (.t 10) .skip (.region Z1r9 [2,3,4,10]))))))) (.cond (.t 10) (.exit 3) .skip)) (.seq (.region Z1ra [2,3,15]) (.cond (.t 15) (.exit 4) .skip))))) (.exit 5))) (.exit 0))) (.seq (.region Z1rb [2,3]) (.exit 0)))) (.seq (.region Z1rc [2,3]) (.exit 0)))) (.region Z1rd [2,3]))) (.seq (.region Z1re [2,3]) (.exit 0))))) (.seq (.region Z1rf [2]) .ret)))),[.cell 2 true 4]⟩
def Z1rh : List Z2a := [
  ⟨some 1,(.box 5),[.t 0],none⟩,⟨some 2,.mov,[.c (.int .i64 0)],none⟩]
def Z1ri : List Z2a := [
  ⟨some 3,.mov,[.c (.int .i64 0)],none⟩]
def Z1rj : List Z2a := [
  ⟨some 6,(.fad 0),[.t 1],none⟩,⟨some 7,(.load false 1),[.t 6],none⟩,⟨some 8,.lens,[.t 7],none⟩,⟨some 9,.mov,[.c (.int .i64 0)],none⟩]
def Z1rk : List Z2a := [
  ⟨some 10,(.bin .lss),[.t 9,.t 8],none⟩]
def Z1rl : List Z2a := [
  ⟨some 11,(.iad 1),[.t 7,.t 9],none⟩,⟨some 12,(.load false 1),[.t 11],none⟩,⟨some 5,.mov,[.t 12],none⟩]
def Z1rm : List Z2a := [
  ⟨some 13,.mov,[.t 5],none⟩]
def Z1rn : List Z2a := [
  ⟨some 14,.mov,[.t 3],none⟩,⟨some 15,(.bin .add),[.t 14,.c (.int .i64 1)],none⟩,⟨some 3,.mov,[.t 15],none⟩]
def Z1ro : List Z2a := [
  ⟨some 16,(.bin .add),[.t 9,.c (.int .i64 1)],none⟩,⟨some 9,.mov,[.t 16],none⟩]
def Z1rp : Z2b := (.seq (.region Z1rk [3,7,8,9,10]) (.seq (.cond (.t 10) .skip (.exit 0)) (.seq (.block 1 (.seq (.region Z1rl [3,5,7,8,9]) (.seq (.region Z1rm [3,7,8,9,13]) (.cond (.t 13) (.region Z1rn [3,7,8,9]) .skip)))) (.region Z1ro [3,7,8,9]))))
def Z1rq : List Z2a := [
  ⟨some 17,.mov,[.t 3],none⟩,⟨some 2,.mov,[.t 17],none⟩]
def Z1rr : Z2y := ⟨18,(.seq (.region Z1rh [1]) (.seq (.region Z1ri [1,3]) (.seq (.seq (.region Z1rj [3,7,8,9]) (.block 0 (.loop Z1rp))) (.seq (.region Z1rq [2]) .ret)))),[.t 2]⟩
def Z1bc : List Z2a := [
  ⟨some 2,(.box 6),[.t 0],none⟩,⟨some 4,.mov,[.c (.bool false)],none⟩]
def Z1bd : List Z2a := [
  ⟨some 7,(.load true 6),[.t 2],none⟩,⟨some 8,(.call Zdr),[.t 7],none⟩,⟨some 9,.unot,[.t 8],none⟩,⟨some 10,.mov,[.t 9],none⟩,⟨some 11,.mov,[.t 1],some (10,false)⟩,⟨some 12,.lens,[.t 11],some (10,false)⟩,⟨some 13,(.bin .gtr),[.t 12,.c (.int .i64 200)],some (10,false)⟩,⟨some 14,.pick,[.t 10,.c (.bool true),.t 13],none⟩]
def Z1be : List Z2a := [
  ⟨some 4,.mov,[.c (.bool false)],none⟩]
def Z1bf : List Z2a := [
  ⟨some 5,.mov,[.c (.int .i64 0)],none⟩]
def Z1bg : List Z2a := [
  ⟨some 6,.mov,[.c (.int .i64 0)],none⟩]
def Z1bh : List Z2a := [
  ⟨some 15,.mov,[.t 6],none⟩,⟨some 16,.mov,[.t 1],none⟩,⟨some 17,.lens,[.t 16],none⟩,⟨some 18,(.bin .lss),[.t 15,.t 17],none⟩]
def Z1bi : List Z2a := [
  ⟨some 21,.mov,[.t 5],none⟩,⟨some 22,.mov,[.t 1],none⟩,⟨some 23,.mov,[.t 6],none⟩,⟨some 24,(.iad 5),[.t 22,.t 23],none⟩,⟨some 25,(.load true 5),[.t 24],none⟩,⟨some 26,(.call Zdz),[.t 25],none⟩,⟨some 27,(.bin .add),[.t 21,.t 26],none⟩,⟨some 5,.mov,[.t 27],none⟩]
def Z1bj : List Z2a := [
  ⟨some 28,.mov,[.t 5],none⟩,⟨some 29,(.bin .gtr),[.t 28,.c (.int .i64 1000)],none⟩]
def Z1bk : List Z2a := [
  ⟨some 4,.mov,[.c (.bool false)],none⟩]
def Z1bl : List Z2a := [
  ⟨some 19,.mov,[.t 6],none⟩,⟨some 20,(.bin .add),[.t 19,.c (.int .i64 1)],none⟩,⟨some 6,.mov,[.t 20],none⟩]
def Z1bm : Z2b := (.seq (.seq (.region Z1bh [1,5,6,18]) (.cond (.t 18) .skip (.exit 0))) (.seq (.block 1 (.seq (.region Z1bi [1,5,6]) (.seq (.region Z1bj [1,5,6,29]) (.cond (.t 29) (.seq (.region Z1bk [4]) .ret) .skip)))) (.region Z1bl [1,5,6])))
def Z1bn : List Z2a := [
  ⟨some 4,.mov,[.c (.bool true)],none⟩]
def Z1bo : Z2y := ⟨30,(.seq (.region Z1bc [1,2]) (.seq (.seq (.region Z1bd [1,14]) (.cond (.t 14) (.seq (.region Z1be [4]) .ret) .skip)) (.seq (.region Z1bf [1,5]) (.seq (.seq (.region Z1bg [1,5,6]) (.block 0 (.loop Z1bm))) (.seq (.region Z1bn [4]) .ret))))),[.t 4]⟩
def Z1cy : List Z2a := [
  ⟨some 1,(.box 6),[.t 0],none⟩,⟨some 2,.mov,[.c (.bool false)],none⟩]
def Z1cz : List Z2a := [
  ⟨some 4,(.load true 6),[.t 1],none⟩,⟨some 5,(.call Zf3),[.t 4,.c (.int .i64 1)],none⟩,⟨some 3,.mov,[.t 5],none⟩]
def Z1d0 : List Z2a := [
  ⟨some 6,.mov,[.t 3],none⟩,⟨some 7,(.bin .leq),[.t 6,.c (.int .i64 150)],none⟩,⟨some 2,.mov,[.t 7],none⟩]
def Z1d1 : Z2y := ⟨8,(.seq (.region Z1cy [1]) (.seq (.region Z1cz [3]) (.seq (.region Z1d0 [2]) .ret))),[.t 2]⟩
def Z1d2 : List Z2a := [
  ⟨some 2,(.box 6),[.t 0],none⟩,⟨some 4,.mov,[.c (.int .i64 0)],none⟩]
def Z1d3 : List Z2a := [
  ⟨some 8,.mov,[.t 1],none⟩,⟨some 9,(.bin .gtr),[.t 8,.c (.int .i64 20)],none⟩,⟨some 10,.mov,[.t 9],none⟩,⟨some 11,(.fad 2),[.t 2],some (10,false)⟩,⟨some 12,(.load false 1),[.t 11],some (10,false)⟩,⟨some 13,.lens,[.t 12],some (10,false)⟩,⟨some 14,(.bin .gtr),[.t 13,.c (.int .i64 300)],some (10,false)⟩,⟨some 15,.pick,[.t 10,.c (.bool true),.t 14],none⟩,⟨some 16,.mov,[.t 15],none⟩,⟨some 17,(.fad 1),[.t 2],some (16,false)⟩,⟨some 18,(.load false 1),[.t 17],some (16,false)⟩,⟨some 19,.lens,[.t 18],some (16,false)⟩,⟨some 20,(.bin .gtr),[.t 19,.c (.int .i64 300)],some (16,false)⟩,⟨some 21,.pick,[.t 16,.c (.bool true),.t 20],none⟩]
def Z1d4 : List Z2a := [
  ⟨some 4,.mov,[.c (.int .i64 1000)],none⟩]
def Z1d5 : List Z2a := [
  ⟨some 5,.mov,[.c (.int .i64 1)],none⟩]
def Z1d6 : List Z2a := [
  ⟨some 6,.mov,[.c (.int .i64 0)],none⟩]
def Z1d7 : List Z2a := [
  ⟨some 22,.mov,[.t 6],none⟩,⟨some 23,(.fad 1),[.t 2],none⟩,⟨some 24,(.load false 1),[.t 23],none⟩,⟨some 25,.lens,[.t 24],none⟩,⟨some 26,(.bin .lss),[.t 22,.t 25],none⟩]
def Z1d8 : List Z2a := [
  ⟨some 29,(.fad 1),[.t 2],none⟩,⟨some 30,(.load false 1),[.t 29],none⟩,⟨some 31,.mov,[.t 6],none⟩,⟨some 32,(.iad 1),[.t 30,.t 31],none⟩,⟨some 33,(.load false 1),[.t 32],none⟩,⟨some 34,.lent,[.t 33],none⟩,⟨some 35,(.bin .gtr),[.t 34,.c (.int .i64 200)],none⟩]
def Z1d9 : List Z2a := [
  ⟨some 4,.mov,[.c (.int .i64 1000)],none⟩]
def Z1da : List Z2a := [
  ⟨some 27,.mov,[.t 6],none⟩,⟨some 28,(.bin .add),[.t 27,.c (.int .i64 1)],none⟩,⟨some 6,.mov,[.t 28],none⟩]
def Z1db : Z2b := (.seq (.seq (.region Z1d7 [1,2,5,6,26]) (.cond (.t 26) .skip (.exit 0))) (.seq (.block 1 (.seq (.region Z1d8 [1,2,5,6,35]) (.cond (.t 35) (.seq (.region Z1d9 [4]) .ret) .skip))) (.region Z1da [1,2,5,6])))
def Z1dc : List Z2a := [
  ⟨some 7,.mov,[.c (.int .i64 0)],none⟩]
def Z1dd : List Z2a := [
  ⟨some 36,.mov,[.t 7],none⟩,⟨some 37,(.fad 2),[.t 2],none⟩,⟨some 38,(.load false 1),[.t 37],none⟩,⟨some 39,.lens,[.t 38],none⟩,⟨some 40,(.bin .lss),[.t 36,.t 39],none⟩]
def Z1de : List Z2a := [
  ⟨some 43,.mov,[.t 5],none⟩,⟨some 44,(.fad 2),[.t 2],none⟩,⟨some 45,(.load false 1),[.t 44],none⟩,⟨some 46,.mov,[.t 7],none⟩,⟨some 47,(.iad 6),[.t 45,.t 46],none⟩,⟨some 48,(.load true 6),[.t 47],none⟩,⟨some 49,.mov,[.t 1],none⟩,⟨some 50,(.bin .add),[.t 49,.c (.int .i64 1)],none⟩,⟨some 51,(.call Zf3),[.t 48,.t 50],none⟩,⟨some 52,(.bin .add),[.t 43,.t 51],none⟩,⟨some 5,.mov,[.t 52],none⟩]
def Z1df : List Z2a := [
  ⟨some 53,.mov,[.t 5],none⟩,⟨some 54,(.bin .gtr),[.t 53,.c (.int .i64 1000)],none⟩]
def Z1dg : List Z2a := [
  ⟨some 4,.mov,[.c (.int .i64 1000)],none⟩]
def Z1dh : List Z2a := [
  ⟨some 41,.mov,[.t 7],none⟩,⟨some 42,(.bin .add),[.t 41,.c (.int .i64 1)],none⟩,⟨some 7,.mov,[.t 42],none⟩]
def Z1di : Z2b := (.seq (.seq (.region Z1dd [1,2,5,7,40]) (.cond (.t 40) .skip (.exit 2))) (.seq (.block 3 (.seq (.region Z1de [1,2,5,7]) (.seq (.region Z1df [1,2,5,7,54]) (.cond (.t 54) (.seq (.region Z1dg [4]) .ret) .skip)))) (.region Z1dh [1,2,5,7])))
def Z1dj : List Z2a := [
  ⟨some 55,.mov,[.t 5],none⟩,⟨some 4,.mov,[.t 55],none⟩]
def Z1dk : Z2y := ⟨56,(.seq (.region Z1d2 [1,2]) (.seq (.seq (.region Z1d3 [1,2,21]) (.cond (.t 21) (.seq (.region Z1d4 [4]) .ret) .skip)) (.seq (.region Z1d5 [1,2,5]) (.seq (.seq (.region Z1d6 [1,2,5,6]) (.block 0 (.loop Z1db))) (.seq (.seq (.region Z1dc [1,2,5,7]) (.block 2 (.loop Z1di))) (.seq (.region Z1dj [4]) .ret)))))),[.t 4]⟩
def Z1dl : List Z2a := [
  ⟨some 1,(.box 5),[.t 0],none⟩,⟨some 2,.mov,[.c (.int .i64 0)],none⟩]
def Z1dm : List Z2a := [
  ⟨some 3,(.load true 5),[.t 1],none⟩,⟨some 4,(.call Zf8),[.t 3,.c (.int .i64 1)],none⟩,⟨some 2,.mov,[.t 4],none⟩]
def Z1dn : Z2y := ⟨5,(.seq (.region Z1dl [1]) (.seq (.region Z1dm [2]) .ret)),[.t 2]⟩
def Z1dr : List Z2a := [
  ⟨some 2,(.box 5),[.t 0],none⟩,⟨some 4,.mov,[.c (.int .i64 0)],none⟩]
def Z1ds : List Z2a := [
  ⟨some 7,.mov,[.t 1],none⟩,⟨some 8,(.bin .gtr),[.t 7,.c (.int .i64 20)],none⟩,⟨some 9,.mov,[.t 8],none⟩,⟨some 10,(.fad 4),[.t 2],some (9,false)⟩,⟨some 11,(.load false 1),[.t 10],some (9,false)⟩,⟨some 12,.lens,[.t 11],some (9,false)⟩,⟨some 13,(.bin .gtr),[.t 12,.c (.int .i64 400)],some (9,false)⟩,⟨some 14,.pick,[.t 9,.c (.bool true),.t 13],none⟩,⟨some 15,.mov,[.t 14],none⟩,⟨some 16,(.fad 3),[.t 2],some (15,false)⟩,⟨some 17,(.load false 1),[.t 16],some (15,false)⟩,⟨some 18,.lens,[.t 17],some (15,false)⟩,⟨some 19,(.bin .gtr),[.t 18,.c (.int .i64 5000)],some (15,false)⟩,⟨some 20,.pick,[.t 15,.c (.bool true),.t 19],none⟩]
def Z1dt : List Z2a := [
  ⟨some 4,.mov,[.c (.int .i64 1000)],none⟩]
def Z1du : List Z2a := [
  ⟨some 21,(.fad 3),[.t 2],none⟩,⟨some 22,(.load false 1),[.t 21],none⟩,⟨some 23,.lens,[.t 22],none⟩,⟨some 24,(.bin .quo),[.t 23,.c (.int .i64 50)],none⟩,⟨some 25,(.bin .add),[.c (.int .i64 1),.t 24],none⟩,⟨some 5,.mov,[.t 25],none⟩]
def Z1dv : List Z2a := [
  ⟨some 6,.mov,[.c (.int .i64 0)],none⟩]
def Z1dw : List Z2a := [
  ⟨some 26,.mov,[.t 6],none⟩,⟨some 27,(.fad 4),[.t 2],none⟩,⟨some 28,(.load false 1),[.t 27],none⟩,⟨some 29,.lens,[.t 28],none⟩,⟨some 30,(.bin .lss),[.t 26,.t 29],none⟩]
def Z1dx : List Z2a := [
  ⟨some 33,.mov,[.t 5],none⟩,⟨some 34,(.fad 4),[.t 2],none⟩,⟨some 35,(.load false 1),[.t 34],none⟩,⟨some 36,.mov,[.t 6],none⟩,⟨some 37,(.iad 5),[.t 35,.t 36],none⟩,⟨some 38,(.load true 5),[.t 37],none⟩,⟨some 39,.mov,[.t 1],none⟩,⟨some 40,(.bin .add),[.t 39,.c (.int .i64 1)],none⟩,⟨some 41,(.call Zf8),[.t 38,.t 40],none⟩,⟨some 42,(.bin .add),[.t 33,.t 41],none⟩,⟨some 5,.mov,[.t 42],none⟩]
def Z1dy : List Z2a := [
  ⟨some 43,.mov,[.t 5],none⟩,⟨some 44,(.bin .gtr),[.t 43,.c (.int .i64 1000)],none⟩]
def Z1dz : List Z2a := [
  ⟨some 4,.mov,[.c (.int .i64 1000)],none⟩]
def Z1e0 : List Z2a := [
  ⟨some 31,.mov,[.t 6],none⟩,⟨some 32,(.bin .add),[.t 31,.c (.int .i64 1)],none⟩,⟨some 6,.mov,[.t 32],none⟩]
def Z1e1 : Z2b := (.seq (.seq (.region Z1dw [1,2,5,6,30]) (.cond (.t 30) .skip (.exit 0))) (.seq (.block 1 (.seq (.region Z1dx [1,2,5,6]) (.seq (.region Z1dy [1,2,5,6,44]) (.cond (.t 44) (.seq (.region Z1dz [4]) .ret) .skip)))) (.region Z1e0 [1,2,5,6])))
def Z1e2 : List Z2a := [
  ⟨some 45,.mov,[.t 5],none⟩,⟨some 4,.mov,[.t 45],none⟩]
def Z1e3 : Z2y := ⟨46,(.seq (.region Z1dr [1,2]) (.seq (.seq (.region Z1ds [1,2,20]) (.cond (.t 20) (.seq (.region Z1dt [4]) .ret) .skip)) (.seq (.region Z1du [1,2,5]) (.seq (.seq (.region Z1dv [1,2,5,6]) (.block 0 (.loop Z1e1))) (.seq (.region Z1e2 [4]) .ret))))),[.t 4]⟩
def Zgo : List Z2a := [
  ⟨some 1,(.box 6),[.t 0],none⟩,⟨some 2,.mov,[.c (.slc 0 [] true)],none⟩]
def Zgp : List Z2a := [
  ⟨some 3,(.load true 6),[.t 1],none⟩,⟨some 4,(.call Ze2),[.t 3],none⟩,⟨some 5,(.bin .neq),[.t 4,.c (.int .i64 0)],none⟩]
def Zgq : List Z2a := [
  ⟨some 2,.mov,[.c (.slc 0 [] true)],none⟩]
def Zgr : List Z2a := [
  ⟨some 6,(.load true 6),[.t 1],none⟩,⟨some 7,(.call Ze4),[.c (.slc 0 [] true),.t 6,.c (.int .i64 (-1)),.c (.int .i64 1)],none⟩,⟨some 8,(.call Ze3),[.t 7],none⟩,⟨some 2,.mov,[.t 8],none⟩]
def Zgs : Z2y := ⟨9,(.seq (.region Zgo [1]) (.seq (.seq (.region Zgp [1,5]) (.cond (.t 5) (.seq (.region Zgq [2]) .ret) .skip)) (.seq (.region Zgr [2]) .ret))),[.t 2]⟩
def Zhg : List Z2a := [
  ⟨some 5,(.box 6),[.t 1],none⟩,⟨some 8,.mov,[.c (.slc 0 [] true)],none⟩]
def Zhh : List Z2a := [
  ⟨some 13,.mov,[.t 0],none⟩,⟨some 14,.lens,[.t 13],none⟩,⟨some 9,.mov,[.t 14],none⟩]
def Zhi : List Z2a := [
  ⟨some 15,.mov,[.t 0],none⟩,⟨some 16,(.fad 0),[.t 5],none⟩,⟨some 17,(.load false 1),[.t 16],none⟩,⟨some 18,(.fad 1),[.t 5],none⟩,⟨some 19,(.load false 1),[.t 18],none⟩,⟨some 20,(.callp Zfb),[.t 19],none⟩,⟨some 21,(.callp Zfa),[.t 20],none⟩,⟨some 22,(.fad 3),[.t 5],none⟩,⟨some 23,(.load false 1),[.t 22],none⟩,⟨some 24,(.fad 4),[.t 5],none⟩,⟨some 25,(.load false 1),[.t 24],none⟩,⟨some 26,(.fad 5),[.t 5],none⟩,⟨some 27,(.load false 1),[.t 26],none⟩,⟨some 28,.mov,[.t 2],none⟩,⟨some 29,.mov,[.t 3],none⟩,⟨some 30,(.bld [(.int .i64 0),(.slc 0 [] true),(.slc 0 [] true),(.int .i64 0),(.int .i64 0),(.int .i64 0),(.int .i64 0),(.int .i64 0)] [(0,1),(1,1),(2,1),(3,1),(4,1),(5,1),(6,1),(7,1)]),[.t 17,.c (.slc 0 [] true),.t 21,.t 23,.t 25,.t 27,.t 28,.t 29],none⟩,⟨some 31,(.bsl 8),[.t 30],none⟩,⟨some 32,(.app 8 96),[.t 15,.t 31],none⟩,⟨some 0,.mov,[.t 32],none⟩]
def Zhj : List Z2a := [
  ⟨some 10,.mov,[.c (.slc 0 [] true)],none⟩]
def Zhk : List Z2a := [
  ⟨some 33,(.fad 2),[.t 5],none⟩,⟨some 34,(.load false 1),[.t 33],none⟩,⟨some 35,.lens,[.t 34],none⟩,⟨some 36,.mov,[.c (.int .i64 0)],none⟩]
def Zhl : List Z2a := [
  ⟨some 37,(.bin .lss),[.t 36,.t 35],none⟩]
def Zhm : List Z2a := [
  ⟨some 38,(.iad 6),[.t 34,.t 36],none⟩,⟨some 39,(.load true 6),[.t 38],none⟩,⟨some 12,(.alloc (.agg [(.int .i64 0),(.slc 0 [] true),(.slc 0 [] true),(.int .i64 0),(.int .i64 0),(.int .i64 0)])),[],none⟩,⟨none,(.store 6),[.t 12,.t 39],none⟩]
def Zhn : List Z2a := [
  ⟨some 40,.mov,[.t 10],none⟩,⟨some 41,.mov,[.t 0],none⟩,⟨some 42,.lens,[.t 41],none⟩,⟨some 43,(.bsl 1),[.t 42],none⟩,⟨some 44,(.app 1 8),[.t 40,.t 43],none⟩,⟨some 10,.mov,[.t 44],none⟩]
def Zho : List Z2a := [
  ⟨some 45,.mov,[.t 0],none⟩,⟨some 46,(.load true 6),[.t 12],none⟩,⟨some 47,.mov,[.t 9],none⟩,⟨some 48,.mov,[.t 3],none⟩,⟨some 49,(.bin .add),[.t 48,.c (.int .i64 1)],none⟩,⟨some 50,(.call Ze4),[.t 45,.t 46,.t 47,.t 49],none⟩,⟨some 0,.mov,[.t 50],none⟩]
def Zhp : List Z2a := [
  ⟨some 51,(.bin .add),[.t 36,.c (.int .i64 1)],none⟩,⟨some 36,.mov,[.t 51],none⟩]
def Zhq : Z2b := (.seq (.region Zhl [0,3,9,10,34,35,36,37]) (.seq (.cond (.t 37) .skip (.exit 0)) (.seq (.block 1 (.seq (.region Zhm [0,3,9,10,12,34,35,36]) (.seq (.region Zhn [0,3,9,10,12,34,35,36]) (.region Zho [0,3,9,10,34,35,36])))) (.region Zhp [0,3,9,10,34,35,36]))))
def Zhr : List Z2a := [
  ⟨some 52,.mov,[.t 0],none⟩,⟨some 53,.mov,[.t 9],none⟩,⟨some 54,.mov,[.t 10],none⟩,⟨some 55,(.call Zfc),[.t 54],none⟩,⟨some 56,(.iad 8),[.t 52,.t 53],none⟩,⟨some 57,(.fad 1),[.t 56],none⟩,⟨none,(.store 1),[.t 57,.t 55],none⟩]
def Zhs : List Z2a := [
  ⟨some 58,.mov,[.t 0],none⟩,⟨some 8,.mov,[.t 58],none⟩]
def Zht : Z2y := ⟨59,(.seq (.region Zhg [0,2,3,5]) (.seq (.region Zhh [0,2,3,5,9]) (.seq (.region Zhi [0,3,5,9]) (.seq (.region Zhj [0,3,5,9,10]) (.seq (.seq (.region Zhk [0,3,9,10,34,35,36]) (.block 0 (.loop Zhq))) (.seq (.region Zhr [0]) (.seq (.region Zhs [8]) .ret))))))),[.t 8]⟩
end Go.Abs
namespace Go.Abs
open Go Go.Proofs
theorem Z1v4 : Z2z Try.prog [] Zdn = some Z1sk.erase := by kernel_rfl
theorem Z1rs : Z2z Try.prog [] Zex = some Z1qz.erase := by kernel_rfl
theorem Z1rt : Z2z Try.prog [] Zfx = some Z1rg.erase := by kernel_rfl
theorem Z1ru : Z2z Try.prog [] Zfz = some Z1rr.erase := by kernel_rfl
theorem Z1ew : Z2z Try.prog [] Zcp = some Z1bo.erase := by kernel_rfl
theorem Z1f0 : Z2z Try.prog [] Zdr = some Z1d1.erase := by kernel_rfl
theorem Z1f1 : Z2z Try.prog [] Zf3 = some Z1dk.erase := by kernel_rfl
theorem Z1f2 : Z2z Try.prog [] Zdz = some Z1dn.erase := by kernel_rfl
theorem Z1f4 : Z2z Try.prog [] Zf8 = some Z1e3.erase := by kernel_rfl
theorem Zl8 : Z2z Try.prog [] Zcs = some Zgs.erase := by kernel_rfl
theorem Zld : Z2z Try.prog [(2, 6), (2, 5)] Ze4 = some Zht.erase := by kernel_rfl
end Go.Abs
namespace Go.Abs
open Go Go.Proofs
set_option linter.unusedVariables false
set_option linter.unusedSimpArgs false
mutual
def fewT (deep : Nat) : Ty → Nat
  | .mk k ns ks l p s => if 20 < deep ∨ 300 < ks.length ∨ 300 < ns.length then 1000 else if ns.any (fun s => decide (200 < s.length)) = true then 1000 else fewTL (deep + 1) 1 ks
def fewTL (deep n : Nat) : List Ty → Nat
  | [] => n
  | t :: ts => if 1000 < n + fewT deep t then 1000 else fewTL deep (n + fewT deep t) ts
end
mutual
def fewV (deep : Nat) : Vl → Nat
  | .mk nu i n b ks => if 20 < deep ∨ 400 < ks.length ∨ 5000 < b.length then 1000 else fewVL (deep + 1) (1 + b.length / 50) ks
def fewVL (deep n : Nat) : List Vl → Nat
  | [] => n
  | t :: ts => if 1000 < n + fewV deep t then 1000 else fewVL deep (n + fewV deep t) ts
end
theorem Z1fb : ∀ (ts : List Ty) (deep n : Nat), n ≤ 1000 → n ≤ fewTL deep n ts
  | [], deep, n, h => by rw [fewTL]; omega
  | t :: ts, deep, n, h => by
    rw [fewTL]
    split
    · exact h
    · have := Z1fb ts deep (n + fewT deep t) (by omega)
      omega
theorem Z1fc : ∀ (ts : List Ty) (deep n : Nat), n ≤ 1000 → fewTL deep n ts < 1000 → ∀ t ∈ ts, fewT deep t < 1000 ∧ n + fewT deep t ≤ fewTL deep n ts
  | [], _, _, _, _, t, ht => by cases ht
  | t :: ts, deep, n, h, hlt, u, hu => by
    rw [fewTL] at hlt ⊢
    split at hlt
    · omega
    · rename_i h1
      rw [if_neg h1]
      have hge := Z1fb ts deep (n + fewT deep t) (by omega)
      rcases List.mem_cons.1 hu with rfl | hu
      · omega
      · have := Z1fc ts deep (n + fewT deep t) (by omega) hlt u hu
        omega
theorem Z1fd : ∀ (t : Ty) (deep : Nat), fewT deep t ≤ 1000 := by
  refine Ty.ind fun k ns ks l p s ih deep => ?_
  have hL : ∀ (ts : List Ty) (deep n : Nat), n ≤ 1000 → fewTL deep n ts ≤ 1000 := by
    intro ts
    induction ts with
    | nil => intro deep n h; rw [fewTL]; exact h
    | cons t ts ih2 =>
      intro deep n h
      rw [fewTL]
      split
      · omega
      · exact ih2 deep _ (by omega)
  rw [fewT]
  split
  · omega
  · split
    · omega
    · exact hL ks _ 1 (by omega)
theorem Z1fe : ∀ (t : Vl) (deep : Nat), fewV deep t ≤ 1000 := by
  refine Vl.ind fun nu i n b ks ih deep => ?_
  have hL : ∀ (ts : List Vl) (deep n : Nat), n ≤ 1000 → fewVL deep n ts ≤ 1000 := by
    intro ts
    induction ts with
    | nil => intro deep n h; rw [fewVL]; exact h
    | cons t ts ih2 =>
      intro deep n h
      rw [fewVL]
      split
      · omega
      · exact ih2 deep _ (by omega)
  rw [fewV]
  split
  · omega
  · exact hL ks _ _ (by omega)
inductive Ty.Few : Ty → Prop
  | mk {t : Ty} (h1 : t.kids.length ≤ 300) (h2 : t.names.length ≤ 300) (h4 : ∀ s ∈ t.names, s.length ≤ 200) (h : ∀ k ∈ t.kids, Ty.Few k) : Ty.Few t
theorem Z1ff : ∀ (t : Ty) (deep : Nat), fewT deep t < 1000 → t.Few := by
  refine Ty.ind fun k ns ks l p s ih deep h => ?_
  rw [fewT] at h
  split at h
  · omega
  · split at h
    · omega
    · rename_i h1 h2
      refine .mk (by show ks.length ≤ 300; omega) (by show ns.length ≤ 300; omega) (fun s hs => ?_) fun t ht => ih t ht (deep + 1) (Z1fc ks (deep + 1) 1 (by omega) h t ht).1
      refine Nat.le_of_not_lt fun h3 => h2 ?_
      exact List.any_eq_true.2 ⟨s, hs, decide_eq_true h3⟩
theorem Ty.Few.fit : ∀ t : Ty, t.Few → t.Fit := by
  refine Ty.ind fun k ns ks l p s ih h => ?_
  cases h with
  | mk h1 h2 h4 h3 => exact .mk (by omega) (by omega) (fun s hs => Nat.le_trans (h4 s hs) (by unfold maxLen; omega)) fun t ht => ih t ht (h3 t ht)
inductive Vl.Few : Vl → Prop
  | mk {v : Vl} (h1 : v.b.length ≤ 5000) (h2 : v.kids.length ≤ 400) (h : ∀ k ∈ v.kids, Vl.Few k) : Vl.Few v
def fewR (n : Nat) : List Vl → Bool
  | [] => true
  | v :: vs => if 1000 < n + fewV 1 v then false else fewR (n + fewV 1 v) vs
end Go.Abs
namespace Go.Abs
open Go Go.Proofs
set_option linter.unusedVariables false
set_option linter.unusedSimpArgs false
set_option maxHeartbeats 4000000
attribute [local irreducible] AWp aops KP
theorem Z1fg : ∀ (t : Ty) (deep : Nat), deep ≤ 1000 → ∀ σ, Z1q Try.prog Zf3 [encT t, .int .i64 (deep : Int)] σ fun r σ' => r = .int .i64 (fewT deep t : Int) ∧ σ' = σ := by
  refine Ty.ind fun k ns ks l p s ih deep hd σ => ?_
  rw [Zlp]
  refine Z8t rfl Z1f1 (Nat.le_of_ble_eq_true rfl) ?_
  refine Z9z ?_
  refine Z9j rfl (Kfi rfl) fun b2 hb2 => ?_
  (repeat (refine st_q rfl rfl rfl ?_))
  (refine Z8y ?_; (repeat (first | refine Z9v rfl ?_ | refine Z9w ?_)); refine Z9u ?_)
  refine Zb3 (d := 2) (cs := [.int .i64 k, .slc 1 (ns.map .str) false, .slc 6 (Zln ks) false, .int .i64 l, .int .i64 p, .int .i64 s]) rfl ?_
  generalize hX : fewT deep (.mk k ns ks l p s) = X
  rw [fewT] at hX
  by_cases h1 : 20 < deep
  · (repeat (first | refine st_q rfl rfl rfl ?_ | refine awp_seq ?_ | refine Zbm (fun _ _ => rfl) ?_))
    (rw [decide_eq_true (p := (20 : Int) < (deep : Int)) (by omega)])
    (repeat (first | refine st_q rfl rfl rfl ?_ | refine Z8w rfl ?_ | (refine Z8y ?_; (repeat (first | refine Z9v rfl ?_ | refine Z9w ?_)); refine Z9u ?_) | refine awp_seq ?_ | refine Zbm (fun _ _ => rfl) ?_ | refine Kc1 rfl ?_))
    (refine Z8d ?_; exact Kar rfl ⟨(by rw [← hX, if_pos (.inl h1)]; rfl), rfl⟩)
  (repeat (first | refine st_q rfl rfl rfl ?_ | refine awp_seq ?_ | refine Zbm (fun _ _ => rfl) ?_))
  (rw [decide_eq_false (p := (20 : Int) < (deep : Int)) (by omega)])
  (repeat (first | refine st_q rfl rfl rfl ?_ | refine Z8v rfl (st_q rfl rfl rfl ?_)))
  rw [Zlr]
  by_cases h2 : 300 < ks.length
  · (rw [decide_eq_true (p := (300 : Int) < (ks.length : Int)) (by omega)])
    (repeat (first | refine st_q rfl rfl rfl ?_ | refine Z8w rfl ?_ | (refine Z8y ?_; (repeat (first | refine Z9v rfl ?_ | refine Z9w ?_)); refine Z9u ?_) | refine awp_seq ?_ | refine Zbm (fun _ _ => rfl) ?_ | refine Kc1 rfl ?_))
    (refine Z8d ?_; exact Kar rfl ⟨(by rw [← hX, if_pos (.inr (.inl h2))]; rfl), rfl⟩)
  (rw [decide_eq_false (p := (300 : Int) < (ks.length : Int)) (by omega)])
  (repeat (first | refine st_q rfl rfl rfl ?_ | refine Z8v rfl (st_q rfl rfl rfl ?_) | (refine Z8y ?_; (repeat (first | refine Z9v rfl ?_ | refine Z9w ?_)); refine Z9u ?_)))
  rw [List.length_map]
  by_cases h3 : 300 < ns.length
  · (rw [decide_eq_true (p := (300 : Int) < (ns.length : Int)) (by omega)])
    (repeat (first | refine st_q rfl rfl rfl ?_ | (refine Z8y ?_; (repeat (first | refine Z9v rfl ?_ | refine Z9w ?_)); refine Z9u ?_) | refine awp_seq ?_ | refine Zbm (fun _ _ => rfl) ?_ | refine Kc1 rfl ?_))
    (refine Z8d ?_; exact Kar rfl ⟨(by rw [← hX, if_pos (.inr (.inr h3))]; rfl), rfl⟩)
  (rw [decide_eq_false (p := (300 : Int) < (ns.length : Int)) (by omega)])
  (repeat (first | refine st_q rfl rfl rfl ?_ | (refine Z8y ?_; (repeat (first | refine Z9v rfl ?_ | refine Z9w ?_)); refine Z9u ?_) | refine awp_seq ?_ | refine Zbm (fun _ _ => rfl) ?_ | refine Z8h ?_ | refine Zbn (fun _ _ => rfl) ?_ | refine Kc2 rfl ?_))
  rw [if_neg (by omega)] at hX
  refine Zaa (fun m F σ' => ∃ (j : Nat), F = fset 1 (some (.int .i64 (deep : Int))) (fset 2 (some (.iptr [.int .i64 k, .slc 1 (ns.map .str) false, .slc 6 (Zln ks) false, .int .i64 l, .int .i64 p, .int .i64 s])) (fset 5 (some (.int .i64 1)) (fset 6 (some (.int .i64 (j : Int))) Z27))) ∧
    σ = σ' ∧ j ≤ ns.length ∧ (ns.take j).any (fun s => decide (200 < s.length)) = false ∧ m = ns.length - j) (n := ns.length) ⟨0, rfl, rfl, by omega, by simp, rfl⟩ ?_
  rintro m F σ' ⟨j, rfl, rfl, hj, hno, rfl⟩
  (repeat (first | refine st_q rfl rfl rfl ?_ | (refine Z8y ?_; (repeat (first | refine Z9v rfl ?_ | refine Z9w ?_)); refine Z9u ?_) | refine awp_seq ?_ | refine Zbm (fun _ _ => rfl) ?_))
  rw [List.length_map]
  refine Za3 (p := (j : Int) < (ns.length : Int)) rfl (fun h5 => ?_) (fun h5 => ?_)
  · have hjl : j < ns.length := by omega
    (repeat (first | refine st_q rfl rfl rfl ?_ | refine awp_seq ?_ | refine Zbm (fun _ _ => rfl) ?_ | refine Z8h ?_ | refine Zbn (fun _ _ => rfl) ?_))
    refine Z93 rfl (by omega) (Zxw hjl) ?_
    (repeat (first | refine st_q rfl rfl rfl ?_ | (refine Z8y ?_; (repeat (first | refine Z9v rfl ?_ | refine Z9w ?_)); refine Z9u ?_)))
    by_cases h6 : 200 < (ns[j]).length
    · (rw [show decide ((200 : Int) < ((ns[j]).length : Int)) = true from decide_eq_true (by omega)])
      (repeat (first | refine st_q rfl rfl rfl ?_ | (refine Z8y ?_; (repeat (first | refine Z9v rfl ?_ | refine Z9w ?_)); refine Z9u ?_) | refine awp_seq ?_ | refine Zbm (fun _ _ => rfl) ?_ | refine Kc1 rfl ?_))
      refine Z8d ?_
      refine ares rfl (HSub.refl _) ⟨?_, rfl⟩
      have : ns.any (fun s => decide (200 < s.length)) = true := List.any_eq_true.2 ⟨ns[j], List.getElem_mem hjl, decide_eq_true h6⟩
      rw [← hX, if_pos this]; rfl
    · (rw [show decide ((200 : Int) < ((ns[j]).length : Int)) = false from decide_eq_false (by omega)])
      (repeat (first | refine Zbn (fun _ _ => rfl) ?_ | refine Kc2 rfl ?_))
      refine Zbp ?_
      (repeat (refine st_q rfl rfl rfl ?_))
      rw [Kwr j (by omega)]
      (refine Z8y ?_; (repeat (first | refine Z9v rfl ?_ | refine Z9w ?_)); refine Z9u ?_)
      refine ⟨_, ns.length - (j + 1), HSub.refl _, ⟨j + 1, rfl, rfl, by omega, ?_, rfl⟩, by omega⟩
      rw [← List.take_append_getElem hjl, List.any_append, hno]
      simp; omega
  · rw [show ns.take j = ns from List.take_of_length_le (by omega)] at hno
    rw [if_neg (by rw [hno]; simp)] at hX
    (repeat (first | refine st_q rfl rfl rfl ?_ | (refine Z8y ?_; (repeat (first | refine Z9v rfl ?_ | refine Z9w ?_)); refine Z9u ?_) | refine awp_seq ?_ | refine Zbm (fun _ _ => rfl) ?_ | refine Z8h ?_ | refine Zbo (fun _ _ => rfl) ?_))
    refine Zaa (fun m F σ' => ∃ (j n : Nat), F = fset 1 (some (.int .i64 (deep : Int))) (fset 2 (some (.iptr [.int .i64 k, .slc 1 (ns.map .str) false, .slc 6 (Zln ks) false, .int .i64 l, .int .i64 p, .int .i64 s])) (fset 5 (some (.int .i64 (n : Int))) (fset 7 (some (.int .i64 (j : Int))) Z27))) ∧
      σ = σ' ∧ j ≤ ks.length ∧ n ≤ 1000 ∧ fewTL (deep + 1) n (ks.drop j) = X ∧ m = ks.length - j) (n := ks.length) ⟨0, 1, rfl, rfl, by omega, by omega, hX, rfl⟩ ?_
    rintro m F σ' ⟨j, n, rfl, rfl, hj, hn, hXj, rfl⟩
    (repeat (first | refine st_q rfl rfl rfl ?_ | (refine Z8y ?_; (repeat (first | refine Z9v rfl ?_ | refine Z9w ?_)); refine Z9u ?_) | refine awp_seq ?_ | refine Zbm (fun _ _ => rfl) ?_))
    rw [Zlr]
    refine Za3 (p := (j : Int) < (ks.length : Int)) rfl (fun h5 => ?_) (fun h5 => ?_)
    · have hjl : j < ks.length := by omega
      have h1 : (Zln ks)[((j : Nat) : Int).toNat]? = some (.agg (Zlo ks[j])) := by rw [← Zlp]; exact Zls (by rw [Int.toNat_natCast, List.getElem?_eq_getElem hjl])
      have hc := ih ks[j] (List.getElem_mem hjl) (deep + 1) (by omega)
      rw [Zlp] at hc
      have hle := Z1fd ks[j] (deep + 1)
      rw [List.drop_eq_getElem_cons hjl, fewTL] at hXj
      generalize fewT (deep + 1) ks[j] = q at hc hle hXj
      (repeat (first | refine st_q rfl rfl rfl ?_ | refine awp_seq ?_ | refine Zbm (fun _ _ => rfl) ?_ | refine Z8h ?_ | refine Zbn (fun _ _ => rfl) ?_))
      refine Z93 rfl (by omega) h1 ?_
      (repeat refine st_q rfl rfl rfl ?_)
      rw [Kwr deep (by omega)]
      (first | refine Z9t rfl (hc _) ?_ | refine Z8v rfl (Z9t rfl (hc _) ?_) | refine Zbw rfl hc ?_ | refine Z8v rfl (Zbw rfl hc ?_))
      (repeat (first | refine st_q rfl rfl rfl ?_ | (refine Z8y ?_; (repeat (first | refine Z9v rfl ?_ | refine Z9w ?_)); refine Z9u ?_) | refine awp_seq ?_ | refine Zbm (fun _ _ => rfl) ?_))
      rw [show IntKind.wrap .i64 ((n : Int) + (q : Int)) = ((n + q : Nat) : Int) by rw [w64 _ (by omega) (by omega)]; omega]
      by_cases h7 : 1000 < n + q
      · (rw [decide_eq_true (p := (1000 : Int) < ((n + q : Nat) : Int)) (by omega)])
        (repeat (first | refine st_q rfl rfl rfl ?_ | (refine Z8y ?_; (repeat (first | refine Z9v rfl ?_ | refine Z9w ?_)); refine Z9u ?_) | refine awp_seq ?_ | refine Zbm (fun _ _ => rfl) ?_ | refine Kc1 rfl ?_))
        (refine Z8d ?_; exact Kar rfl ⟨(by rw [← hXj, if_pos h7]; rfl), rfl⟩)
      · (rw [decide_eq_false (p := (1000 : Int) < ((n + q : Nat) : Int)) (by omega)])
        rw [if_neg h7] at hXj
        (repeat (first | refine Zbn (fun _ _ => rfl) ?_ | refine Kc2 rfl ?_))
        refine Zbp ?_
        (repeat (refine st_q rfl rfl rfl ?_))
        rw [Kwr j (by omega)]
        (refine Z8y ?_; (repeat (first | refine Z9v rfl ?_ | refine Z9w ?_)); refine Z9u ?_)
        exact ⟨_, ks.length - (j + 1), HSub.refl _, ⟨j + 1, n + q, rfl, rfl, by omega, by omega, hXj, rfl⟩, by omega⟩
    · rw [List.drop_of_length_le (by omega), fewTL] at hXj
      subst hXj
      (repeat (first | refine st_q rfl rfl rfl ?_ | (refine Z8y ?_; (repeat (first | refine Z9v rfl ?_ | refine Z9w ?_)); refine Z9u ?_) | refine awp_seq ?_ | refine Zbm (fun _ _ => rfl) ?_ | refine Zbo (fun _ _ => rfl) ?_))
      (refine Z8d ?_; exact Kar rfl ⟨rfl, rfl⟩)
theorem Z1fh (t : Ty) (σ : Zc) : Z1q Try.prog Zdr [encT t] σ fun r σ' => r = .bool (decide (fewT 1 t ≤ 150)) ∧ σ' = σ := by
  have hc := Z1fg t 1 (by omega)
  rw [Zlp] at hc ⊢
  refine Z8t rfl Z1f0 (Nat.le_of_ble_eq_true rfl) ?_
  refine Z9z ?_
  refine Z9j rfl (Kfi rfl) fun b2 hb2 => ?_
  (repeat (refine st_q rfl rfl rfl ?_))
  (refine Z8y ?_; (repeat (first | refine Z9v rfl ?_ | refine Z9w ?_)); refine Z9u ?_)
  refine Zb3 (d := 1) (cs := Zlo t) rfl ?_
  (repeat (first | refine st_q rfl rfl rfl ?_ | refine awp_seq ?_ | refine Zbm (fun _ _ => rfl) ?_))
  (first | refine Z9t rfl (hc _) ?_ | refine Z8v rfl (Z9t rfl (hc _) ?_) | refine Zbw rfl hc ?_ | refine Z8v rfl (Zbw rfl hc ?_))
  (repeat (first | refine st_q rfl rfl rfl ?_ | (refine Z8y ?_; (repeat (first | refine Z9v rfl ?_ | refine Z9w ?_)); refine Z9u ?_) | refine awp_seq ?_ | refine Zbm (fun _ _ => rfl) ?_))
  refine Z8d ?_
  refine ares rfl (HSub.refl _) ⟨?_, rfl⟩
  simp only [Z8m, Z0.bool.injEq, decide_eq_decide]
  omega
theorem Z1fi : ∀ (t : Vl) (deep : Nat), deep ≤ 1000 → ∀ σ, Z1q Try.prog Zf8 [encV t, .int .i64 (deep : Int)] σ fun r σ' => r = .int .i64 (fewV deep t : Int) ∧ σ' = σ := by
  refine Vl.ind fun nu i n b ks ih deep hd σ => ?_
  rw [Zm7]
  refine Z8t rfl Z1f4 (Nat.le_of_ble_eq_true rfl) ?_
  refine Z9z ?_
  refine Z9j rfl (Kfi rfl) fun b2 hb2 => ?_
  (repeat (refine st_q rfl rfl rfl ?_))
  (refine Z8y ?_; (repeat (first | refine Z9v rfl ?_ | refine Z9w ?_)); refine Z9u ?_)
  refine Zb3 (d := 2) (cs := [.bool nu, .int .i64 i, .int .i64 n, .slc 1 (bytes b) false, .slc 5 (Zm5 ks) false]) rfl ?_
  generalize hX : fewV deep (.mk nu i n b ks) = X
  rw [fewV] at hX
  by_cases h1 : 20 < deep
  · (repeat (first | refine st_q rfl rfl rfl ?_ | refine awp_seq ?_ | refine Zbm (fun _ _ => rfl) ?_))
    (rw [decide_eq_true (p := (20 : Int) < (deep : Int)) (by omega)])
    (repeat (first | refine st_q rfl rfl rfl ?_ | refine Z8w rfl ?_ | (refine Z8y ?_; (repeat (first | refine Z9v rfl ?_ | refine Z9w ?_)); refine Z9u ?_) | refine awp_seq ?_ | refine Zbm (fun _ _ => rfl) ?_ | refine Kc1 rfl ?_))
    (refine Z8d ?_; exact Kar rfl ⟨(by rw [← hX, if_pos (.inl h1)]; rfl), rfl⟩)
  (repeat (first | refine st_q rfl rfl rfl ?_ | refine awp_seq ?_ | refine Zbm (fun _ _ => rfl) ?_))
  (rw [decide_eq_false (p := (20 : Int) < (deep : Int)) (by omega)])
  (repeat (first | refine st_q rfl rfl rfl ?_ | refine Z8v rfl (st_q rfl rfl rfl ?_)))
  rw [Zm9]
  by_cases h2 : 400 < ks.length
  · (rw [decide_eq_true (p := (400 : Int) < (ks.length : Int)) (by omega)])
    (repeat (first | refine st_q rfl rfl rfl ?_ | refine Z8w rfl ?_ | (refine Z8y ?_; (repeat (first | refine Z9v rfl ?_ | refine Z9w ?_)); refine Z9u ?_) | refine awp_seq ?_ | refine Zbm (fun _ _ => rfl) ?_ | refine Kc1 rfl ?_))
    (refine Z8d ?_; exact Kar rfl ⟨(by rw [← hX, if_pos (.inr (.inl h2))]; rfl), rfl⟩)
  (rw [decide_eq_false (p := (400 : Int) < (ks.length : Int)) (by omega)])
  (repeat (first | refine st_q rfl rfl rfl ?_ | refine Z8v rfl (st_q rfl rfl rfl ?_) | (refine Z8y ?_; (repeat (first | refine Z9v rfl ?_ | refine Z9w ?_)); refine Z9u ?_)))
  rw [Zam]
  by_cases h3 : 5000 < b.length
  · (rw [decide_eq_true (p := (5000 : Int) < (b.length : Int)) (by omega)])
    (repeat (first | refine st_q rfl rfl rfl ?_ | (refine Z8y ?_; (repeat (first | refine Z9v rfl ?_ | refine Z9w ?_)); refine Z9u ?_) | refine awp_seq ?_ | refine Zbm (fun _ _ => rfl) ?_ | refine Kc1 rfl ?_))
    (refine Z8d ?_; exact Kar rfl ⟨(by rw [← hX, if_pos (.inr (.inr h3))]; rfl), rfl⟩)
  (rw [decide_eq_false (p := (5000 : Int) < (b.length : Int)) (by omega)])
  rw [if_neg (by omega)] at hX
  (repeat (first | refine st_q rfl rfl rfl ?_ | (refine Z8y ?_; (repeat (first | refine Z9v rfl ?_ | refine Z9w ?_)); refine Z9u ?_) | refine awp_seq ?_ | refine Zbm (fun _ _ => rfl) ?_ | refine Z8h ?_ | refine Zbn (fun _ _ => rfl) ?_ | refine Kc2 rfl ?_))
  rw [Zam]
  rw [show IntKind.wrap .i64 (1 + IntKind.wrap .i64 ((b.length : Int).tdiv 50)) = ((1 + b.length / 50 : Nat) : Int) by
    rw [Int.tdiv_eq_ediv_of_nonneg (by omega), w64 ((b.length : Int) / 50) (by omega) (by omega), w64 _ (by omega) (by omega)]; omega]
  skip
  refine Zaa (fun m F σ' => ∃ (j n' : Nat), F = fset 1 (some (.int .i64 (deep : Int))) (fset 2 (some (.iptr [.bool nu, .int .i64 i, .int .i64 n, .slc 1 (bytes b) false, .slc 5 (Zm5 ks) false])) (fset 5 (some (.int .i64 (n' : Int))) (fset 6 (some (.int .i64 (j : Int))) Z27))) ∧
    σ = σ' ∧ j ≤ ks.length ∧ n' ≤ 1000 ∧ fewVL (deep + 1) n' (ks.drop j) = X ∧ m = ks.length - j) (n := ks.length) ⟨0, 1 + b.length / 50, rfl, rfl, by omega, by omega, hX, rfl⟩ ?_
  rintro m F σ' ⟨j, n', rfl, rfl, hj, hn, hXj, rfl⟩
  (repeat (first | refine st_q rfl rfl rfl ?_ | (refine Z8y ?_; (repeat (first | refine Z9v rfl ?_ | refine Z9w ?_)); refine Z9u ?_) | refine awp_seq ?_ | refine Zbm (fun _ _ => rfl) ?_))
  rw [Zm9]
  refine Za3 (p := (j : Int) < (ks.length : Int)) rfl (fun h5 => ?_) (fun h5 => ?_)
  · have hjl : j < ks.length := by omega
    have h1 : (Zm5 ks)[((j : Nat) : Int).toNat]? = some (.agg (Zm6 ks[j])) := by rw [← Zm7]; exact Zma (by rw [Int.toNat_natCast, List.getElem?_eq_getElem hjl])
    have hc := ih ks[j] (List.getElem_mem hjl) (deep + 1) (by omega)
    rw [Zm7] at hc
    have hle := Z1fe ks[j] (deep + 1)
    rw [List.drop_eq_getElem_cons hjl, fewVL] at hXj
    generalize fewV (deep + 1) ks[j] = q at hc hle hXj
    (repeat (first | refine st_q rfl rfl rfl ?_ | refine awp_seq ?_ | refine Zbm (fun _ _ => rfl) ?_ | refine Z8h ?_ | refine Zbn (fun _ _ => rfl) ?_))
    refine Z93 rfl (by omega) h1 ?_
    (repeat refine st_q rfl rfl rfl ?_)
    rw [Kwr deep (by omega)]
    (first | refine Z9t rfl (hc _) ?_ | refine Z8v rfl (Z9t rfl (hc _) ?_) | refine Zbw rfl hc ?_ | refine Z8v rfl (Zbw rfl hc ?_))
    (repeat (first | refine st_q rfl rfl rfl ?_ | (refine Z8y ?_; (repeat (first | refine Z9v rfl ?_ | refine Z9w ?_)); refine Z9u ?_) | refine awp_seq ?_ | refine Zbm (fun _ _ => rfl) ?_))
    rw [show IntKind.wrap .i64 ((n' : Int) + (q : Int)) = ((n' + q : Nat) : Int) by rw [w64 _ (by omega) (by omega)]; omega]
    by_cases h7 : 1000 < n' + q
    · (rw [decide_eq_true (p := (1000 : Int) < ((n' + q : Nat) : Int)) (by omega)])
      (repeat (first | refine st_q rfl rfl rfl ?_ | (refine Z8y ?_; (repeat (first | refine Z9v rfl ?_ | refine Z9w ?_)); refine Z9u ?_) | refine awp_seq ?_ | refine Zbm (fun _ _ => rfl) ?_ | refine Kc1 rfl ?_))
      (refine Z8d ?_; exact Kar rfl ⟨(by rw [← hXj, if_pos h7]; rfl), rfl⟩)
    · (rw [decide_eq_false (p := (1000 : Int) < ((n' + q : Nat) : Int)) (by omega)])
      rw [if_neg h7] at hXj
      (repeat (first | refine Zbn (fun _ _ => rfl) ?_ | refine Kc2 rfl ?_))
      refine Zbp ?_
      (repeat (refine st_q rfl rfl rfl ?_))
      rw [Kwr j (by omega)]
      (refine Z8y ?_; (repeat (first | refine Z9v rfl ?_ | refine Z9w ?_)); refine Z9u ?_)
      exact ⟨_, ks.length - (j + 1), HSub.refl _, ⟨j + 1, n' + q, rfl, rfl, by omega, by omega, hXj, rfl⟩, by omega⟩
  · rw [List.drop_of_length_le (by omega), fewVL] at hXj
    subst hXj
    (repeat (first | refine st_q rfl rfl rfl ?_ | (refine Z8y ?_; (repeat (first | refine Z9v rfl ?_ | refine Z9w ?_)); refine Z9u ?_) | refine awp_seq ?_ | refine Zbm (fun _ _ => rfl) ?_ | refine Zbo (fun _ _ => rfl) ?_))
    (refine Z8d ?_; exact Kar rfl ⟨rfl, rfl⟩)
theorem Z1fj (t : Vl) (σ : Zc) : Z1q Try.prog Zdz [encV t] σ fun r σ' => r = .int .i64 (fewV 1 t : Int) ∧ σ' = σ := by
  have hc := Z1fi t 1 (by omega)
  rw [Zm7] at hc ⊢
  refine Z8t rfl Z1f2 (Nat.le_of_ble_eq_true rfl) ?_
  refine Z9z ?_
  refine Z9j rfl (Kfi rfl) fun b2 hb2 => ?_
  (repeat (refine st_q rfl rfl rfl ?_))
  (refine Z8y ?_; (repeat (first | refine Z9v rfl ?_ | refine Z9w ?_)); refine Z9u ?_)
  refine Zb3 (d := 1) (cs := Zm6 t) rfl ?_
  (repeat (first | refine st_q rfl rfl rfl ?_ | refine awp_seq ?_ | refine Zbm (fun _ _ => rfl) ?_))
  (first | refine Z9t rfl (hc _) ?_ | refine Z8v rfl (Z9t rfl (hc _) ?_) | refine Zbw rfl hc ?_ | refine Z8v rfl (Zbw rfl hc ?_))
  (repeat (first | refine st_q rfl rfl rfl ?_ | (refine Z8y ?_; (repeat (first | refine Z9v rfl ?_ | refine Z9w ?_)); refine Z9u ?_)))
  (refine Z8d ?_; exact Kar rfl ⟨rfl, rfl⟩)
def few15 (t : Ty) (rows : List Vl) : Bool := decide (fewT 1 t ≤ 150) && (decide (rows.length ≤ 200) && fewR 0 rows)
theorem Z1fl (t : Ty) (rows : List Vl) (f : Bool) (σ : Zc) : Z1q Try.prog Zcp [encT t, .slc 5 (Zm5 rows) f] σ fun r σ' => r = .bool (few15 t rows) ∧ σ' = σ := by
  have hc := Z1fh t
  rw [Zlp] at hc ⊢
  refine Z8t rfl Z1ew (Nat.le_of_ble_eq_true rfl) ?_
  refine Z9z ?_
  refine Z9j rfl (Kfi rfl) fun b2 hb2 => ?_
  (repeat (refine st_q rfl rfl rfl ?_))
  (refine Z8y ?_; (repeat (first | refine Z9v rfl ?_ | refine Z9w ?_)); refine Z9u ?_)
  refine Zb3 (d := 2) (cs := Zlo t) rfl ?_
  (repeat (first | refine st_q rfl rfl rfl ?_ | refine awp_seq ?_ | refine Zbm (fun _ _ => rfl) ?_))
  (first | refine Z9t rfl (hc _) ?_ | refine Z8v rfl (Z9t rfl (hc _) ?_) | refine Zbw rfl hc ?_ | refine Z8v rfl (Zbw rfl hc ?_))
  unfold few15
  generalize decide (fewT 1 t ≤ 150) = q
  cases q with
  | false =>
    (repeat (first | refine st_q rfl rfl rfl ?_ | refine Z8w rfl ?_ | (refine Z8y ?_; (repeat (first | refine Z9v rfl ?_ | refine Z9w ?_)); refine Z9u ?_) | refine awp_seq ?_ | refine Zbm (fun _ _ => rfl) ?_ | refine Kc1 rfl ?_))
    (refine Z8d ?_; exact Kar rfl ⟨rfl, rfl⟩)
  | true =>
  (repeat (first | refine st_q rfl rfl rfl ?_ | refine Z8v rfl (st_q rfl rfl rfl ?_) | (refine Z8y ?_; (repeat (first | refine Z9v rfl ?_ | refine Z9w ?_)); refine Z9u ?_)))
  rw [Zm9]
  by_cases h1 : 200 < rows.length
  · (rw [decide_eq_true (p := (200 : Int) < (rows.length : Int)) (by omega)])
    (repeat (first | refine st_q rfl rfl rfl ?_ | (refine Z8y ?_; (repeat (first | refine Z9v rfl ?_ | refine Z9w ?_)); refine Z9u ?_) | refine awp_seq ?_ | refine Zbm (fun _ _ => rfl) ?_ | refine Kc1 rfl ?_))
    (refine Z8d ?_; exact Kar rfl ⟨(by rw [decide_eq_false (p := rows.length ≤ 200) (by omega)]; rfl), rfl⟩)
  (rw [decide_eq_false (p := (200 : Int) < (rows.length : Int)) (by omega)])
  rw [show decide (rows.length ≤ 200) = true from decide_eq_true (by omega), Bool.true_and, Bool.true_and]
  generalize hX : fewR 0 rows = X
  (repeat (first | refine st_q rfl rfl rfl ?_ | (refine Z8y ?_; (repeat (first | refine Z9v rfl ?_ | refine Z9w ?_)); refine Z9u ?_) | refine awp_seq ?_ | refine Zbm (fun _ _ => rfl) ?_ | refine Z8h ?_ | refine Zbn (fun _ _ => rfl) ?_ | refine Kc2 rfl ?_))
  refine Zaa (fun m F σ' => ∃ (j n' : Nat), F = fset 1 (some (.slc 5 (Zm5 rows) f)) (fset 5 (some (.int .i64 (n' : Int))) (fset 6 (some (.int .i64 (j : Int))) Z27)) ∧
    σ = σ' ∧ j ≤ rows.length ∧ n' ≤ 1000 ∧ fewR n' (rows.drop j) = X ∧ m = rows.length - j) (n := rows.length) ⟨0, 0, rfl, rfl, by omega, by omega, hX, rfl⟩ ?_
  rintro m F σ' ⟨j, n', rfl, rfl, hj, hn, hXj, rfl⟩
  (repeat (first | refine st_q rfl rfl rfl ?_ | (refine Z8y ?_; (repeat (first | refine Z9v rfl ?_ | refine Z9w ?_)); refine Z9u ?_) | refine awp_seq ?_ | refine Zbm (fun _ _ => rfl) ?_))
  rw [Zm9]
  refine Za3 (p := (j : Int) < (rows.length : Int)) rfl (fun h5 => ?_) (fun h5 => ?_)
  · have hjl : j < rows.length := by omega
    have h1 : (Zm5 rows)[((j : Nat) : Int).toNat]? = some (.agg (Zm6 rows[j])) := by rw [← Zm7]; exact Zma (by rw [Int.toNat_natCast, List.getElem?_eq_getElem hjl])
    have hc := Z1fj rows[j]
    rw [Zm7] at hc
    have hle := Z1fe rows[j] 1
    rw [List.drop_eq_getElem_cons hjl, fewR] at hXj
    generalize fewV 1 rows[j] = q at hc hle hXj
    (repeat (first | refine st_q rfl rfl rfl ?_ | refine awp_seq ?_ | refine Zbm (fun _ _ => rfl) ?_ | refine Z8h ?_ | refine Zbn (fun _ _ => rfl) ?_))
    refine Z93 rfl (by omega) h1 ?_
    (repeat refine st_q rfl rfl rfl ?_)
    (first | refine Z9t rfl (hc _) ?_ | refine Z8v rfl (Z9t rfl (hc _) ?_) | refine Zbw rfl hc ?_ | refine Z8v rfl (Zbw rfl hc ?_))
    (repeat (first | refine st_q rfl rfl rfl ?_ | (refine Z8y ?_; (repeat (first | refine Z9v rfl ?_ | refine Z9w ?_)); refine Z9u ?_) | refine awp_seq ?_ | refine Zbm (fun _ _ => rfl) ?_))
    rw [show IntKind.wrap .i64 ((n' : Int) + (q : Int)) = ((n' + q : Nat) : Int) by rw [w64 _ (by omega) (by omega)]; omega]
    by_cases h7 : 1000 < n' + q
    · (rw [decide_eq_true (p := (1000 : Int) < ((n' + q : Nat) : Int)) (by omega)])
      (repeat (first | refine st_q rfl rfl rfl ?_ | (refine Z8y ?_; (repeat (first | refine Z9v rfl ?_ | refine Z9w ?_)); refine Z9u ?_) | refine awp_seq ?_ | refine Zbm (fun _ _ => rfl) ?_ | refine Kc1 rfl ?_))
      (refine Z8d ?_; exact Kar rfl ⟨(by rw [← hXj, if_pos h7]; rfl), rfl⟩)
    · (rw [decide_eq_false (p := (1000 : Int) < ((n' + q : Nat) : Int)) (by omega)])
      rw [if_neg h7] at hXj
      (repeat (first | refine Zbn (fun _ _ => rfl) ?_ | refine Kc2 rfl ?_))
      refine Zbp ?_
      (repeat (refine st_q rfl rfl rfl ?_))
      rw [Kwr j (by omega)]
      (refine Z8y ?_; (repeat (first | refine Z9v rfl ?_ | refine Z9w ?_)); refine Z9u ?_)
      exact ⟨_, rows.length - (j + 1), HSub.refl _, ⟨j + 1, n' + q, rfl, rfl, by omega, by omega, hXj, rfl⟩, by omega⟩
  · rw [List.drop_of_length_le (by omega), fewR] at hXj
    subst hXj
    (repeat (first | refine st_q rfl rfl rfl ?_ | (refine Z8y ?_; (repeat (first | refine Z9v rfl ?_ | refine Z9w ?_)); refine Z9u ?_) | refine awp_seq ?_ | refine Zbm (fun _ _ => rfl) ?_ | refine Zbo (fun _ _ => rfl) ?_))
    (refine Z8d ?_; exact Kar rfl ⟨rfl, rfl⟩)
end Go.Abs
namespace Go.Abs
open Go Go.Proofs
set_option linter.unusedVariables false
set_option linter.unusedSimpArgs false
set_option maxHeartbeats 4000000
attribute [local irreducible] AWp aops KP
theorem Znj : ∀ (t : Ty), t.Small → ∀ (v : Z0) (xs : List Z0) (β : Zc) (parent : Int) (deep : Nat) (σ : Zc), Zbr 8 v xs β → xs.length + cnt t ≤ 1000 → deep + cnt t ≤ 1000 →
    Z1q Try.prog Ze4 [v, encT t, .int .i64 parent, .int .i64 (deep : Int)] (β ++ σ) fun r σ' => ∃ β', Zbr 8 r (xs ++ (Zlz xs.length parent deep t).map encN) β' ∧ σ' = β' ++ σ := by
  refine Ty.ind fun k ns ks l p s ih hsmall v xs β parent deep σ ho hx hd => ?_
  cases hsmall with
  | mk hk1 hn1 hn4 hkids =>
  simp only [encT, Ty.kind, Ty.names, Ty.kids, Ty.len, Ty.prec, Ty.scale] at *
  have hlenks := Znc ks
  refine Z8t rfl Zld (Nat.le_of_ble_eq_true rfl) ?_
  refine Z9z ?_
  refine Z9j rfl (Kfi rfl) fun pb hpb => ?_
  (repeat (refine st_q rfl rfl rfl ?_))
  (refine Z8y ?_; (repeat (first | refine Z9v rfl ?_ | refine Z9w ?_)); refine Z9u ?_)
  refine Zb3 (d := 5) (cs := [.int .i64 k, .slc 1 (ns.map .str) false, .slc 6 (Zln ks) false, .int .i64 l, .int .i64 p, .int .i64 s]) rfl ?_
  refine Z9z ?_
  refine st_q rfl rfl rfl ?_
  refine Zas rfl ho.lens ?_
  (repeat (refine st_q rfl rfl rfl ?_))
  (refine Z8y ?_; (repeat (first | refine Z9v rfl ?_ | refine Z9w ?_)); refine Z9u ?_)
  refine Z9z ?_
  (repeat (refine st_q rfl rfl rfl ?_))
  refine Zbw rfl (Znb _ _ (Zni ns) (by rw [List.length_map]; omega)) ?_
  refine Zbw rfl (Zn5 _ _) ?_
  (repeat (refine st_q rfl rfl rfl ?_))
  refine Zbs (ys := [.agg [.int .i64 k, .slc 0 [] true, .slc 1 (ns.map .str) true, .int .i64 l, .int .i64 p, .int .i64 s, .int .i64 parent, .int .i64 (deep : Int)]]) ho rfl rfl (by simp only [List.length_cons, List.length_nil]; omega) fun b1 hb1 => ?_
  (repeat (first | refine st_q rfl rfl rfl ?_ | (refine Z8y ?_; (repeat (first | refine Z9v rfl ?_ | refine Z9w ?_)); refine Z9u ?_) | refine awp_seq ?_ | refine Zbm (fun _ _ => rfl) ?_ | refine Z8h ?_))
  rw [Zlr]
  obtain ⟨x0, hx0⟩ : ∃ x0, x0 = Z0.agg [.int .i64 k, .slc 0 [] true, .slc 1 (ns.map .str) true, .int .i64 l, .int .i64 p, .int .i64 s, .int .i64 parent, .int .i64 (deep : Int)] := ⟨_, rfl⟩
  rw [← hx0]
  refine Zaa (fun m F σ' => ∃ (i b : Nat) (vk : Z0) (βk : Zc) (R : List Z0), F = fset 0 (some (.arr 8 b 0 R.length)) (fset 3 (some (.int .i64 (deep : Int))) (fset 9 (some (.int .i64 (xs.length : Int))) (fset 10 (some vk) (fset 34 (some (.slc 6 (Zln ks) false)) (fset 35 (some (.int .i64 (ks.length : Int))) (fset 36 (some (.int .i64 (i : Int))) Z27)))))) ∧
    σ' = (b, .cells 8 R) :: (βk ++ σ) ∧ R = xs ++ x0 :: (Zm0 (xs.length + 1) (xs.length : Int) (deep + 1) (ks.take i)).map encN ∧ Zbr 1 vk (ints (Zly (xs.length + 1) (ks.take i))) βk ∧ i ≤ ks.length ∧ m = ks.length - i) (n := ks.length)
    ⟨0, b1, _, [], _, rfl, rfl, rfl, Zbr.nil 1 0, by omega, rfl⟩ ?_
  rintro m F σ' ⟨i, b, vk, βk, R, rfl, rfl, hR, hok, hi, rfl⟩
  have hRl : R.length = xs.length + 1 + cntL (ks.take i) := by rw [hR]; simp [Zng]; omega
  (repeat (first | refine st_q rfl rfl rfl ?_ | (refine Z8y ?_; (repeat (first | refine Z9v rfl ?_ | refine Z9w ?_)); refine Z9u ?_) | refine awp_seq ?_ | refine Zbm (fun _ _ => rfl) ?_))
  refine Za3 (p := (i : Int) < (ks.length : Int)) rfl (fun h3 => ?_) (fun h3 => ?_)
  · have hil : i < ks.length := by omega
    have Zd : ks[i]? = some ks[i] := List.getElem?_eq_getElem hil
    have hx' : (Zln ks)[(i : Int).toNat]? = some (encT ks[i]) := Zls (by rw [Int.toNat_natCast, Zd])
    have hcn := Znh ks i _ Zd
    have hkl := Zne ks (xs.length + 1) i _ Zd
    have hfl := Znf ks (xs.length + 1) i (xs.length : Int) (deep + 1) _ Zd
    simp only [cnt] at hx hd
    (repeat (first | refine awp_seq ?_ | refine Zbm (fun _ _ => rfl) ?_ | refine Z8h ?_ | refine Zbn (fun _ _ => rfl) ?_))
    refine Z93 rfl (by omega) hx' ?_
    rw [Zlp]
    (repeat refine st_q rfl rfl rfl ?_)
    refine Z9k (by simp [Z0.cells, Z0.one]) fun vb hvb => ?_
    refine Z9a rfl Z8z rfl (by decide) (Kfi rfl) (fun h => by cases h) Z9b ?_
    (refine Z8y ?_; (repeat (first | refine Z9v rfl ?_ | refine Z9w ?_)); refine Z9u ?_)
    refine Zb3 (d := 12) (cs := Zlo ks[i]) rfl ?_
    refine Zb4 (β := [(b, .cells 8 R)]) (γ := βk) ?_
    refine awp_seq ?_
    refine Zbm (fun _ _ => rfl) ?_
    (repeat (refine st_q rfl rfl rfl ?_))
    refine Zbs (ys := [.int .i64 (R.length : Int)]) hok rfl rfl (by
      simp only [List.length_cons, List.length_nil, ints, List.length_map]
      have : ∀ (l : List Ty) (a : Nat), (Zly a l).length = l.length := by
        intro l; induction l with
        | nil => intro a; rfl
        | cons t l ih => intro a; simp [Zly, ih]
      rw [this, List.length_take]; omega) fun b2 hb2 => ?_
    (repeat (refine st_q rfl rfl rfl ?_))
    (refine Z8y ?_; (repeat (first | refine Z9v rfl ?_ | refine Z9w ?_)); refine Z9u ?_)
    refine Zb4 (β := [(b2, .cells 1 _)]) (γ := [(b, .cells 8 R)]) ?_
    refine Zbm (fun _ _ => rfl) ?_
    (repeat (refine st_q rfl rfl rfl ?_))
    rw [Kwr deep (by omega)]
    have hcw := ih ks[i] (List.getElem_mem hil) (hkids _ (List.getElem_mem hil)) (.arr 8 b 0 R.length) R [(b, .cells 8 R)] (xs.length : Int) (deep + 1) ([(b2, .cells 1 (ints (Zly (xs.length + 1) (ks.take i)) ++ [.int .i64 (R.length : Int)]))] ++ σ) Zbr.mk (by omega) (by omega)
    rw [Zlp] at hcw
    refine Z9s rfl hcw ?_ ?_
    · obtain ⟨gv, gβ, hgr⟩ := Zbr.ex 8 (R ++ (Zlz R.length (xs.length : Int) (deep + 1) ks[i]).map encN)
      exact ⟨_, _, gβ, hgr, rfl⟩
    rintro r2 _ ⟨β2, ho2, rfl⟩
    obtain ⟨b3, rfl, rfl⟩ := ho2.arr (by rw [hR]; simp)
    (repeat (refine st_q rfl rfl rfl ?_))
    (refine Z8y ?_; (repeat (first | refine Z9v rfl ?_ | refine Z9w ?_)); refine Z9u ?_)
    refine Zbp ?_
    (repeat (refine st_q rfl rfl rfl ?_))
    rw [Kwr i (by omega)]
    (refine Z8y ?_; (repeat (first | refine Z9v rfl ?_ | refine Z9w ?_)); refine Z9u ?_)
    refine ⟨_, ks.length - (i + 1), HSub.refl _, ⟨i + 1, b3, _, _, _, rfl, rfl, ?_, ?_, by omega, rfl⟩, by omega⟩
    · rw [hfl, hRl, hR]; simp
    · rw [hkl]
      have e : ints (Zly (xs.length + 1) (ks.take i) ++ [xs.length + 1 + cntL (ks.take i)]) = ints (Zly (xs.length + 1) (ks.take i)) ++ [.int .i64 (R.length : Int)] := by
        rw [hRl]; simp [ints]
      rw [e]
      exact Zbr.mk
  · have hie : i = ks.length := by omega
    subst hie
    rw [List.take_length] at hR hok
    refine Zbo (fun _ _ => rfl) ?_
    refine Zb4 (β := [(b, .cells 8 R)]) (γ := βk) ?_
    refine Z9z ?_
    (repeat (refine st_q rfl rfl rfl ?_))
    refine Z9t rfl (Zn8 hok ([(b, .cells 8 R)] ++ σ)) ?_
    refine Z94 rfl ⟨by omega, by omega⟩ ?_
    (repeat (refine st_q rfl rfl rfl ?_))
    have hxat : R[0 + ((xs.length : Nat) : Int).toNat]? = some x0 := by
      rw [hR, Nat.zero_add, Int.toNat_natCast]; simp
    refine Z9a rfl Z8z hxat (by decide) (Kfi rfl) (fun h => by rw [hx0] at h; cases h) Z9b ?_
    (repeat (first | refine st_q rfl rfl rfl ?_ | (refine Z8y ?_; (repeat (first | refine Z9v rfl ?_ | refine Z9w ?_)); refine Z9u ?_) | refine awp_seq ?_ | refine Zbm (fun _ _ => rfl) ?_))
    refine Z8d ?_
    refine ares rfl (HSub.refl _) ⟨_, .inr ⟨b, ?_, rfl⟩, ?_⟩
    · simp [Z8m, hR, Zlz, Zng]
    · have e : R.set (0 + ((xs.length : Nat) : Int).toNat) (Z1r x0 (0 + 1) (Z0.slc 1 (ints (Zly (xs.length + 1) ks)) true).cells) = xs ++ (Zlz xs.length parent deep (.mk k ns ks l p s)).map encN := by
        rw [hR, Nat.zero_add, Int.toNat_natCast, List.set_append_right _ _ (Nat.le_refl _), Nat.sub_self, List.set_cons_zero, hx0, Zlz]
        rfl
      rw [e]; rfl
theorem Znk (t : Ty) (h : t.Fit) (σ : Zc) : Z1q Try.prog Zcs [encT t] σ fun r σ' => r = .slc 8 ((Zm4 t).map encN) true ∧ σ' = σ := by
  have hc := Zn1 t h σ
  have hf := fun (hs : t.Small) => Znj t hs (.slc 0 [] true) [] [] (-1) 1 σ (Zbr.nil 8 0)
  rw [Zlp] at *
  refine Z8t rfl Zl8 (Nat.le_of_ble_eq_true rfl) ?_
  refine Z9z ?_
  refine Z9j rfl (Kfi rfl) fun pb hpb => ?_
  (repeat (refine st_q rfl rfl rfl ?_))
  (refine Z8y ?_; (repeat (first | refine Z9v rfl ?_ | refine Z9w ?_)); refine Z9u ?_)
  refine Zb3 (d := 1) (cs := Zlo t) rfl ?_
  (repeat (first | refine st_q rfl rfl rfl ?_ | refine awp_seq ?_ | refine Zbm (fun _ _ => rfl) ?_))
  refine Z9t rfl hc ?_
  (repeat (first | refine st_q rfl rfl rfl ?_ | (refine Z8y ?_; (repeat (first | refine Z9v rfl ?_ | refine Z9w ?_)); refine Z9u ?_)))
  by_cases h0 : Zlx t = 0
  · have hs := Znd t 1 0 h0
    (rw [decide_eq_false (p := ((Zlx t : Nat) : Int) ≠ 0) (by omega)])
    (repeat (first | refine st_q rfl rfl rfl ?_ | refine awp_seq ?_ | refine Zbm (fun _ _ => rfl) ?_ | refine Zbn (fun _ _ => rfl) ?_ | refine Kc2 rfl ?_))
    refine Z9s rfl (hf hs.2.1 (by simp; omega) (by omega)) ?_ ?_
    · obtain ⟨gv, gβ, hgr⟩ := Zbr.ex 8 ([] ++ (Zlz 0 (-1) 1 t).map encN)
      exact ⟨_, _, gβ, hgr, rfl⟩
    rintro r2 _ ⟨β2, ho2, rfl⟩
    refine Z9t rfl (Zna ho2 σ) ?_
    (repeat (first | refine st_q rfl rfl rfl ?_ | (refine Z8y ?_; (repeat (first | refine Z9v rfl ?_ | refine Z9w ?_)); refine Z9u ?_)))
    refine Z8d ?_
    exact Kar rfl ⟨by rw [Zm4, if_pos h0]; rfl, rfl⟩
  · (rw [decide_eq_true (p := ((Zlx t : Nat) : Int) ≠ 0) (by omega)])
    (repeat (first | refine st_q rfl rfl rfl ?_ | (refine Z8y ?_; (repeat (first | refine Z9v rfl ?_ | refine Z9w ?_)); refine Z9u ?_) | refine awp_seq ?_ | refine Zbm (fun _ _ => rfl) ?_ | refine Kc1 rfl ?_))
    refine Z8d ?_
    refine Zau rfl ?_ (HSub.refl _) ⟨rfl, rfl⟩
    rw [Zm4, if_neg h0]
    exact VRle.nil_slc 0 8 true
end Go.Abs
namespace Go.Abs
open Go Go.Proofs
set_option linter.unusedVariables false
set_option linter.unusedSimpArgs false
set_option maxHeartbeats 4000000
attribute [local irreducible] AWp aops KP
def tA (k : Int) : Ty := .mk 12 [[97]] [.mk k [] [] 0 0 0] 0 0 0
def vA (i : Int) : Vl := .mk false 0 0 [] [.mk false i 0 [] []]
def vN : Vl := .mk false 0 0 [] [.mk true 0 0 [] []]
def Z1lg : List Vl := [vA 5, vN, vA (-2)]
theorem Z1rv (nu : Bool) (i : Int) (h : -9223372036854775808 ≤ i ∧ i ≤ 9223372036854775807) : (Vl.mk nu i 0 [] []).Fit := .mk h (by simp [Vl.b]) (by simp [Vl.kids]) (by simp [Vl.kids])
theorem Z1rw (v : Vl) (h : v.Fit) : (Vl.mk false 0 0 [] [v]).Fit := .mk (by simp [Vl.i]) (by simp [Vl.b]) (by simp [Vl.kids]) (by simpa [Vl.kids] using h)
def col16 : Col := ⟨[true, false, true], [5, -2], [], [], []⟩
def st16 : Stt := ⟨2, true, true, .mk false (-2) 0 [] [], .mk false 5 0 [] [], true, 3⟩
end Go.Abs
namespace Go.Abs
open Go Go.Proofs
set_option linter.unusedVariables false
set_option linter.unusedSimpArgs false
set_option maxHeartbeats 4000000
attribute [local irreducible] AWp aops KP
theorem Z22m {t : Ty} {rows : List Vl} (h : few15 t rows = true) : t.Fit ∧ rows.length ≤ 200 := by
  unfold few15 at h
  simp only [Bool.and_eq_true, decide_eq_true_eq] at h
  exact ⟨(Z1ff t 1 (by omega)).fit, h.2.1⟩
theorem Z1li (t : Ty) : (Zm4 t).length ≤ 100 := by
  unfold Zm4
  split
  · rename_i h
    have := (Znd t 1 0 h).2.2
    rw [Zm1]; omega
  · simp
theorem Z1rx (n : Nd) : ∀ c ∈ Zm2 n, c.one = true := by simp [Zm2, Z0.one]
end Go.Abs
namespace Go.Abs
open Go Go.Proofs
set_option linter.unusedVariables false
set_option linter.unusedSimpArgs false
set_option maxHeartbeats 4000000
attribute [local irreducible] AWp aops KP
def intF (k : Int) : Bool := !(decide (k = 12) || decide (k = 10) || decide (k = 11) || Zmb k)
def lenF (k : Int) : Bool := decide (k = 10) || decide (k = 11)
def Z1ry (k : Int) : List Z0 := [.bool (intF k), .bool (decide (k = 9)), .bool (Zmb k), .bool (lenF k)]
theorem c_of (k : Int) (σ : Zc) : Z1q Try.prog Zfx [.int .i64 k] σ fun r σ' => r = .agg (Z1ry k) ∧ σ' = σ := by
  refine Z8t rfl Z1rt (Nat.le_of_ble_eq_true rfl) ?_
  refine Z9z ?_
  refine Z9k (by simp [Z0.cells, Z0.one]) fun b2 hb2 => ?_
  (refine Z8y ?_; (repeat (first | refine Z9v rfl ?_ | refine Z9w ?_)); refine Z9u ?_)
  refine Z9z ?_
  refine Z9k (by simp [Z0.cells, Z0.one]) fun b3 hb3 => ?_
  (refine Z8y ?_; (repeat (first | refine Z9v rfl ?_ | refine Z9w ?_)); refine Z9u ?_)
  have hne : b3 ≠ b2 := fun e => hb3 (by rw [e]; simp [Zh])
  have fin : ∀ (F : Z26) (a b c d : Bool), F 2 = some (.ptr b2 0 0) → F 3 = some (.ptr b3 0 0) → Z0.agg [.bool a, .bool b, .bool c, .bool d] = .agg (Z1ry k) → aops Try.prog Z1rf F
      ((b3, .cells 4 [.agg [.bool a, .bool b, .bool c, .bool d]]) :: (b2, .cells 4 [.agg [.bool false, .bool false, .bool false, .bool false]]) :: σ)
      fun F' σ' => KP [2] F' fun G => AWp Try.prog Z1rg.n Z2b.ret (ARet Z1rg.res fun r σ' => r = .agg (Z1ry k) ∧ σ' = σ) G σ' := by
    intro F a b c d h2 h3 he
    refine Z92 (b := b3) (i := 0) (o := 0) (v := .agg [.bool a, .bool b, .bool c, .bool d]) (by simp [evs, ev, h3]) Z8z rfl rfl ?_
    refine Z9a (b := b2) (i := 0) (o := 0) (v := .agg [.bool a, .bool b, .bool c, .bool d]) (by simp [evs, ev, fset, h2]) (Z90 hne Z8z) rfl (by decide) (Kfi rfl) (fun h => by cases h) (Z9c hne Z9b) ?_
    refine Z8y ?_
    refine Z9v (by simp only [fset]; exact h2) ?_
    refine Z9u ?_
    refine Z8d ?_
    exact ares (vs := [.agg [.bool a, .bool b, .bool c, .bool d]]) (Zy4 rfl (Z90 hne Z8z) rfl) (HSub.of_sublist ((List.sublist_cons_self _ _).trans (List.sublist_cons_self _ _))) ⟨he, rfl⟩
  by_cases k12 : k = 12
  · subst k12
    (repeat (first | refine st_q rfl rfl rfl ?_ | (refine Z8y ?_; (repeat (first | refine Z9v rfl ?_ | refine Z9w ?_)); refine Z9u ?_) | refine awp_seq ?_ | refine Zbm (fun _ _ => rfl) ?_ | refine Z8h ?_ | refine Zbo (fun _ _ => rfl) ?_ | refine Kc1 rfl ?_))
    exact fin _ _ _ _ _ rfl rfl rfl
  by_cases k10 : k = 10
  · subst k10
    (repeat (first | refine st_q rfl rfl rfl ?_ | (refine Z8y ?_; (repeat (first | refine Z9v rfl ?_ | refine Z9w ?_)); refine Z9u ?_) | refine awp_seq ?_ | refine Zbm (fun _ _ => rfl) ?_ | refine Z8h ?_ | refine Zbn (fun _ _ => rfl) ?_ | refine Zbo (fun _ _ => rfl) ?_ | refine Kc1 rfl ?_ | refine Kc2 rfl ?_))
    (first | refine Z9a rfl Z8z rfl (by decide) (Kfi rfl) (fun h => by cases h) Z9b ?_ | refine Z8v rfl (Z9a rfl Z8z rfl (by decide) (Kfi rfl) (fun h => by cases h) Z9b ?_))
    (repeat (first | (refine Z8y ?_; (repeat (first | refine Z9v rfl ?_ | refine Z9w ?_)); refine Z9u ?_) | refine awp_seq ?_ | refine Zbm (fun _ _ => rfl) ?_ | refine Zbo (fun _ _ => rfl) ?_))
    exact fin _ _ _ _ _ rfl rfl rfl
  by_cases k11 : k = 11
  · subst k11
    (repeat (first | refine st_q rfl rfl rfl ?_ | (refine Z8y ?_; (repeat (first | refine Z9v rfl ?_ | refine Z9w ?_)); refine Z9u ?_) | refine awp_seq ?_ | refine Zbm (fun _ _ => rfl) ?_ | refine Z8h ?_ | refine Zbn (fun _ _ => rfl) ?_ | refine Zbo (fun _ _ => rfl) ?_ | refine Kc1 rfl ?_ | refine Kc2 rfl ?_))
    (first | refine Z9a rfl Z8z rfl (by decide) (Kfi rfl) (fun h => by cases h) Z9b ?_ | refine Z8v rfl (Z9a rfl Z8z rfl (by decide) (Kfi rfl) (fun h => by cases h) Z9b ?_))
    (repeat (first | (refine Z8y ?_; (repeat (first | refine Z9v rfl ?_ | refine Z9w ?_)); refine Z9u ?_) | refine awp_seq ?_ | refine Zbm (fun _ _ => rfl) ?_ | refine Zbo (fun _ _ => rfl) ?_))
    exact fin _ _ _ _ _ rfl rfl rfl
  by_cases k7 : k = 7
  · subst k7
    (repeat (first | refine st_q rfl rfl rfl ?_ | (refine Z8y ?_; (repeat (first | refine Z9v rfl ?_ | refine Z9w ?_)); refine Z9u ?_) | refine awp_seq ?_ | refine Zbm (fun _ _ => rfl) ?_ | refine Z8h ?_ | refine Zbn (fun _ _ => rfl) ?_ | refine Zbo (fun _ _ => rfl) ?_ | refine Kc1 rfl ?_ | refine Kc2 rfl ?_))
    (first | refine Z9a rfl Z8z rfl (by decide) (Kfi rfl) (fun h => by cases h) Z9b ?_ | refine Z8v rfl (Z9a rfl Z8z rfl (by decide) (Kfi rfl) (fun h => by cases h) Z9b ?_))
    (repeat (first | (refine Z8y ?_; (repeat (first | refine Z9v rfl ?_ | refine Z9w ?_)); refine Z9u ?_) | refine awp_seq ?_ | refine Zbm (fun _ _ => rfl) ?_ | refine Zbo (fun _ _ => rfl) ?_))
    exact fin _ _ _ _ _ rfl rfl rfl
  by_cases k8 : k = 8
  · subst k8
    (repeat (first | refine st_q rfl rfl rfl ?_ | (refine Z8y ?_; (repeat (first | refine Z9v rfl ?_ | refine Z9w ?_)); refine Z9u ?_) | refine awp_seq ?_ | refine Zbm (fun _ _ => rfl) ?_ | refine Z8h ?_ | refine Zbn (fun _ _ => rfl) ?_ | refine Zbo (fun _ _ => rfl) ?_ | refine Kc1 rfl ?_ | refine Kc2 rfl ?_))
    (first | refine Z9a rfl Z8z rfl (by decide) (Kfi rfl) (fun h => by cases h) Z9b ?_ | refine Z8v rfl (Z9a rfl Z8z rfl (by decide) (Kfi rfl) (fun h => by cases h) Z9b ?_))
    (repeat (first | (refine Z8y ?_; (repeat (first | refine Z9v rfl ?_ | refine Z9w ?_)); refine Z9u ?_) | refine awp_seq ?_ | refine Zbm (fun _ _ => rfl) ?_ | refine Zbo (fun _ _ => rfl) ?_))
    exact fin _ _ _ _ _ rfl rfl rfl
  by_cases k16 : k = 16
  · subst k16
    (repeat (first | refine st_q rfl rfl rfl ?_ | (refine Z8y ?_; (repeat (first | refine Z9v rfl ?_ | refine Z9w ?_)); refine Z9u ?_) | refine awp_seq ?_ | refine Zbm (fun _ _ => rfl) ?_ | refine Z8h ?_ | refine Zbn (fun _ _ => rfl) ?_ | refine Zbo (fun _ _ => rfl) ?_ | refine Kc1 rfl ?_ | refine Kc2 rfl ?_))
    (first | refine Z9a rfl Z8z rfl (by decide) (Kfi rfl) (fun h => by cases h) Z9b ?_ | refine Z8v rfl (Z9a rfl Z8z rfl (by decide) (Kfi rfl) (fun h => by cases h) Z9b ?_))
    (repeat (first | (refine Z8y ?_; (repeat (first | refine Z9v rfl ?_ | refine Z9w ?_)); refine Z9u ?_) | refine awp_seq ?_ | refine Zbm (fun _ _ => rfl) ?_ | refine Zbo (fun _ _ => rfl) ?_))
    exact fin _ _ _ _ _ rfl rfl rfl
  by_cases k17 : k = 17
  · subst k17
    (repeat (first | refine st_q rfl rfl rfl ?_ | (refine Z8y ?_; (repeat (first | refine Z9v rfl ?_ | refine Z9w ?_)); refine Z9u ?_) | refine awp_seq ?_ | refine Zbm (fun _ _ => rfl) ?_ | refine Z8h ?_ | refine Zbn (fun _ _ => rfl) ?_ | refine Zbo (fun _ _ => rfl) ?_ | refine Kc1 rfl ?_ | refine Kc2 rfl ?_))
    (first | refine Z9a rfl Z8z rfl (by decide) (Kfi rfl) (fun h => by cases h) Z9b ?_ | refine Z8v rfl (Z9a rfl Z8z rfl (by decide) (Kfi rfl) (fun h => by cases h) Z9b ?_))
    (repeat (first | (refine Z8y ?_; (repeat (first | refine Z9v rfl ?_ | refine Z9w ?_)); refine Z9u ?_) | refine awp_seq ?_ | refine Zbm (fun _ _ => rfl) ?_ | refine Zbo (fun _ _ => rfl) ?_))
    exact fin _ _ _ _ _ rfl rfl rfl
  by_cases k9 : k = 9
  · subst k9
    (repeat (first | refine st_q rfl rfl rfl ?_ | (refine Z8y ?_; (repeat (first | refine Z9v rfl ?_ | refine Z9w ?_)); refine Z9u ?_) | refine awp_seq ?_ | refine Zbm (fun _ _ => rfl) ?_ | refine Z8h ?_ | refine Zbn (fun _ _ => rfl) ?_ | refine Zbo (fun _ _ => rfl) ?_ | refine Kc1 rfl ?_ | refine Kc2 rfl ?_))
    (first | refine Z9a rfl Z8z rfl (by decide) (Kfi rfl) (fun h => by cases h) Z9b ?_ | refine Z8v rfl (Z9a rfl Z8z rfl (by decide) (Kfi rfl) (fun h => by cases h) Z9b ?_))
    (repeat (first | refine st_q rfl rfl rfl ?_ | (refine Z8y ?_; (repeat (first | refine Z9v rfl ?_ | refine Z9w ?_)); refine Z9u ?_) | refine awp_seq ?_ | refine Zbm (fun _ _ => rfl) ?_))
    (first | refine Z9a rfl Z8z rfl (by decide) (Kfi rfl) (fun h => by cases h) Z9b ?_ | refine Z8v rfl (Z9a rfl Z8z rfl (by decide) (Kfi rfl) (fun h => by cases h) Z9b ?_))
    (repeat (first | (refine Z8y ?_; (repeat (first | refine Z9v rfl ?_ | refine Z9w ?_)); refine Z9u ?_) | refine awp_seq ?_ | refine Zbm (fun _ _ => rfl) ?_ | refine Zbo (fun _ _ => rfl) ?_))
    exact fin _ _ _ _ _ rfl rfl rfl
  (repeat (first | refine st_q rfl rfl rfl ?_ | (refine Z8y ?_; (repeat (first | refine Z9v rfl ?_ | refine Z9w ?_)); refine Z9u ?_) | refine awp_seq ?_ | refine Zbm (fun _ _ => rfl) ?_ | refine Z8h ?_))
  rw [decide_eq_false k12]
  (repeat (first | refine st_q rfl rfl rfl ?_ | (refine Z8y ?_; (repeat (first | refine Z9v rfl ?_ | refine Z9w ?_)); refine Z9u ?_) | refine awp_seq ?_ | refine Zbm (fun _ _ => rfl) ?_ | refine Zbn (fun _ _ => rfl) ?_ | refine Kc2 rfl ?_))
  rw [decide_eq_false k10]
  (repeat (first | refine st_q rfl rfl rfl ?_ | (refine Z8y ?_; (repeat (first | refine Z9v rfl ?_ | refine Z9w ?_)); refine Z9u ?_) | refine Zbm (fun _ _ => rfl) ?_ | refine Kc2 rfl ?_))
  rw [decide_eq_false k11]
  (repeat (first | refine st_q rfl rfl rfl ?_ | (refine Z8y ?_; (repeat (first | refine Z9v rfl ?_ | refine Z9w ?_)); refine Z9u ?_) | refine awp_seq ?_ | refine Zbm (fun _ _ => rfl) ?_ | refine Zbn (fun _ _ => rfl) ?_ | refine Kc2 rfl ?_))
  rw [decide_eq_false k7]
  (repeat (first | refine st_q rfl rfl rfl ?_ | (refine Z8y ?_; (repeat (first | refine Z9v rfl ?_ | refine Z9w ?_)); refine Z9u ?_) | refine awp_seq ?_ | refine Zbm (fun _ _ => rfl) ?_ | refine Kc2 rfl ?_))
  rw [decide_eq_false k8]
  (repeat (first | refine st_q rfl rfl rfl ?_ | (refine Z8y ?_; (repeat (first | refine Z9v rfl ?_ | refine Z9w ?_)); refine Z9u ?_) | refine awp_seq ?_ | refine Zbm (fun _ _ => rfl) ?_ | refine Kc2 rfl ?_))
  rw [decide_eq_false k16]
  (repeat (first | refine st_q rfl rfl rfl ?_ | (refine Z8y ?_; (repeat (first | refine Z9v rfl ?_ | refine Z9w ?_)); refine Z9u ?_) | refine Zbm (fun _ _ => rfl) ?_ | refine Kc2 rfl ?_))
  rw [decide_eq_false k17]
  (repeat (first | refine st_q rfl rfl rfl ?_ | (refine Z8y ?_; (repeat (first | refine Z9v rfl ?_ | refine Z9w ?_)); refine Z9u ?_) | refine awp_seq ?_ | refine Zbm (fun _ _ => rfl) ?_ | refine Zbn (fun _ _ => rfl) ?_ | refine Kc2 rfl ?_))
  rw [decide_eq_false k9]
  (repeat (first | refine st_q rfl rfl rfl ?_ | refine awp_seq ?_ | refine Zbm (fun _ _ => rfl) ?_ | refine Zbn (fun _ _ => rfl) ?_ | refine Zbo (fun _ _ => rfl) ?_ | refine Kc2 rfl ?_))
  (first | refine Z9a rfl Z8z rfl (by decide) (Kfi rfl) (fun h => by cases h) Z9b ?_ | refine Z8v rfl (Z9a rfl Z8z rfl (by decide) (Kfi rfl) (fun h => by cases h) Z9b ?_))
  (repeat (first | (refine Z8y ?_; (repeat (first | refine Z9v rfl ?_ | refine Z9w ?_)); refine Z9u ?_) | refine awp_seq ?_ | refine Zbm (fun _ _ => rfl) ?_ | refine Zbo (fun _ _ => rfl) ?_))
  exact fin _ _ _ _ _ rfl rfl (by simp [Z1ry, intF, Zmb, lenF, k12, k10, k11, k7, k8, k16, k17, k9])
def hereN (c : Col) : Nat := c.here.count true
theorem Z1rz {l : List Bool} {i : Nat} (h : i < l.length) : (l.take (i + 1)).count true = (l.take i).count true + (if l[i] = true then 1 else 0) := by
  rw [List.take_add_one, List.getElem?_eq_getElem h]
  cases l[i] <;> simp
theorem Z1s0 (c : Col) (hl : c.here.length ≤ 1000000) (σ : Zc) : Z1q Try.prog Zfz [encC c] σ fun r σ' => r = .int .i64 (hereN c : Nat) ∧ σ' = σ := by
  have hml : (c.here.map Z0.bool).length = c.here.length := List.length_map ..
  refine Z8t rfl Z1ru (Nat.le_of_ble_eq_true rfl) ?_
  refine Z9z ?_
  refine Z9j rfl (Kfi rfl) fun b1 hb1 => ?_
  (repeat (refine st_q rfl rfl rfl ?_))
  (refine Z8y ?_; (repeat (first | refine Z9v rfl ?_ | refine Z9w ?_)); refine Z9u ?_)
  refine Zb3 (d := 1) (cs := Zxu c) rfl ?_
  (repeat (first | refine st_q rfl rfl rfl ?_ | (refine Z8y ?_; (repeat (first | refine Z9v rfl ?_ | refine Z9w ?_)); refine Z9u ?_) | refine awp_seq ?_ | refine Zbm (fun _ _ => rfl) ?_ | refine Z8h ?_))
  refine Zaa (fun m F σ' => ∃ i : Nat, F = fset 3 (some (.int .i64 ((c.here.take i).count true : Nat))) (fset 7 (some (.slc 1 (c.here.map .bool) false)) (fset 8 (some (.int .i64 (c.here.length : Nat))) (fset 9 (some (.int .i64 i)) Z27))) ∧ σ = σ' ∧ i ≤ c.here.length ∧ m = c.here.length - i) (n := c.here.length)
    ⟨0, by rw [hml]; rfl, rfl, by omega, by omega⟩ ?_
  rintro m F σ' ⟨i, rfl, rfl, hi, rfl⟩
  (repeat (first | refine st_q rfl rfl rfl ?_ | (refine Z8y ?_; (repeat (first | refine Z9v rfl ?_ | refine Z9w ?_)); refine Z9u ?_) | refine awp_seq ?_ | refine Zbm (fun _ _ => rfl) ?_))
  refine Za3 (p := (i : Int) < (c.here.length : Nat)) rfl (fun h3 => ?_) (fun h3 => ?_)
  · have hil : i < c.here.length := by omega
    have hx := Zxw (f := Z0.bool) hil
    have hct := Z1rz hil
    have hle : (c.here.take i).count true ≤ i := Nat.le_trans List.count_le_length (by rw [List.length_take]; omega)
    generalize c.here[i] = y at hx hct
    generalize (c.here.take i).count true = n0 at hct hle
    (repeat (first | refine awp_seq ?_ | refine Zbm (fun _ _ => rfl) ?_ | refine Z8h ?_ | refine Zbn (fun _ _ => rfl) ?_))
    refine Z93 rfl (by omega) hx ?_
    (repeat (first | refine st_q rfl rfl rfl ?_ | (refine Z8y ?_; (repeat (first | refine Z9v rfl ?_ | refine Z9w ?_)); refine Z9u ?_) | refine awp_seq ?_ | refine Zbm (fun _ _ => rfl) ?_))
    cases y with
    | true =>
      (repeat (first | refine st_q rfl rfl rfl ?_ | (refine Z8y ?_; (repeat (first | refine Z9v rfl ?_ | refine Z9w ?_)); refine Z9u ?_) | refine Zbm (fun _ _ => rfl) ?_ | refine Kc1 rfl ?_))
      rw [Kwr n0 (by omega)]
      skip
      refine Zbp ?_
      (repeat (refine st_q rfl rfl rfl ?_))
      rw [Kwr i (by omega)]
      (refine Z8y ?_; (repeat (first | refine Z9v rfl ?_ | refine Z9w ?_)); refine Z9u ?_)
      exact ⟨_, c.here.length - (i + 1), HSub.refl _, ⟨i + 1, by rw [hct]; rfl, rfl, by omega, rfl⟩, by omega⟩
    | false =>
      (repeat (first | refine Zbn (fun _ _ => rfl) ?_ | refine Kc2 rfl ?_))
      refine Zbp ?_
      (repeat (refine st_q rfl rfl rfl ?_))
      rw [Kwr i (by omega)]
      (refine Z8y ?_; (repeat (first | refine Z9v rfl ?_ | refine Z9w ?_)); refine Z9u ?_)
      exact ⟨_, c.here.length - (i + 1), HSub.refl _, ⟨i + 1, by rw [hct]; rfl, rfl, by omega, rfl⟩, by omega⟩
  · have e : c.here.take i = c.here := List.take_of_length_le (by omega)
    rw [e]
    (repeat (first | refine st_q rfl rfl rfl ?_ | (refine Z8y ?_; (repeat (first | refine Z9v rfl ?_ | refine Z9w ?_)); refine Z9u ?_) | refine awp_seq ?_ | refine Zbm (fun _ _ => rfl) ?_ | refine Zbo (fun _ _ => rfl) ?_))
    refine Z8d ?_
    exact Kar rfl ⟨rfl, rfl⟩
def sumL : List Int → Nat → Nat
  | [], out => out
  | v :: vs, out => if v < 0 ∨ v > 16384 - out then 16385 else sumL vs (out + v.toNat)
def askF (k : Int) (c : Col) (j : Int) : Nat := if k = 10 ∨ k = 11 then sumL c.lens 0 else if k = 13 then c.ints.count j else hereN c
theorem Z1s1 {l : List Int} {i : Nat} (x : Int) (h : i < l.length) : (l.take (i + 1)).count x = (l.take i).count x + (if l[i] = x then 1 else 0) := by
  rw [List.take_add_one, List.getElem?_eq_getElem h, List.count_append]
  simp [List.count_cons]
theorem Z1s2 (k j : Int) (nd : List Z0) (hnd : nd.length = 8) (hk : nd[0]? = some (.int .i64 k)) (h1 : ∀ c ∈ nd, c.one = true) (c : Col) (hl : c.Sm) (σ : Zc) : Z1q Try.prog Zex [.agg nd, encC c, .int .i64 j] σ fun r σ' => r = .int .i64 (askF k c j : Nat) ∧ σ' = σ := by
  obtain ⟨l1, l2, l3, l4, l5⟩ := hl
  have hml : (c.lens.map (Z0.int .i64)).length = c.lens.length := List.length_map ..
  have hmi : (c.ints.map (Z0.int .i64)).length = c.ints.length := List.length_map ..
  match nd, hnd with
  | [n0, n1, n2, n3, n4, n5, n6, n7], _ =>
  simp only [List.getElem?_cons_zero, Option.some.injEq] at hk
  subst hk
  refine Z8t rfl Z1rs (Nat.le_of_ble_eq_true rfl) ?_
  refine Z9z ?_
  refine Z9j rfl ⟨rfl, h1⟩ fun b3 hb3 => ?_
  refine Z9j rfl (Kfi rfl) fun b4 hb4 => ?_
  (repeat (refine st_q rfl rfl rfl ?_))
  (refine Z8y ?_; (repeat (first | refine Z9v rfl ?_ | refine Z9w ?_)); refine Z9u ?_)
  refine Zb3 (d := 4) (cs := Zxu c) rfl ?_
  refine Zb3 (d := 3) (cs := [.int .i64 k, n1, n2, n3, n4, n5, n6, n7]) rfl ?_
  have lens : k = 10 ∨ k = 11 → AWp Try.prog Z1qz.n (.loop Z1qo) (Z8g 1 (Z8g 0 (Z8e Try.prog Z1qz.n ((Z2b.region Z1qy [6]).seq Z2b.ret) (ARet Z1qz.res fun r σ' => r = .int .i64 (askF k c j : Nat) ∧ σ' = σ))))
      (fset 7 (some (.int .i64 0)) (fset 20 (some (.slc 1 (c.lens.map (.int .i64)) false)) (fset 21 (some (.int .i64 (c.lens.map (Z0.int .i64)).length)) (fset 22 (some (.int .i64 0)) Z27)))) σ := by
    intro hk
    rw [askF, if_pos hk]
    rw [hml]
    refine Zaa (fun m F σ' => ∃ i out : Nat, F = fset 7 (some (.int .i64 (out : Nat))) (fset 20 (some (.slc 1 (c.lens.map (.int .i64)) false)) (fset 21 (some (.int .i64 (c.lens.length : Nat))) (fset 22 (some (.int .i64 i)) Z27))) ∧ σ = σ' ∧ i ≤ c.lens.length ∧ out ≤ 16384 ∧ sumL (c.lens.drop i) out = sumL c.lens 0 ∧ m = c.lens.length - i) (n := c.lens.length)
      ⟨0, 0, rfl, rfl, by omega, by omega, rfl, by omega⟩ ?_
    rintro m F σ' ⟨i, out, rfl, rfl, hi, ho, hs, rfl⟩
    (repeat (first | refine st_q rfl rfl rfl ?_ | (refine Z8y ?_; (repeat (first | refine Z9v rfl ?_ | refine Z9w ?_)); refine Z9u ?_) | refine awp_seq ?_ | refine Zbm (fun _ _ => rfl) ?_))
    refine Za3 (p := (i : Int) < (c.lens.length : Nat)) rfl (fun h3 => ?_) (fun h3 => ?_)
    · have hil : i < c.lens.length := by omega
      have hx := Zxw (f := Z0.int .i64) hil
      rw [List.drop_eq_getElem_cons hil, sumL] at hs
      generalize c.lens[i] = v at hx hs
      (repeat (first | refine awp_seq ?_ | refine Zbm (fun _ _ => rfl) ?_ | refine Z8h ?_ | refine Zbn (fun _ _ => rfl) ?_))
      refine Z93 rfl (by omega) hx ?_
      (repeat (first | refine st_q rfl rfl rfl ?_ | (refine Z8y ?_; (repeat (first | refine Z9v rfl ?_ | refine Z9w ?_)); refine Z9u ?_) | refine awp_seq ?_ | refine Zbm (fun _ _ => rfl) ?_))
      by_cases hv : v < 0
      · rw [if_pos (.inl hv)] at hs
        rw [← hs]
        (rw [decide_eq_true (p := v < 0) (by omega)])
        (repeat (first | refine st_q rfl rfl rfl ?_ | refine Z8w rfl ?_ | (refine Z8y ?_; (repeat (first | refine Z9v rfl ?_ | refine Z9w ?_)); refine Z9u ?_) | refine awp_seq ?_ | refine Zbm (fun _ _ => rfl) ?_ | refine Kc1 rfl ?_))
        refine Z8d ?_
        exact Kar rfl ⟨rfl, rfl⟩
      (rw [decide_eq_false (p := v < 0) (by omega)])
      (repeat (first | refine st_q rfl rfl rfl ?_ | refine Z8v rfl (st_q rfl rfl rfl ?_) | (refine Z8y ?_; (repeat (first | refine Z9v rfl ?_ | refine Z9w ?_)); refine Z9u ?_)))
      rw [show IntKind.wrap .i64 ((16384 : Int) - (out : Int)) = (16384 : Int) - (out : Int) from w64 _ (by omega) (by omega)]
      by_cases hv2 : v > 16384 - (out : Int)
      · rw [if_pos (.inr hv2)] at hs
        rw [← hs]
        (rw [decide_eq_true (p := 16384 - (out : Int) < v) (by omega)])
        (repeat (first | refine st_q rfl rfl rfl ?_ | (refine Z8y ?_; (repeat (first | refine Z9v rfl ?_ | refine Z9w ?_)); refine Z9u ?_) | refine awp_seq ?_ | refine Zbm (fun _ _ => rfl) ?_ | refine Kc1 rfl ?_))
        refine Z8d ?_
        exact Kar rfl ⟨rfl, rfl⟩
      · rw [if_neg (by omega)] at hs
        (rw [decide_eq_false (p := 16384 - (out : Int) < v) (by omega)])
        (repeat (first | refine st_q rfl rfl rfl ?_ | (refine Z8y ?_; (repeat (first | refine Z9v rfl ?_ | refine Z9w ?_)); refine Z9u ?_) | refine Zbm (fun _ _ => rfl) ?_ | refine Zbn (fun _ _ => rfl) ?_ | refine Kc2 rfl ?_))
        rw [show IntKind.wrap .i64 ((out : Int) + v) = ((out + v.toNat : Nat) : Int) by rw [w64 _ (by omega) (by omega)]; omega]
        skip
        refine Zbp ?_
        (repeat (refine st_q rfl rfl rfl ?_))
        rw [Kwr i (by omega)]
        (refine Z8y ?_; (repeat (first | refine Z9v rfl ?_ | refine Z9w ?_)); refine Z9u ?_)
        exact ⟨_, c.lens.length - (i + 1), HSub.refl _, ⟨i + 1, out + v.toNat, rfl, rfl, by omega, by omega, hs, rfl⟩, by omega⟩
    · rw [List.drop_of_length_le (by omega), sumL] at hs
      rw [← hs]
      (repeat (first | refine st_q rfl rfl rfl ?_ | (refine Z8y ?_; (repeat (first | refine Z9v rfl ?_ | refine Z9w ?_)); refine Z9u ?_) | refine awp_seq ?_ | refine Zbm (fun _ _ => rfl) ?_ | refine Zbo (fun _ _ => rfl) ?_))
      refine Z8d ?_
      exact Kar rfl ⟨rfl, rfl⟩
  by_cases k10 : k = 10
  · (repeat (first | refine st_q rfl rfl rfl ?_ | (refine Z8y ?_; (repeat (first | refine Z9v rfl ?_ | refine Z9w ?_)); refine Z9u ?_) | refine awp_seq ?_ | refine Zbm (fun _ _ => rfl) ?_ | refine Z8h ?_))
    (rw [decide_eq_true (p := k = 10) (by omega)])
    (repeat (first | refine st_q rfl rfl rfl ?_ | (refine Z8y ?_; (repeat (first | refine Z9v rfl ?_ | refine Z9w ?_)); refine Z9u ?_) | refine awp_seq ?_ | refine Zbm (fun _ _ => rfl) ?_ | refine Z8h ?_ | refine Zbn (fun _ _ => rfl) ?_ | refine Kc1 rfl ?_))
    exact lens (.inl k10)
  by_cases k11 : k = 11
  · (repeat (first | refine st_q rfl rfl rfl ?_ | (refine Z8y ?_; (repeat (first | refine Z9v rfl ?_ | refine Z9w ?_)); refine Z9u ?_) | refine awp_seq ?_ | refine Zbm (fun _ _ => rfl) ?_ | refine Z8h ?_))
    (rw [decide_eq_false (p := k = 10) (by omega)])
    (repeat (first | refine st_q rfl rfl rfl ?_ | (refine Z8y ?_; (repeat (first | refine Z9v rfl ?_ | refine Z9w ?_)); refine Z9u ?_) | refine Zbm (fun _ _ => rfl) ?_ | refine Kc2 rfl ?_))
    (rw [decide_eq_true (p := k = 11) (by omega)])
    (repeat (first | refine st_q rfl rfl rfl ?_ | (refine Z8y ?_; (repeat (first | refine Z9v rfl ?_ | refine Z9w ?_)); refine Z9u ?_) | refine awp_seq ?_ | refine Zbm (fun _ _ => rfl) ?_ | refine Z8h ?_ | refine Kc1 rfl ?_))
    exact lens (.inr k11)
  rw [askF, if_neg (by omega)]
  (repeat (first | refine st_q rfl rfl rfl ?_ | (refine Z8y ?_; (repeat (first | refine Z9v rfl ?_ | refine Z9w ?_)); refine Z9u ?_) | refine awp_seq ?_ | refine Zbm (fun _ _ => rfl) ?_ | refine Z8h ?_))
  (rw [decide_eq_false (p := k = 10) (by omega)])
  (repeat (first | refine st_q rfl rfl rfl ?_ | (refine Z8y ?_; (repeat (first | refine Z9v rfl ?_ | refine Z9w ?_)); refine Z9u ?_) | refine Zbm (fun _ _ => rfl) ?_ | refine Kc2 rfl ?_))
  (rw [decide_eq_false (p := k = 11) (by omega)])
  (repeat (first | refine st_q rfl rfl rfl ?_ | (refine Z8y ?_; (repeat (first | refine Z9v rfl ?_ | refine Z9w ?_)); refine Z9u ?_) | refine awp_seq ?_ | refine Zbm (fun _ _ => rfl) ?_ | refine Kc2 rfl ?_))
  by_cases k13 : k = 13
  · rw [if_pos k13]
    (rw [decide_eq_true (p := k = 13) (by omega)])
    (repeat (first | refine st_q rfl rfl rfl ?_ | (refine Z8y ?_; (repeat (first | refine Z9v rfl ?_ | refine Z9w ?_)); refine Z9u ?_) | refine awp_seq ?_ | refine Zbm (fun _ _ => rfl) ?_ | refine Z8h ?_ | refine Kc1 rfl ?_))
    rw [hmi]
    refine Zaa (fun m F σ' => ∃ i : Nat, F = fset 2 (some (.int .i64 j)) (fset 7 (some (.int .i64 ((c.ints.take i).count j : Nat))) (fset 41 (some (.slc 1 (c.ints.map (.int .i64)) false)) (fset 42 (some (.int .i64 (c.ints.length : Nat))) (fset 43 (some (.int .i64 i)) Z27)))) ∧ σ = σ' ∧ i ≤ c.ints.length ∧ m = c.ints.length - i) (n := c.ints.length)
      ⟨0, rfl, rfl, by omega, by omega⟩ ?_
    rintro m F σ' ⟨i, rfl, rfl, hi, rfl⟩
    (repeat (first | refine st_q rfl rfl rfl ?_ | (refine Z8y ?_; (repeat (first | refine Z9v rfl ?_ | refine Z9w ?_)); refine Z9u ?_) | refine awp_seq ?_ | refine Zbm (fun _ _ => rfl) ?_))
    refine Za3 (p := (i : Int) < (c.ints.length : Nat)) rfl (fun h3 => ?_) (fun h3 => ?_)
    · have hil : i < c.ints.length := by omega
      have hx := Zxw (f := Z0.int .i64) hil
      have hct := Z1s1 j hil
      have hle : (c.ints.take i).count j ≤ i := Nat.le_trans List.count_le_length (by rw [List.length_take]; omega)
      generalize c.ints[i] = y at hx hct
      generalize (c.ints.take i).count j = n0 at hct hle
      (repeat (first | refine awp_seq ?_ | refine Zbm (fun _ _ => rfl) ?_ | refine Z8h ?_ | refine Zbn (fun _ _ => rfl) ?_))
      refine Z93 rfl (by omega) hx ?_
      (repeat (first | refine st_q rfl rfl rfl ?_ | (refine Z8y ?_; (repeat (first | refine Z9v rfl ?_ | refine Z9w ?_)); refine Z9u ?_) | refine awp_seq ?_ | refine Zbm (fun _ _ => rfl) ?_))
      refine Za3 (p := y = j) rfl (fun h4 => ?_) (fun h4 => ?_)
      · rw [if_pos h4] at hct
        (repeat (first | refine st_q rfl rfl rfl ?_ | (refine Z8y ?_; (repeat (first | refine Z9v rfl ?_ | refine Z9w ?_)); refine Z9u ?_) | refine Zbm (fun _ _ => rfl) ?_))
        rw [Kwr n0 (by omega)]
        skip
        refine Zbp ?_
        (repeat (refine st_q rfl rfl rfl ?_))
        rw [Kwr i (by omega)]
        (refine Z8y ?_; (repeat (first | refine Z9v rfl ?_ | refine Z9w ?_)); refine Z9u ?_)
        exact ⟨_, c.ints.length - (i + 1), HSub.refl _, ⟨i + 1, by rw [hct], rfl, by omega, rfl⟩, by omega⟩
      · rw [if_neg h4] at hct
        (repeat refine Zbn (fun _ _ => rfl) ?_)
        refine Zbp ?_
        (repeat (refine st_q rfl rfl rfl ?_))
        rw [Kwr i (by omega)]
        (refine Z8y ?_; (repeat (first | refine Z9v rfl ?_ | refine Z9w ?_)); refine Z9u ?_)
        exact ⟨_, c.ints.length - (i + 1), HSub.refl _, ⟨i + 1, by rw [hct]; rfl, rfl, by omega, rfl⟩, by omega⟩
    · have e : c.ints.take i = c.ints := List.take_of_length_le (by omega)
      rw [e]
      (repeat (first | refine st_q rfl rfl rfl ?_ | (refine Z8y ?_; (repeat (first | refine Z9v rfl ?_ | refine Z9w ?_)); refine Z9u ?_) | refine awp_seq ?_ | refine Zbm (fun _ _ => rfl) ?_ | refine Zbo (fun _ _ => rfl) ?_))
      refine Z8d ?_
      exact Kar rfl ⟨rfl, rfl⟩
  · rw [if_neg k13]
    (rw [decide_eq_false (p := k = 13) (by omega)])
    (repeat (first | refine st_q rfl rfl rfl ?_ | refine Zbm (fun _ _ => rfl) ?_ | refine Kc2 rfl ?_))
    refine Z9t rfl (Z1s0 c (by omega) _) ?_
    (repeat (first | refine st_q rfl rfl rfl ?_ | (refine Z8y ?_; (repeat (first | refine Z9v rfl ?_ | refine Z9w ?_)); refine Z9u ?_) | refine awp_seq ?_ | refine Zbm (fun _ _ => rfl) ?_))
    refine Z8d ?_
    exact Kar rfl ⟨rfl, rfl⟩
end Go.Abs
namespace Go.Abs
open Go Go.Proofs
set_option linter.unusedVariables false
set_option linter.unusedSimpArgs false
set_option maxHeartbeats 4000000
attribute [local irreducible] AWp aops KP
def cRow (k : Int) (c : Col) : List Nat → Nat → List Int → List Int
  | [], _, out => out
  | to :: ks, j, out => cRow k c ks (j + 1) (out.set to (askF k c j : Nat))
def cAll : List Nd → List Col → List Int → List Int
  | n :: l, c :: cs, out => cAll l cs (cRow n.t.kind c n.kids 0 out)
  | _, _, out => out
def Z1va (l : List Nd) (cols : List Col) (n : Int) : List Int := cAll l cols ((List.replicate l.length 0).set 0 n)
theorem Z1vb (k : Int) (c : Col) : ∀ (ks : List Nat) (j : Nat) (out : List Int), (cRow k c ks j out).length = out.length
  | [], _, _ => rfl
  | to :: ks, j, out => by rw [cRow, Z1vb k c ks, List.length_set]
structure Z1vc (l : List Nd) : Prop where
  len : l.length ≤ 1000
  num : ∀ n ∈ l, n.kids.length ≤ 1000
  lt : ∀ n ∈ l, ∀ x ∈ n.kids, x < l.length
theorem Z1vd (l : List Nd) (hK : Z1vc l) (h0 : 0 < l.length) (cols : List Col) (hc : cols.length = l.length) (hS : ∀ c ∈ cols, c.Sm) (n : Int) (f g : Bool) (σ : Zc) :
    Z1q Try.prog Zdn [.slc 8 (l.map encN) f, .slc 5 (cols.map encC) g, .int .i64 n] σ fun r σ' => r = .slc 1 ((Z1va l cols n).map (.int .i64)) false ∧ σ' = σ := by
  obtain ⟨hl1, hk1, hk2⟩ := hK
  have hll : (l.map encN).length = l.length := List.length_map ..
  have hcl : (cols.map encC).length = cols.length := List.length_map ..
  refine Z8t rfl Z1v4 (Nat.le_of_ble_eq_true rfl) ?_
  (repeat (first | refine st_q rfl rfl rfl ?_ | (refine Z8y ?_; (repeat (first | refine Z9v rfl ?_ | refine Z9w ?_)); refine Z9u ?_) | refine awp_seq ?_ | refine Zbm (fun _ _ => rfl) ?_))
  rw [hll]
  refine Z9l rfl (Kfi rfl) (by omega) (by omega) (by omega) (by omega) fun b hb => ?_
  (repeat (first | refine st_q rfl rfl rfl ?_ | (refine Z8y ?_; (repeat (first | refine Z9v rfl ?_ | refine Z9w ?_)); refine Z9u ?_) | refine awp_seq ?_ | refine Zbm (fun _ _ => rfl) ?_))
  rw [hll]
  (rw [decide_eq_true (p := (0 : Int) < (l.length : Int)) (by omega)])
  (repeat (first | refine st_q rfl rfl rfl ?_ | refine Zbm (fun _ _ => rfl) ?_ | refine Kc1 rfl ?_))
  have hr0 : (List.replicate ((l.length : Nat) : Int).toNat (Z0.int .i64 0)) = (List.replicate l.length (0 : Int)).map (.int .i64) := by rw [List.map_replicate, Int.toNat_natCast]
  rw [hr0]
  refine Z94 rfl ⟨by omega, by omega⟩ ?_
  have hx0 : ((List.replicate l.length (0 : Int)).map (Z0.int .i64))[0 + (0 : Int).toNat]? = some (.int .i64 0) := by
    rw [List.getElem?_map, List.getElem?_replicate, if_pos (by simpa using h0)]; rfl
  refine Z9a rfl Z8z hx0 (by decide) (Kfi rfl) (fun _ => ⟨rfl, rfl⟩) Z9b ?_
  (refine Z8y ?_; (repeat (first | refine Z9v rfl ?_ | refine Z9w ?_)); refine Z9u ?_)
  have e0 : ((List.replicate l.length (0 : Int)).map (Z0.int .i64)).set (0 + (0 : Int).toNat) (Z1r (.int .i64 0) 0 (Z0.int .i64 n).cells) = ((List.replicate l.length 0).set 0 n).map (.int .i64) := by rw [List.map_set]; rfl
  rw [e0]
  have hlen0 : ((List.replicate l.length (0 : Int)).set 0 n).length = l.length := by rw [List.length_set, List.length_replicate]
  have hX : cAll l cols ((List.replicate l.length 0).set 0 n) = Z1va l cols n := rfl
  generalize (List.replicate l.length (0 : Int)).set 0 n = out0 at hlen0 hX ⊢
  generalize Z1va l cols n = X at hX ⊢
  (repeat (first | refine st_q rfl rfl rfl ?_ | (refine Z8y ?_; (repeat (first | refine Z9v rfl ?_ | refine Z9w ?_)); refine Z9u ?_) | refine awp_seq ?_ | refine Zbm (fun _ _ => rfl) ?_ | refine Z8h ?_))
  rw [hll, hcl, hc, if_neg (by omega), Int.toNat_natCast]
  refine Zaa (fun m F σ' => ∃ (i : Nat) (xs : List Int), F = fset 0 (some (.slc 8 (l.map encN) f)) (fset 1 (some (.slc 5 (cols.map encC) g)) (fset 7 (some (.arr 1 b 0 l.length)) (fset 24 (some (.int .i64 (l.length : Nat))) (fset 25 (some (.int .i64 i)) Z27)))) ∧
    (b, Zb.cells 1 (xs.map (.int .i64))) :: σ = σ' ∧ i ≤ l.length ∧ xs.length = l.length ∧ cAll (l.drop i) (cols.drop i) xs = X ∧ m = l.length - i) (n := l.length)
    ⟨0, out0, rfl, rfl, by omega, hlen0, hX, by omega⟩ ?_
  rintro m F σ' ⟨i, xs, rfl, rfl, hi, hxl, hXi, rfl⟩
  (repeat (first | refine st_q rfl rfl rfl ?_ | (refine Z8y ?_; (repeat (first | refine Z9v rfl ?_ | refine Z9w ?_)); refine Z9u ?_) | refine awp_seq ?_ | refine Zbm (fun _ _ => rfl) ?_))
  refine Za3 (p := (i : Int) < (l.length : Nat)) rfl (fun h3 => ?_) (fun h3 => ?_)
  · have hil : i < l.length := by omega
    have hic : i < cols.length := by omega
    have hgN := Zxw (f := encN) hil
    have hgC := Zxw (f := encC) hic
    have hkl := hk1 _ (List.getElem_mem hil)
    have hkx := hk2 _ (List.getElem_mem hil)
    have hSm := hS _ (List.getElem_mem hic)
    rw [List.drop_eq_getElem_cons hil, List.drop_eq_getElem_cons hic, cAll] at hXi
    generalize l[i] = nd at hgN hkl hkx hXi
    generalize cols[i] = c at hgC hSm hXi
    have hkn : (ints nd.kids).length = nd.kids.length := List.length_map ..
    have hAs := fun j σ => Z1s2 nd.t.kind j (Zm2 nd) rfl rfl (Z1rx nd) c hSm σ
    generalize hY : cRow nd.t.kind c nd.kids 0 xs = Y at hXi
    have hYl : Y.length = l.length := by rw [← hY, Z1vb, hxl]
    (repeat (first | refine st_q rfl rfl rfl ?_ | (refine Z8y ?_; (repeat (first | refine Z9v rfl ?_ | refine Z9w ?_)); refine Z9u ?_) | refine awp_seq ?_ | refine Zbm (fun _ _ => rfl) ?_ | refine Z8h ?_ | refine Zbn (fun _ _ => rfl) ?_))
    refine Z93 rfl (by omega) hgN ?_
    rw [encN, Zm2] at hgN ⊢
    (repeat (first | refine st_q rfl rfl rfl ?_ | (refine Z8y ?_; (repeat (first | refine Z9v rfl ?_ | refine Z9w ?_)); refine Z9u ?_) | refine Z8h ?_))
    rw [hkn]
    refine Zaa (fun m F σ' => ∃ (j : Nat) (zs : List Int), F = fset 0 (some (.slc 8 (l.map encN) f)) (fset 1 (some (.slc 5 (cols.map encC) g)) (fset 7 (some (.arr 1 b 0 l.length)) (fset 8 (some (.int .i64 i)) (fset 24 (some (.int .i64 (l.length : Nat))) (fset 25 (some (.int .i64 i)) (fset 32 (some (.slc 1 (ints nd.kids) true)) (fset 33 (some (.int .i64 (nd.kids.length : Nat))) (fset 34 (some (.int .i64 j)) Z27)))))))) ∧
      (b, Zb.cells 1 (zs.map (.int .i64))) :: σ = σ' ∧ j ≤ nd.kids.length ∧ zs.length = l.length ∧ cRow nd.t.kind c (nd.kids.drop j) j zs = Y ∧ m = nd.kids.length - j) (n := nd.kids.length)
      ⟨0, xs, rfl, rfl, by omega, hxl, hY, by omega⟩ ?_
    rintro m F σ' ⟨j, zs, rfl, rfl, hj, hzl, hYj, rfl⟩
    (repeat (first | refine st_q rfl rfl rfl ?_ | (refine Z8y ?_; (repeat (first | refine Z9v rfl ?_ | refine Z9w ?_)); refine Z9u ?_) | refine awp_seq ?_ | refine Zbm (fun _ _ => rfl) ?_))
    refine Za3 (p := (j : Int) < (nd.kids.length : Nat)) rfl (fun h4 => ?_) (fun h4 => ?_)
    · have hjl : j < nd.kids.length := by omega
      have hx : (ints nd.kids)[((j : Nat) : Int).toNat]? = some (.int .i64 ((nd.kids[j] : Nat) : Int)) := by rw [Int.toNat_natCast, ints, List.getElem?_map, List.getElem?_eq_getElem hjl]; rfl
      have hxlt := hkx _ (List.getElem_mem hjl)
      rw [List.drop_eq_getElem_cons hjl, cRow] at hYj
      generalize nd.kids[j] = x at hx hxlt hYj
      (repeat (first | refine st_q rfl rfl rfl ?_ | refine awp_seq ?_ | refine Zbm (fun _ _ => rfl) ?_ | refine Z8h ?_ | refine Zbn (fun _ _ => rfl) ?_))
      refine Z93 rfl (by omega) hx ?_
      (repeat (first | refine st_q rfl rfl rfl ?_ | refine Z8v rfl (st_q rfl rfl rfl ?_) | (refine Z8y ?_; (repeat (first | refine Z9v rfl ?_ | refine Z9w ?_)); refine Z9u ?_) | refine awp_seq ?_ | refine Zbm (fun _ _ => rfl) ?_))
      (rw [decide_eq_true (p := (x : Int) ≥ 0) (by omega)])
      skip
      (rw [decide_eq_true (p := (x : Int) < (l.length : Nat)) (by omega)])
      (repeat (first | refine st_q rfl rfl rfl ?_ | refine Zbm (fun _ _ => rfl) ?_ | refine Kc1 rfl ?_))
      refine Z93 rfl (by omega) hgN ?_
      (repeat refine st_q rfl rfl rfl ?_)
      refine Z93 rfl (by omega) hgC ?_
      (repeat (refine st_q rfl rfl rfl ?_))
      refine Z9t rfl (hAs _ _) ?_
      have hzx : (zs.map (Z0.int .i64))[0 + (x : Int).toNat]? = some (.int .i64 zs[x]) := by
        rw [Nat.zero_add, Int.toNat_natCast, List.getElem?_map, List.getElem?_eq_getElem (by omega)]; rfl
      refine Z94 rfl ⟨by omega, by omega⟩ ?_
      refine Z9a rfl Z8z hzx (by decide) (Kfi rfl) (fun _ => ⟨rfl, rfl⟩) Z9b ?_
      have e1 : (zs.map (Z0.int .i64)).set (0 + (x : Int).toNat) (Z1r (.int .i64 zs[x]) 0 (Z0.int .i64 (askF nd.t.kind c (j : Int) : Nat)).cells) = (zs.set x (askF nd.t.kind c (j : Int) : Nat)).map (.int .i64) := by rw [Nat.zero_add, Int.toNat_natCast, List.map_set]; rfl
      rw [e1]
      (refine Z8y ?_; (repeat (first | refine Z9v rfl ?_ | refine Z9w ?_)); refine Z9u ?_)
      skip
      refine Zbp ?_
      (repeat (refine st_q rfl rfl rfl ?_))
      rw [Kwr j (by omega)]
      (refine Z8y ?_; (repeat (first | refine Z9v rfl ?_ | refine Z9w ?_)); refine Z9u ?_)
      exact ⟨_, nd.kids.length - (j + 1), HSub.refl _, ⟨j + 1, _, rfl, rfl, by omega, by rw [List.length_set, hzl], hYj, rfl⟩, by omega⟩
    · rw [List.drop_of_length_le (by omega), cRow] at hYj
      subst hYj
      (repeat refine Zbo (fun _ _ => rfl) ?_)
      refine Zbp ?_
      (repeat (refine st_q rfl rfl rfl ?_))
      rw [Kwr i (by omega)]
      (refine Z8y ?_; (repeat (first | refine Z9v rfl ?_ | refine Z9w ?_)); refine Z9u ?_)
      exact ⟨_, l.length - (i + 1), HSub.refl _, ⟨i + 1, _, rfl, rfl, by omega, hYl, hXi, rfl⟩, by omega⟩
  · have e : cAll (l.drop i) (cols.drop i) xs = xs := by rw [List.drop_of_length_le (by omega)]; rfl
    rw [e] at hXi
    subst hXi
    refine Zbo (fun _ _ => rfl) ?_
    refine Zb1 (d := 7) (xs := xs.map (.int .i64)) (by rw [List.length_map, hxl]; rfl) ?_
    (refine Z9y (keep := [7]) ?_; ((repeat (first | refine Z9v rfl ?_ | refine Z9w ?_)); refine Z9u ?_))
    (repeat (first | refine st_q rfl rfl rfl ?_ | (refine Z8y ?_; (repeat (first | refine Z9v rfl ?_ | refine Z9w ?_)); refine Z9u ?_) | refine awp_seq ?_ | refine Zbm (fun _ _ => rfl) ?_))
    refine Z8d ?_
    exact Kar rfl ⟨rfl, rfl⟩
end Go.Abs

