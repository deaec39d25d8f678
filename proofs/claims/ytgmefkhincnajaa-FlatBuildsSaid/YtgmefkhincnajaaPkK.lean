/- Part K of a proof: merged by program. -/
import Derived.Test.YtgmefkhincnajaaPkG
import Derived.Test.YtgmefkhincnajaaProg
import Derived.KernelRfl
set_option linter.unusedVariables false
set_option linter.unusedSimpArgs false
set_option maxHeartbeats 4000000
namespace Go.Abs
open Go
def Zxt : List Z2b := [
 ⟨some 6,.mov,[.c (.slc 0 [] true)],none⟩]
def Zxu : List Z2b := [
 ⟨some 11,.mov,[.t 0],none⟩,⟨some 12,.lens,[.t 11],none⟩,⟨some 13,(.mks 1 8 (.int .i64 0)),[.t 12,.t 12],none⟩,⟨some 7,.mov,[.t 13],none⟩]
def Zxv : List Z2b := [
 ⟨some 14,.mov,[.t 0],none⟩,⟨some 15,.lens,[.t 14],none⟩,⟨some 16,(.bin .gtr),[.t 15,.c (.int .i64 0)],none⟩]
def Zxw : List Z2b := [
 ⟨some 17,.mov,[.t 7],none⟩,⟨some 18,.mov,[.t 2],none⟩,⟨some 19,(.iad 1),[.t 17,.c (.int .i64 0)],none⟩,⟨none,(.store 1),[.t 19,.t 18],none⟩]
def Zxx : List Z2b := [
 ⟨some 20,.mov,[.t 0],none⟩,⟨some 21,.lens,[.t 20],none⟩,⟨some 22,.mov,[.t 1],none⟩,⟨some 23,.lens,[.t 22],none⟩,⟨some 24,.min,[.t 21,.t 23],none⟩,⟨some 25,.mov,[.c (.int .i64 0)],none⟩]
def Zxy : List Z2b := [
 ⟨some 26,(.bin .lss),[.t 25,.t 24],none⟩]
def Zxz : List Z2b := [
 ⟨some 27,.mov,[.t 25],none⟩,⟨some 8,.mov,[.t 27],none⟩]
def Zy0 : List Z2b := [
 ⟨some 28,.mov,[.t 0],none⟩,⟨some 29,.mov,[.t 8],none⟩,⟨some 30,(.iad 8),[.t 28,.t 29],none⟩,⟨some 31,(.fad 1),[.t 30],none⟩,⟨some 32,(.load false 1),[.t 31],none⟩,⟨some 33,.lens,[.t 32],none⟩,⟨some 34,.mov,[.c (.int .i64 0)],none⟩]
def Zy1 : List Z2b := [
 ⟨some 35,(.bin .lss),[.t 34,.t 33],none⟩]
def Zy2 : List Z2b := [
 ⟨some 36,.mov,[.t 34],none⟩,⟨some 37,(.iad 1),[.t 32,.t 34],none⟩,⟨some 38,(.load false 1),[.t 37],none⟩,⟨some 9,.mov,[.t 36],none⟩,⟨some 10,.mov,[.t 38],none⟩]
def Zy3 : List Z2b := [
 ⟨some 39,.mov,[.t 10],none⟩,⟨some 40,(.bin .geq),[.t 39,.c (.int .i64 0)],none⟩,⟨some 41,.mov,[.t 40],none⟩,⟨some 42,.mov,[.t 10],some (41,true)⟩,⟨some 43,.mov,[.t 7],some (41,true)⟩,⟨some 44,.lens,[.t 43],some (41,true)⟩,⟨some 45,(.bin .lss),[.t 42,.t 44],some (41,true)⟩,⟨some 46,.pick,[.t 41,.t 45,.c (.bool false)],none⟩]
def Zy4 : List Z2b := [
 ⟨some 47,.mov,[.t 7],none⟩,⟨some 48,.mov,[.t 10],none⟩,⟨some 49,.mov,[.t 0],none⟩,⟨some 50,.mov,[.t 8],none⟩,⟨some 51,(.iad 8),[.t 49,.t 50],none⟩,⟨some 52,(.load true 8),[.t 51],none⟩,⟨some 53,.mov,[.t 1],none⟩,⟨some 54,.mov,[.t 8],none⟩,⟨some 55,(.iad 5),[.t 53,.t 54],none⟩,⟨some 56,(.load true 5),[.t 55],none⟩,⟨some 57,.mov,[.t 9],none⟩,⟨some 58,(.call Ze7),[.t 52,.t 56,.t 57],none⟩,⟨some 59,(.iad 1),[.t 47,.t 48],none⟩,⟨none,(.store 1),[.t 59,.t 58],none⟩]
def Zy5 : List Z2b := [
 ⟨some 60,(.bin .add),[.t 34,.c (.int .i64 1)],none⟩,⟨some 34,.mov,[.t 60],none⟩]
def Zy6 : Z2c := (.seq (.region Zy1 [0,1,7,8,24,25,32,33,34,35]) (.seq (.cond (.t 35) .skip (.exit 2)) (.seq (.block 3 (.seq (.region Zy2 [0,1,7,8,9,10,24,25,32,33,34]) (.seq (.region Zy3 [0,1,7,8,9,10,24,25,32,33,34,46]) (.cond (.t 46) (.region Zy4 [0,1,7,8,24,25,32,33,34]) .skip)))) (.region Zy5 [0,1,7,8,24,25,32,33,34]))))
def Zy7 : List Z2b := [
 ⟨some 61,(.bin .add),[.t 25,.c (.int .i64 1)],none⟩,⟨some 25,.mov,[.t 61],none⟩]
def Zy8 : Z2c := (.seq (.region Zxy [0,1,7,24,25,26]) (.seq (.cond (.t 26) .skip (.exit 0)) (.seq (.block 1 (.seq (.region Zxz [0,1,7,8,24,25]) (.seq (.region Zy0 [0,1,7,8,24,25,32,33,34]) (.block 2 (.loop Zy6))))) (.region Zy7 [0,1,7,24,25]))))
def Zy9 : List Z2b := [
 ⟨some 62,.mov,[.t 7],none⟩,⟨some 6,.mov,[.t 62],none⟩]
def Zya : Z2z := ⟨63,(.seq (.region Zxt [0,1,2]) (.seq (.region Zxu [0,1,2,7]) (.seq (.seq (.region Zxv [0,1,2,7,16]) (.cond (.t 16) (.region Zxw [0,1,7]) .skip)) (.seq (.seq (.region Zxx [0,1,7,24,25]) (.block 0 (.loop Zy8))) (.seq (.region Zy9 [6]) .ret))))),[.t 6]⟩
def Zyb : List Z2b := [
 ⟨some 3,(.box 6),[.t 0],none⟩,⟨some 4,(.box 5),[.t 1],none⟩,⟨some 6,.mov,[.c (.int .i64 0)],none⟩]
def Zyc : List Z2b := [
 ⟨some 10,(.load true 5),[.t 4],none⟩,⟨some 11,(.call Zfa),[.t 10],none⟩,⟨some 7,.mov,[.t 11],none⟩]
def Zyd : List Z2b := [
 ⟨some 12,(.fad 0),[.t 3],none⟩,⟨some 13,(.load false 1),[.t 12],none⟩]
def Zye : List Z2b := [
 ⟨some 15,(.bin .eql),[.t 13,.c (.int .i64 10)],none⟩,⟨some 14,.mov,[.t 15],none⟩]
def Zyf : List Z2b := [
 ⟨some 16,(.bin .eql),[.t 13,.c (.int .i64 11)],none⟩,⟨some 14,.mov,[.t 16],none⟩]
def Zyg : List Z2b := [
 ⟨some 7,.mov,[.c (.int .i64 0)],none⟩]
def Zyh : List Z2b := [
 ⟨some 8,.mov,[.c (.int .i64 0)],none⟩]
def Zyi : List Z2b := [
 ⟨some 17,.mov,[.t 8],none⟩,⟨some 18,(.fad 4),[.t 4],none⟩,⟨some 19,(.load false 1),[.t 18],none⟩,⟨some 20,.lens,[.t 19],none⟩,⟨some 21,(.bin .lss),[.t 17,.t 20],none⟩]
def Zyj : List Z2b := [
 ⟨some 24,(.fad 4),[.t 4],none⟩,⟨some 25,(.load false 1),[.t 24],none⟩,⟨some 26,.mov,[.t 8],none⟩,⟨some 27,(.iad 1),[.t 25,.t 26],none⟩,⟨some 28,(.load false 1),[.t 27],none⟩,⟨some 29,.mov,[.t 7],none⟩,⟨some 30,(.bin .sub),[.c (.int .i64 16384),.t 29],none⟩,⟨some 31,(.bin .gtr),[.t 28,.t 30],none⟩]
def Zyk : List Z2b := [
 ⟨some 6,.mov,[.c (.int .i64 16385)],none⟩]
def Zyl : List Z2b := [
 ⟨some 32,.mov,[.t 7],none⟩,⟨some 33,(.fad 4),[.t 4],none⟩,⟨some 34,(.load false 1),[.t 33],none⟩,⟨some 35,.mov,[.t 8],none⟩,⟨some 36,(.iad 1),[.t 34,.t 35],none⟩,⟨some 37,(.load false 1),[.t 36],none⟩,⟨some 38,(.bin .add),[.t 32,.t 37],none⟩,⟨some 7,.mov,[.t 38],none⟩]
def Zym : List Z2b := [
 ⟨some 22,.mov,[.t 8],none⟩,⟨some 23,(.bin .add),[.t 22,.c (.int .i64 1)],none⟩,⟨some 8,.mov,[.t 23],none⟩]
def Zyn : Z2c := (.seq (.seq (.region Zyi [4,7,8,21]) (.cond (.t 21) .skip (.exit 1))) (.seq (.block 2 (.seq (.seq (.region Zyj [4,7,8,31]) (.cond (.t 31) (.seq (.region Zyk [6]) .ret) .skip)) (.region Zyl [4,7,8]))) (.region Zym [4,7,8])))
def Zyo : List Z2b := [
 ⟨some 40,(.bin .eql),[.t 13,.c (.int .i64 13)],none⟩,⟨some 39,.mov,[.t 40],none⟩]
def Zyp : List Z2b := [
 ⟨some 7,.mov,[.c (.int .i64 0)],none⟩]
def Zyq : List Z2b := [
 ⟨some 9,.mov,[.c (.int .i64 0)],none⟩]
def Zyr : List Z2b := [
 ⟨some 41,.mov,[.t 9],none⟩,⟨some 42,(.fad 1),[.t 4],none⟩,⟨some 43,(.load false 1),[.t 42],none⟩,⟨some 44,.lens,[.t 43],none⟩,⟨some 45,(.bin .lss),[.t 41,.t 44],none⟩]
def Zys : List Z2b := [
 ⟨some 48,(.fad 1),[.t 4],none⟩,⟨some 49,(.load false 1),[.t 48],none⟩,⟨some 50,.mov,[.t 9],none⟩,⟨some 51,(.iad 1),[.t 49,.t 50],none⟩,⟨some 52,(.load false 1),[.t 51],none⟩,⟨some 53,.mov,[.t 2],none⟩,⟨some 54,(.bin .eql),[.t 52,.t 53],none⟩]
def Zyt : List Z2b := [
 ⟨some 55,.mov,[.t 7],none⟩,⟨some 56,(.bin .add),[.t 55,.c (.int .i64 1)],none⟩,⟨some 7,.mov,[.t 56],none⟩]
def Zyu : List Z2b := [
 ⟨some 46,.mov,[.t 9],none⟩,⟨some 47,(.bin .add),[.t 46,.c (.int .i64 1)],none⟩,⟨some 9,.mov,[.t 47],none⟩]
def Zyv : Z2c := (.seq (.seq (.region Zyr [2,4,7,9,45]) (.cond (.t 45) .skip (.exit 3))) (.seq (.block 4 (.seq (.region Zys [2,4,7,9,54]) (.cond (.t 54) (.region Zyt [2,4,7,9]) .skip))) (.region Zyu [2,4,7,9])))
def Zyw : List Z2b := [
 ⟨some 57,.mov,[.t 7],none⟩,⟨some 6,.mov,[.t 57],none⟩]
def Zyx : Z2z := ⟨58,(.seq (.region Zyb [2,3,4]) (.seq (.region Zyc [2,3,4,7]) (.seq (.seq (.region Zyd [2,4,7,13]) (.block 0 (.seq (.seq (.region Zye [2,4,7,13,14]) (.cond (.t 14) .skip (.region Zyf [2,4,7,13,14]))) (.cond (.t 14) (.seq (.region Zyg [4,7]) (.seq (.region Zyh [4,7,8]) (.block 1 (.loop Zyn)))) (.seq (.region Zyo [2,4,7,39]) (.cond (.t 39) (.seq (.region Zyp [2,4,7]) (.seq (.region Zyq [2,4,7,9]) (.block 3 (.loop Zyv)))) .skip)))))) (.seq (.region Zyw [6]) .ret)))),[.t 6]⟩
def Zyy : List Z2b := [
 ⟨some 2,(.box 6),[.t 0],none⟩,⟨some 3,(.box 5),[.t 1],none⟩,⟨some 4,.mov,[.c (.int .i64 0)],none⟩]
def Zyz : List Z2b := [
 ⟨some 12,(.load true 6),[.t 2],none⟩,⟨some 13,(.load true 5),[.t 3],none⟩,⟨some 14,(.call Zf2),[.t 12,.t 13],none⟩,⟨some 15,.unot,[.t 14],none⟩,⟨some 16,.mov,[.t 15],none⟩,⟨some 17,(.fad 0),[.t 3],some (16,false)⟩,⟨some 18,(.load false 1),[.t 17],some (16,false)⟩,⟨some 19,.unot,[.t 18],some (16,false)⟩,⟨some 20,.mov,[.t 19],some (16,false)⟩,⟨some 21,(.load true 6),[.t 2],some (20,true)⟩,⟨some 22,(.load true 5),[.t 3],some (20,true)⟩,⟨some 23,(.call Zf3),[.t 21,.t 22],some (20,true)⟩,⟨some 24,.unot,[.t 23],some (20,true)⟩,⟨some 25,.pick,[.t 20,.t 24,.c (.bool false)],some (16,false)⟩,⟨some 26,.pick,[.t 16,.c (.bool true),.t 25],none⟩,⟨some 11,.mov,[.t 26],none⟩]
def Zz0 : List Z2b := [
 ⟨some 4,.mov,[.c (.int .i64 1)],none⟩]
def Zz1 : List Z2b := [
 ⟨some 28,(.fad 0),[.t 3],none⟩,⟨some 29,(.load false 1),[.t 28],none⟩,⟨some 27,.mov,[.t 29],none⟩]
def Zz2 : List Z2b := [
 ⟨some 4,.mov,[.c (.int .i64 0)],none⟩]
def Zz3 : List Z2b := [
 ⟨some 31,(.load true 6),[.t 2],none⟩,⟨some 32,(.load true 5),[.t 3],none⟩,⟨some 33,(.call Zf4),[.t 31,.t 32],none⟩,⟨some 30,.mov,[.t 33],none⟩]
def Zz4 : List Z2b := [
 ⟨some 4,.mov,[.c (.int .i64 4)],none⟩]
def Zz5 : List Z2b := [
 ⟨some 34,(.load true 6),[.t 2],none⟩,⟨some 35,(.load true 5),[.t 3],none⟩,⟨some 36,(.call Zf5),[.t 34,.t 35],none⟩,⟨some 5,.mov,[.t 36],none⟩]
def Zz6 : List Z2b := [
 ⟨some 37,.mov,[.t 5],none⟩,⟨some 38,(.bin .neq),[.t 37,.c (.int .i64 0)],none⟩]
def Zz7 : List Z2b := [
 ⟨some 39,.mov,[.t 5],none⟩,⟨some 4,.mov,[.t 39],none⟩]
def Zz8 : List Z2b := [
 ⟨some 40,(.fad 4),[.t 3],none⟩,⟨some 41,(.load false 1),[.t 40],none⟩,⟨some 42,.lens,[.t 41],none⟩,⟨some 43,.mov,[.c (.int .i64 0)],none⟩]
def Zz9 : List Z2b := [
 ⟨some 44,(.bin .lss),[.t 43,.t 42],none⟩]
def Zza : List Z2b := [
 ⟨some 45,.mov,[.t 43],none⟩,⟨some 46,(.iad 5),[.t 41,.t 43],none⟩,⟨some 47,(.load true 5),[.t 46],none⟩,⟨some 7,(.alloc (.agg [(.bool false),(.int .i64 0),(.int .i64 0),(.slc 0 [] true),(.slc 0 [] true)])),[],none⟩,⟨some 6,.mov,[.t 45],none⟩,⟨none,(.store 5),[.t 7,.t 47],none⟩]
def Zzb : List Z2b := [
 ⟨some 49,(.load true 6),[.t 2],none⟩,⟨some 50,(.load true 5),[.t 3],none⟩,⟨some 51,.mov,[.t 6],none⟩,⟨some 52,(.call Zf6),[.t 49,.t 50,.t 51],none⟩,⟨some 48,.mov,[.t 52],none⟩,⟨some 53,(.ext 0),[.t 48],none⟩,⟨some 54,(.ext 1),[.t 48],none⟩,⟨some 8,(.alloc (.agg [(.int .i64 0),(.slc 0 [] true),(.slc 0 [] true),(.int .i64 0),(.int .i64 0),(.int .i64 0)])),[],none⟩,⟨none,(.store 6),[.t 8,.t 53],none⟩,⟨some 9,.mov,[.t 54],none⟩]
def Zzc : List Z2b := [
 ⟨some 55,.mov,[.t 9],none⟩,⟨some 56,.unot,[.t 55],none⟩,⟨some 57,.mov,[.t 56],none⟩,⟨some 58,(.fad 0),[.t 2],some (57,false)⟩,⟨some 59,(.load false 1),[.t 58],some (57,false)⟩,⟨some 60,(.bin .eql),[.t 59,.c (.int .i64 11)],some (57,false)⟩,⟨some 61,.mov,[.t 60],some (57,false)⟩,⟨some 62,.mov,[.t 6],some (61,true)⟩,⟨some 63,(.bin .rem),[.t 62,.c (.int .i64 2)],some (61,true)⟩,⟨some 64,(.bin .eql),[.t 63,.c (.int .i64 0)],some (61,true)⟩,⟨some 65,.pick,[.t 61,.t 64,.c (.bool false)],some (57,false)⟩,⟨some 66,.mov,[.t 65],some (57,false)⟩,⟨some 67,(.fad 0),[.t 7],some (66,true)⟩,⟨some 68,(.load false 1),[.t 67],some (66,true)⟩,⟨some 69,.pick,[.t 66,.t 68,.c (.bool false)],some (57,false)⟩,⟨some 70,.pick,[.t 57,.c (.bool true),.t 69],none⟩]
def Zzd : List Z2b := [
 ⟨some 4,.mov,[.c (.int .i64 1)],none⟩]
def Zze : List Z2b := [
 ⟨some 71,(.load true 6),[.t 8],none⟩,⟨some 72,(.load true 5),[.t 7],none⟩,⟨some 73,(.call Ze3),[.t 71,.t 72],none⟩,⟨some 10,.mov,[.t 73],none⟩]
def Zzf : List Z2b := [
 ⟨some 74,.mov,[.t 10],none⟩,⟨some 75,(.bin .neq),[.t 74,.c (.int .i64 0)],none⟩]
def Zzg : List Z2b := [
 ⟨some 76,.mov,[.t 10],none⟩,⟨some 4,.mov,[.t 76],none⟩]
def Zzh : List Z2b := [
 ⟨some 77,(.bin .add),[.t 43,.c (.int .i64 1)],none⟩,⟨some 43,.mov,[.t 77],none⟩]
def Zzi : Z2c := (.seq (.region Zz9 [2,3,41,42,43,44]) (.seq (.cond (.t 44) .skip (.exit 1)) (.seq (.block 2 (.seq (.region Zza [2,3,6,7,41,42,43]) (.seq (.region Zzb [2,3,6,7,8,9,41,42,43]) (.seq (.seq (.region Zzc [2,3,7,8,41,42,43,70]) (.cond (.t 70) (.seq (.region Zzd [4]) .ret) .skip)) (.seq (.region Zze [2,3,10,41,42,43]) (.seq (.region Zzf [2,3,10,41,42,43,75]) (.cond (.t 75) (.seq (.region Zzg [4]) .ret) .skip))))))) (.region Zzh [2,3,41,42,43]))))
def Zzj : List Z2b := [
 ⟨some 4,.mov,[.c (.int .i64 0)],none⟩]
def Zzk : Z2z := ⟨78,(.seq (.region Zyy [2,3]) (.seq (.block 0 (.seq (.region Zyz [2,3,11]) (.cond (.t 11) (.seq (.region Zz0 [4]) .ret) (.seq (.region Zz1 [2,3,27]) (.cond (.t 27) (.seq (.region Zz2 [4]) .ret) (.seq (.region Zz3 [2,3,30]) (.cond (.t 30) (.seq (.region Zz4 [4]) .ret) .skip))))))) (.seq (.seq (.region Zz5 [2,3,5]) (.seq (.region Zz6 [2,3,5,38]) (.cond (.t 38) (.seq (.region Zz7 [4]) .ret) .skip))) (.seq (.seq (.region Zz8 [2,3,41,42,43]) (.block 1 (.loop Zzi))) (.seq (.region Zzj [4]) .ret))))),[.t 4]⟩
def Zzl : List Z2b := [
 ⟨some 2,(.box 6),[.t 0],none⟩,⟨some 3,(.box 5),[.t 1],none⟩,⟨some 4,.mov,[.c (.bool false)],none⟩]
def Zzm : List Z2b := [
 ⟨some 5,(.fad 0),[.t 3],none⟩,⟨some 6,(.load false 1),[.t 5],none⟩]
def Zzn : List Z2b := [
 ⟨some 7,(.fad 1),[.t 3],none⟩,⟨some 8,(.load false 1),[.t 7],none⟩,⟨some 9,(.bin .eql),[.t 8,.c (.int .i64 0)],none⟩,⟨some 10,.mov,[.t 9],none⟩,⟨some 11,(.fad 2),[.t 3],some (10,true)⟩,⟨some 12,(.load false 1),[.t 11],some (10,true)⟩,⟨some 13,(.bin .eql),[.t 12,.c (.int .i64 0)],some (10,true)⟩,⟨some 14,.pick,[.t 10,.t 13,.c (.bool false)],none⟩,⟨some 15,.mov,[.t 14],none⟩,⟨some 16,(.fad 3),[.t 3],some (15,true)⟩,⟨some 17,(.load false 1),[.t 16],some (15,true)⟩,⟨some 18,.lens,[.t 17],some (15,true)⟩,⟨some 19,(.bin .eql),[.t 18,.c (.int .i64 0)],some (15,true)⟩,⟨some 20,.pick,[.t 15,.t 19,.c (.bool false)],none⟩,⟨some 21,.mov,[.t 20],none⟩,⟨some 22,(.fad 4),[.t 3],some (21,true)⟩,⟨some 23,(.load false 1),[.t 22],some (21,true)⟩,⟨some 24,.lens,[.t 23],some (21,true)⟩,⟨some 25,(.bin .eql),[.t 24,.c (.int .i64 0)],some (21,true)⟩,⟨some 26,.pick,[.t 21,.t 25,.c (.bool false)],none⟩,⟨some 4,.mov,[.t 26],none⟩]
def Zzo : List Z2b := [
 ⟨some 27,(.fad 2),[.t 3],none⟩,⟨some 28,(.load false 1),[.t 27],none⟩,⟨some 29,(.bin .eql),[.t 28,.c (.int .i64 0)],none⟩,⟨some 30,.mov,[.t 29],none⟩,⟨some 31,(.fad 0),[.t 2],some (30,false)⟩,⟨some 32,(.load false 1),[.t 31],some (30,false)⟩,⟨some 33,(.bin .eql),[.t 32,.c (.int .i64 9)],some (30,false)⟩,⟨some 34,.pick,[.t 30,.c (.bool true),.t 33],none⟩,⟨some 35,.mov,[.t 34],none⟩,⟨some 36,(.fad 3),[.t 3],some (35,true)⟩,⟨some 37,(.load false 1),[.t 36],some (35,true)⟩,⟨some 38,.lens,[.t 37],some (35,true)⟩,⟨some 39,(.bin .eql),[.t 38,.c (.int .i64 0)],some (35,true)⟩,⟨some 40,.mov,[.t 39],some (35,true)⟩,⟨some 41,(.fad 0),[.t 2],some (40,false)⟩,⟨some 42,(.load false 1),[.t 41],some (40,false)⟩,⟨some 43,(.call Zes),[.t 42],some (40,false)⟩,⟨some 44,.pick,[.t 40,.c (.bool true),.t 43],some (35,true)⟩,⟨some 45,.pick,[.t 35,.t 44,.c (.bool false)],none⟩,⟨some 46,.mov,[.t 45],none⟩,⟨some 47,(.fad 4),[.t 3],some (46,true)⟩,⟨some 48,(.load false 1),[.t 47],some (46,true)⟩,⟨some 49,.lens,[.t 48],some (46,true)⟩,⟨some 50,(.bin .eql),[.t 49,.c (.int .i64 0)],some (46,true)⟩,⟨some 51,.mov,[.t 50],some (46,true)⟩,⟨some 52,(.fad 0),[.t 2],some (51,false)⟩,⟨some 53,(.load false 1),[.t 52],some (51,false)⟩,⟨some 54,(.call Zen),[.t 53],some (51,false)⟩,⟨some 55,.unot,[.t 54],some (51,false)⟩,⟨some 56,.pick,[.t 51,.c (.bool true),.t 55],some (46,true)⟩,⟨some 57,.pick,[.t 46,.t 56,.c (.bool false)],none⟩,⟨some 4,.mov,[.t 57],none⟩]
def Zzp : Z2z := ⟨58,(.seq (.region Zzl [2,3]) (.seq (.seq (.region Zzm [2,3,6]) (.cond (.t 6) (.seq (.region Zzn [4]) .ret) .skip)) (.seq (.region Zzo [4]) .ret))),[.t 4]⟩
def Zzq : List Z2b := [
 ⟨some 2,(.box 6),[.t 0],none⟩,⟨some 3,(.box 5),[.t 1],none⟩,⟨some 4,.mov,[.c (.bool false)],none⟩]
def Zzr : List Z2b := [
 ⟨some 5,(.fad 0),[.t 2],none⟩,⟨some 6,(.load false 1),[.t 5],none⟩]
def Zzs : List Z2b := [
 ⟨some 8,(.bin .eql),[.t 6,.c (.int .i64 0)],none⟩,⟨some 7,.mov,[.t 8],none⟩]
def Zzt : List Z2b := [
 ⟨some 9,(.fad 1),[.t 3],none⟩,⟨some 10,(.load false 1),[.t 9],none⟩,⟨some 11,(.bin .eql),[.t 10,.c (.int .i64 0)],none⟩,⟨some 12,.mov,[.t 11],none⟩,⟨some 13,(.fad 1),[.t 3],some (12,false)⟩,⟨some 14,(.load false 1),[.t 13],some (12,false)⟩,⟨some 15,(.bin .eql),[.t 14,.c (.int .i64 1)],some (12,false)⟩,⟨some 16,.pick,[.t 12,.c (.bool true),.t 15],none⟩,⟨some 4,.mov,[.t 16],none⟩]
def Zzu : List Z2b := [
 ⟨some 18,(.bin .eql),[.t 6,.c (.int .i64 1)],none⟩,⟨some 17,.mov,[.t 18],none⟩]
def Zzv : List Z2b := [
 ⟨some 19,(.fad 1),[.t 3],none⟩,⟨some 20,(.load false 1),[.t 19],none⟩,⟨some 21,(.call Zfl),[.t 20,.c (.int .i64 8)],none⟩,⟨some 4,.mov,[.t 21],none⟩]
def Zzw : List Z2b := [
 ⟨some 23,(.bin .eql),[.t 6,.c (.int .i64 2)],none⟩,⟨some 22,.mov,[.t 23],none⟩]
def Zzx : List Z2b := [
 ⟨some 24,(.fad 1),[.t 3],none⟩,⟨some 25,(.load false 1),[.t 24],none⟩,⟨some 26,(.call Zfl),[.t 25,.c (.int .i64 16)],none⟩,⟨some 4,.mov,[.t 26],none⟩]
def Zzy : List Z2b := [
 ⟨some 28,(.bin .eql),[.t 6,.c (.int .i64 3)],none⟩,⟨some 27,.mov,[.t 28],none⟩]
def Zzz : List Z2b := [
 ⟨some 29,(.bin .eql),[.t 6,.c (.int .i64 15)],none⟩,⟨some 27,.mov,[.t 29],none⟩]
def Z100 : List Z2b := [
 ⟨some 30,(.fad 1),[.t 3],none⟩,⟨some 31,(.load false 1),[.t 30],none⟩,⟨some 32,(.call Zfl),[.t 31,.c (.int .i64 32)],none⟩,⟨some 4,.mov,[.t 32],none⟩]
def Z101 : List Z2b := [
 ⟨some 34,(.bin .eql),[.t 6,.c (.int .i64 4)],none⟩,⟨some 33,.mov,[.t 34],none⟩]
def Z102 : List Z2b := [
 ⟨some 4,.mov,[.c (.bool true)],none⟩]
def Z103 : List Z2b := [
 ⟨some 36,(.bin .eql),[.t 6,.c (.int .i64 14)],none⟩,⟨some 35,.mov,[.t 36],none⟩]
def Z104 : List Z2b := [
 ⟨some 37,(.fad 1),[.t 3],none⟩,⟨some 38,(.load false 1),[.t 37],none⟩,⟨some 39,(.callp Zfm),[.t 38],none⟩,⟨some 40,(.fad 4),[.t 2],none⟩,⟨some 41,(.load false 1),[.t 40],none⟩,⟨some 42,(.bin .leq),[.t 39,.t 41],none⟩,⟨some 4,.mov,[.t 42],none⟩]
def Z105 : List Z2b := [
 ⟨some 44,(.bin .eql),[.t 6,.c (.int .i64 9)],none⟩,⟨some 43,.mov,[.t 44],none⟩]
def Z106 : List Z2b := [
 ⟨some 45,(.fad 1),[.t 3],none⟩,⟨some 46,(.load false 1),[.t 45],none⟩,⟨some 47,(.fad 2),[.t 3],none⟩,⟨some 48,(.load false 1),[.t 47],none⟩,⟨some 49,(.call Zfn),[.t 46,.t 48],none⟩,⟨some 4,.mov,[.t 49],none⟩]
def Z107 : List Z2b := [
 ⟨some 51,(.bin .eql),[.t 6,.c (.int .i64 13)],none⟩,⟨some 50,.mov,[.t 51],none⟩]
def Z108 : List Z2b := [
 ⟨some 52,(.fad 1),[.t 3],none⟩,⟨some 53,(.load false 1),[.t 52],none⟩,⟨some 54,(.bin .geq),[.t 53,.c (.int .i64 0)],none⟩,⟨some 55,.mov,[.t 54],none⟩,⟨some 56,(.fad 1),[.t 3],some (55,true)⟩,⟨some 57,(.load false 1),[.t 56],some (55,true)⟩,⟨some 58,(.fad 2),[.t 2],some (55,true)⟩,⟨some 59,(.load false 1),[.t 58],some (55,true)⟩,⟨some 60,.lens,[.t 59],some (55,true)⟩,⟨some 61,(.bin .lss),[.t 57,.t 60],some (55,true)⟩,⟨some 62,.pick,[.t 55,.t 61,.c (.bool false)],none⟩,⟨some 4,.mov,[.t 62],none⟩]
def Z109 : List Z2b := [
 ⟨some 63,(.fad 1),[.t 3],none⟩,⟨some 64,(.load false 1),[.t 63],none⟩,⟨some 65,(.bin .eql),[.t 64,.c (.int .i64 0)],none⟩,⟨some 4,.mov,[.t 65],none⟩]
def Z10a : Z2z := ⟨66,(.seq (.region Zzq [2,3]) (.seq (.seq (.region Zzr [2,3,6]) (.block 0 (.seq (.region Zzs [2,3,6,7]) (.cond (.t 7) (.seq (.region Zzt [4]) .ret) (.seq (.region Zzu [2,3,6,17]) (.cond (.t 17) (.seq (.region Zzv [4]) .ret) (.seq (.region Zzw [2,3,6,22]) (.cond (.t 22) (.seq (.region Zzx [4]) .ret) (.seq (.seq (.region Zzy [2,3,6,27]) (.cond (.t 27) .skip (.region Zzz [2,3,6,27]))) (.cond (.t 27) (.seq (.region Z100 [4]) .ret) (.seq (.region Z101 [2,3,6,33]) (.cond (.t 33) (.seq (.region Z102 [4]) .ret) (.seq (.region Z103 [2,3,6,35]) (.cond (.t 35) (.seq (.region Z104 [4]) .ret) (.seq (.region Z105 [2,3,6,43]) (.cond (.t 43) (.seq (.region Z106 [4]) .ret) (.seq (.region Z107 [2,3,50]) (.cond (.t 50) (.seq (.region Z108 [4]) .ret) .skip)))))))))))))))))) (.seq (.region Z109 [4]) .ret))),[.t 4]⟩
def Z10b : List Z2b := [
 ⟨some 2,(.box 6),[.t 0],none⟩,⟨some 3,(.box 5),[.t 1],none⟩,⟨some 4,.mov,[.c (.bool false)],none⟩]
def Z10c : List Z2b := [
 ⟨some 5,(.fad 0),[.t 2],none⟩,⟨some 6,(.load false 1),[.t 5],none⟩]
def Z10d : List Z2b := [
 ⟨some 8,(.bin .eql),[.t 6,.c (.int .i64 16)],none⟩,⟨some 7,.mov,[.t 8],none⟩]
def Z10e : List Z2b := [
 ⟨some 9,(.bin .eql),[.t 6,.c (.int .i64 17)],none⟩,⟨some 7,.mov,[.t 9],none⟩]
def Z10f : List Z2b := [
 ⟨some 11,(.bin .eql),[.t 6,.c (.int .i64 7)],none⟩,⟨some 10,.mov,[.t 11],none⟩]
def Z10g : List Z2b := [
 ⟨some 12,(.bin .eql),[.t 6,.c (.int .i64 8)],none⟩,⟨some 10,.mov,[.t 12],none⟩]
def Z10h : List Z2b := [
 ⟨some 13,(.fad 3),[.t 3],none⟩,⟨some 14,(.load false 1),[.t 13],none⟩,⟨some 15,(.callp Zfo),[.t 14],none⟩,⟨some 16,(.fad 3),[.t 2],none⟩,⟨some 17,(.load false 1),[.t 16],none⟩,⟨some 18,(.bin .gtr),[.t 15,.t 17],none⟩]
def Z10i : List Z2b := [
 ⟨some 4,.mov,[.c (.bool true)],none⟩]
def Z10j : List Z2b := [
 ⟨some 19,(.fad 3),[.t 3],none⟩,⟨some 20,(.load false 1),[.t 19],none⟩,⟨some 21,.lens,[.t 20],none⟩,⟨some 22,(.bin .gtr),[.t 21,.c (.int .i64 4096)],none⟩,⟨some 4,.mov,[.t 22],none⟩]
def Z10k : List Z2b := [
 ⟨some 4,.mov,[.c (.bool false)],none⟩]
def Z10l : Z2z := ⟨23,(.seq (.region Z10b [2,3]) (.seq (.seq (.region Z10c [2,3,6]) (.block 0 (.seq (.block 2 (.seq (.block 1 (.seq (.seq (.seq (.seq (.region Z10d [2,3,6,7]) (.cond (.t 7) .skip (.region Z10e [2,3,6,7]))) (.cond (.t 7) (.exit 1) .skip)) (.seq (.seq (.region Z10f [3,6,10]) (.cond (.t 10) .skip (.region Z10g [3,10]))) (.cond (.t 10) (.exit 2) .skip))) (.exit 0))) (.seq (.region Z10h [3,18]) (.cond (.t 18) (.seq (.region Z10i [4]) .ret) .skip)))) (.seq (.seq (.region Z10j [4]) .ret) (.exit 0))))) (.seq (.region Z10k [4]) .ret))),[.t 4]⟩
def Z10m : List Z2b := [
 ⟨some 2,(.box 6),[.t 0],none⟩,⟨some 3,(.box 5),[.t 1],none⟩,⟨some 4,.mov,[.c (.int .i64 0)],none⟩]
def Z10n : List Z2b := [
 ⟨some 7,(.fad 4),[.t 3],none⟩,⟨some 8,(.load false 1),[.t 7],none⟩,⟨some 9,.lens,[.t 8],none⟩,⟨some 5,.mov,[.t 9],none⟩,⟨some 6,.mov,[.c (.bool true)],none⟩]
def Z10o : List Z2b := [
 ⟨some 10,(.fad 0),[.t 2],none⟩,⟨some 11,(.load false 1),[.t 10],none⟩]
def Z10p : List Z2b := [
 ⟨some 13,(.bin .eql),[.t 11,.c (.int .i64 11)],none⟩,⟨some 12,.mov,[.t 13],none⟩]
def Z10q : List Z2b := [
 ⟨some 15,(.bin .eql),[.t 11,.c (.int .i64 10)],none⟩,⟨some 14,.mov,[.t 15],none⟩]
def Z10r : List Z2b := [
 ⟨some 17,(.bin .eql),[.t 11,.c (.int .i64 12)],none⟩,⟨some 16,.mov,[.t 17],none⟩]
def Z10s : List Z2b := [
 ⟨some 19,(.bin .eql),[.t 11,.c (.int .i64 13)],none⟩,⟨some 18,.mov,[.t 19],none⟩]
def Z10t : List Z2b := [
 ⟨some 20,.mov,[.t 5],none⟩,⟨some 21,(.bin .rem),[.t 20,.c (.int .i64 2)],none⟩,⟨some 22,(.bin .eql),[.t 21,.c (.int .i64 0)],none⟩,⟨some 23,.mov,[.t 5],none⟩,⟨some 24,(.bin .quo),[.t 23,.c (.int .i64 2)],none⟩,⟨some 6,.mov,[.t 22],none⟩,⟨some 5,.mov,[.t 24],none⟩]
def Z10u : List Z2b := [
 ⟨some 25,.mov,[.t 6],none⟩,⟨some 26,.mov,[.t 25],none⟩,⟨some 27,.mov,[.t 5],some (26,true)⟩,⟨some 28,(.bin .gtr),[.t 27,.c (.int .i64 16384)],some (26,true)⟩,⟨some 29,.pick,[.t 26,.t 28,.c (.bool false)],none⟩]
def Z10v : List Z2b := [
 ⟨some 4,.mov,[.c (.int .i64 4)],none⟩]
def Z10w : List Z2b := [
 ⟨some 30,.mov,[.t 5],none⟩,⟨some 31,(.fad 2),[.t 2],none⟩,⟨some 32,(.load false 1),[.t 31],none⟩,⟨some 33,.lens,[.t 32],none⟩,⟨some 34,(.bin .eql),[.t 30,.t 33],none⟩,⟨some 6,.mov,[.t 34],none⟩]
def Z10x : List Z2b := [
 ⟨some 35,.mov,[.t 5],none⟩,⟨some 36,(.bin .eql),[.t 35,.c (.int .i64 1)],none⟩,⟨some 6,.mov,[.t 36],none⟩]
def Z10y : List Z2b := [
 ⟨some 37,.mov,[.t 6],none⟩,⟨some 38,.unot,[.t 37],none⟩]
def Z10z : List Z2b := [
 ⟨some 4,.mov,[.c (.int .i64 1)],none⟩]
def Z110 : List Z2b := [
 ⟨some 4,.mov,[.c (.int .i64 0)],none⟩]
def Z111 : Z2z := ⟨39,(.seq (.region Z10m [2,3]) (.seq (.region Z10n [2,5,6]) (.seq (.seq (.region Z10o [2,5,6,11]) (.block 0 (.seq (.block 4 (.seq (.block 3 (.seq (.block 2 (.seq (.block 1 (.seq (.seq (.seq (.region Z10p [2,5,6,11,12]) (.cond (.t 12) (.exit 1) .skip)) (.seq (.seq (.region Z10q [2,5,6,11,14]) (.cond (.t 14) (.exit 2) .skip)) (.seq (.seq (.region Z10r [2,5,6,11,16]) (.cond (.t 16) (.exit 3) .skip)) (.seq (.region Z10s [5,6,18]) (.cond (.t 18) (.exit 4) .skip))))) (.exit 0))) (.region Z10t [5,6]))) (.seq (.seq (.region Z10u [6,29]) (.cond (.t 29) (.seq (.region Z10v [4]) .ret) .skip)) (.exit 0)))) (.seq (.region Z10w [6]) (.exit 0)))) (.seq (.region Z10x [6]) (.exit 0))))) (.seq (.seq (.region Z10y [38]) (.cond (.t 38) (.seq (.region Z10z [4]) .ret) .skip)) (.seq (.region Z110 [4]) .ret))))),[.t 4]⟩
def Z112 : List Z2b := [
 ⟨some 3,(.box 6),[.t 0],none⟩,⟨some 4,(.box 5),[.t 1],none⟩,⟨some 6,(.alloc (.agg [(.int .i64 0),(.slc 0 [] true),(.slc 0 [] true),(.int .i64 0),(.int .i64 0),(.int .i64 0)])),[],none⟩,⟨some 7,.mov,[.c (.bool false)],none⟩]
def Z113 : List Z2b := [
 ⟨some 8,(.fad 0),[.t 3],none⟩,⟨some 9,(.load false 1),[.t 8],none⟩]
def Z114 : List Z2b := [
 ⟨some 11,(.bin .eql),[.t 9,.c (.int .i64 10)],none⟩,⟨some 10,.mov,[.t 11],none⟩]
def Z115 : List Z2b := [
 ⟨some 2,.mov,[.c (.int .i64 0)],none⟩]
def Z116 : List Z2b := [
 ⟨some 13,(.bin .eql),[.t 9,.c (.int .i64 11)],none⟩,⟨some 12,.mov,[.t 13],none⟩]
def Z117 : List Z2b := [
 ⟨some 14,.mov,[.t 2],none⟩,⟨some 15,(.bin .rem),[.t 14,.c (.int .i64 2)],none⟩,⟨some 2,.mov,[.t 15],none⟩]
def Z118 : List Z2b := [
 ⟨some 17,(.bin .eql),[.t 9,.c (.int .i64 13)],none⟩,⟨some 16,.mov,[.t 17],none⟩]
def Z119 : List Z2b := [
 ⟨some 18,(.fad 1),[.t 4],none⟩,⟨some 19,(.load false 1),[.t 18],none⟩,⟨some 20,(.bin .lss),[.t 19,.c (.int .i64 0)],none⟩,⟨some 21,.mov,[.t 20],none⟩,⟨some 22,(.fad 1),[.t 4],some (21,false)⟩,⟨some 23,(.load false 1),[.t 22],some (21,false)⟩,⟨some 24,(.fad 2),[.t 3],some (21,false)⟩,⟨some 25,(.load false 1),[.t 24],some (21,false)⟩,⟨some 26,.lens,[.t 25],some (21,false)⟩,⟨some 27,(.bin .geq),[.t 23,.t 26],some (21,false)⟩,⟨some 28,.pick,[.t 21,.c (.bool true),.t 27],none⟩]
def Z11a : List Z2b := [
 ⟨some 29,(.bld [(.int .i64 0),(.slc 0 [] true),(.slc 0 [] true),(.int .i64 0),(.int .i64 0),(.int .i64 0)] []),[],none⟩,⟨none,(.store 6),[.t 6,.t 29],none⟩,⟨some 7,.mov,[.c (.bool false)],none⟩]
def Z11b : List Z2b := [
 ⟨some 30,(.fad 1),[.t 4],none⟩,⟨some 31,(.load false 1),[.t 30],none⟩,⟨some 2,.mov,[.t 31],none⟩]
def Z11c : List Z2b := [
 ⟨some 32,.mov,[.t 2],none⟩,⟨some 33,(.fad 2),[.t 3],none⟩,⟨some 34,(.load false 1),[.t 33],none⟩,⟨some 35,.lens,[.t 34],none⟩,⟨some 36,(.bin .geq),[.t 32,.t 35],none⟩]
def Z11d : List Z2b := [
 ⟨some 37,(.bld [(.int .i64 0),(.slc 0 [] true),(.slc 0 [] true),(.int .i64 0),(.int .i64 0),(.int .i64 0)] []),[],none⟩,⟨none,(.store 6),[.t 6,.t 37],none⟩,⟨some 7,.mov,[.c (.bool false)],none⟩]
def Z11e : List Z2b := [
 ⟨some 38,(.fad 2),[.t 3],none⟩,⟨some 39,(.load false 1),[.t 38],none⟩,⟨some 40,.mov,[.t 2],none⟩,⟨some 41,(.iad 6),[.t 39,.t 40],none⟩,⟨some 42,(.load true 6),[.t 41],none⟩,⟨none,(.store 6),[.t 6,.t 42],none⟩,⟨some 7,.mov,[.c (.bool true)],none⟩]
def Z11f : Z2z := ⟨43,(.seq (.region Z112 [2,3,4,6]) (.seq (.seq (.region Z113 [2,3,4,6,9]) (.block 0 (.seq (.region Z114 [2,3,4,6,9,10]) (.cond (.t 10) (.region Z115 [2,3,6]) (.seq (.region Z116 [2,3,4,6,9,12]) (.cond (.t 12) (.region Z117 [2,3,6]) (.seq (.region Z118 [2,3,4,6,16]) (.cond (.t 16) (.seq (.seq (.region Z119 [3,4,6,28]) (.cond (.t 28) (.seq (.region Z11a [6,7]) .ret) .skip)) (.region Z11b [2,3,6])) .skip)))))))) (.seq (.seq (.region Z11c [2,3,6,36]) (.cond (.t 36) (.seq (.region Z11d [6,7]) .ret) .skip)) (.seq (.region Z11e [6,7]) .ret)))),[.cell 6 true 6,.t 7]⟩
def Z11g : List Z2b := [
 ⟨some 4,.mov,[.c (.bool false)],none⟩]
def Z11h : List Z2b := [
 ⟨some 5,.mov,[.t 0],none⟩,⟨some 6,.mov,[.t 1],none⟩,⟨some 7,(.bin .sub),[.t 6,.c (.int .i64 1)],none⟩,⟨some 8,(.bin .shl),[.c (.int .i64 (-1)),.t 7],none⟩,⟨some 9,(.bin .geq),[.t 5,.t 8],none⟩,⟨some 10,.mov,[.t 9],none⟩,⟨some 11,.mov,[.t 0],some (10,true)⟩,⟨some 12,.mov,[.t 1],some (10,true)⟩,⟨some 13,(.bin .sub),[.t 12,.c (.int .i64 1)],some (10,true)⟩,⟨some 14,(.bin .shl),[.c (.int .i64 1),.t 13],some (10,true)⟩,⟨some 15,(.bin .sub),[.t 14,.c (.int .i64 1)],some (10,true)⟩,⟨some 16,(.bin .leq),[.t 11,.t 15],some (10,true)⟩,⟨some 17,.pick,[.t 10,.t 16,.c (.bool false)],none⟩,⟨some 4,.mov,[.t 17],none⟩]
def Z11i : Z2z := ⟨18,(.seq (.region Z11g [0,1]) (.seq (.region Z11h [4]) .ret)),[.t 4]⟩
def Z11j : List Z2b := [
 ⟨some 2,.mov,[.c (.int .i64 0)],none⟩]
def Z11k : List Z2b := [
 ⟨some 3,.mov,[.c (.int .i64 1)],none⟩]
def Z11l : List Z2b := [
 ⟨some 5,.mov,[.t 0],none⟩,⟨some 6,(.call Zfs),[.t 5],none⟩,⟨some 4,.mov,[.t 6],none⟩]
def Z11m : List Z2b := [
 ⟨some 8,.mov,[.t 4],none⟩,⟨some 9,(.bin .geq),[.t 8,.c (.int .u64 10000000000000000)],none⟩,⟨some 7,.mov,[.t 9],none⟩]
def Z11n : List Z2b := [
 ⟨some 11,.mov,[.t 4],none⟩,⟨some 12,(.bin .geq),[.t 11,.c (.int .u64 100000000)],none⟩,⟨some 10,.mov,[.t 12],none⟩]
def Z11o : List Z2b := [
 ⟨some 13,.mov,[.t 3],none⟩,⟨some 14,(.bin .add),[.t 13,.c (.int .i64 8)],none⟩,⟨some 3,.mov,[.t 14],none⟩]
def Z11p : List Z2b := [
 ⟨some 15,.mov,[.t 4],none⟩,⟨some 16,(.bin .quo),[.t 15,.c (.int .u64 100000000)],none⟩,⟨some 4,.mov,[.t 16],none⟩]
def Z11q : List Z2b := [
 ⟨some 17,.mov,[.t 3],none⟩,⟨some 18,(.bin .add),[.t 17,.c (.int .i64 8)],none⟩,⟨some 3,.mov,[.t 18],none⟩]
def Z11r : List Z2b := [
 ⟨some 19,.mov,[.t 4],none⟩,⟨some 20,(.bin .quo),[.t 19,.c (.int .u64 100000000)],none⟩,⟨some 4,.mov,[.t 20],none⟩]
def Z11s : List Z2b := [
 ⟨some 21,.mov,[.t 4],none⟩,⟨some 22,(.bin .geq),[.t 21,.c (.int .u64 10)],none⟩]
def Z11t : List Z2b := [
 ⟨some 23,.mov,[.t 3],none⟩,⟨some 24,(.bin .add),[.t 23,.c (.int .i64 1)],none⟩,⟨some 3,.mov,[.t 24],none⟩]
def Z11u : List Z2b := [
 ⟨some 25,.mov,[.t 4],none⟩,⟨some 26,(.bin .quo),[.t 25,.c (.int .u64 10)],none⟩,⟨some 4,.mov,[.t 26],none⟩]
def Z11v : Z2c := (.seq (.seq (.region Z11s [3,4,22]) (.cond (.t 22) .skip (.exit 4))) (.block 5 (.seq (.region Z11t [3,4]) (.region Z11u [3,4]))))
def Z11w : List Z2b := [
 ⟨some 27,.mov,[.t 3],none⟩,⟨some 2,.mov,[.t 27],none⟩]
def Z11x : Z2z := ⟨28,(.seq (.region Z11j [0]) (.seq (.region Z11k [0,3]) (.seq (.seq (.region Z11l [3,4]) (.block 0 (.seq (.block 3 (.seq (.block 2 (.seq (.block 1 (.seq (.seq (.seq (.region Z11m [3,4,7]) (.cond (.t 7) (.exit 1) .skip)) (.seq (.region Z11n [3,4,10]) (.cond (.t 10) (.exit 2) .skip))) (.exit 3))) (.seq (.region Z11o [3,4]) (.region Z11p [3,4])))) (.seq (.region Z11q [3,4]) (.region Z11r [3,4])))) (.seq (.block 4 (.loop Z11v)) (.exit 0))))) (.seq (.region Z11w [2]) .ret)))),[.t 2]⟩
def Z11y : List Z2b := [
 ⟨some 4,.mov,[.c (.bool false)],none⟩]
def Z11z : List Z2b := [
 ⟨some 5,.mov,[.t 0],none⟩,⟨some 6,(.bin .geq),[.t 5,.c (.int .i64 (-1099511627776))],none⟩,⟨some 7,.mov,[.t 6],none⟩,⟨some 8,.mov,[.t 0],some (7,true)⟩,⟨some 9,(.bin .leq),[.t 8,.c (.int .i64 1099511627776)],some (7,true)⟩,⟨some 10,.pick,[.t 7,.t 9,.c (.bool false)],none⟩,⟨some 11,.mov,[.t 10],none⟩,⟨some 12,.mov,[.t 1],some (11,true)⟩,⟨some 13,(.bin .geq),[.t 12,.c (.int .i64 0)],some (11,true)⟩,⟨some 14,.pick,[.t 11,.t 13,.c (.bool false)],none⟩,⟨some 15,.mov,[.t 14],none⟩,⟨some 16,.mov,[.t 1],some (15,true)⟩,⟨some 17,(.bin .leq),[.t 16,.c (.int .i64 999999999)],some (15,true)⟩,⟨some 18,.pick,[.t 15,.t 17,.c (.bool false)],none⟩,⟨some 4,.mov,[.t 18],none⟩]
def Z120 : Z2z := ⟨19,(.seq (.region Z11y [0,1]) (.seq (.region Z11z [4]) .ret)),[.t 4]⟩
def Z121 : List Z2b := [
 ⟨some 2,.mov,[.c (.int .i64 0)],none⟩]
def Z122 : List Z2b := [
 ⟨some 3,.mov,[.c (.int .i64 0)],none⟩]
def Z123 : List Z2b := [
 ⟨some 6,.mov,[.t 0],none⟩,⟨some 7,.lens,[.t 6],none⟩,⟨some 8,.mov,[.c (.int .i64 0)],none⟩]
def Z124 : List Z2b := [
 ⟨some 9,(.bin .lss),[.t 8,.t 7],none⟩]
def Z125 : List Z2b := [
 ⟨some 10,(.iad 1),[.t 6,.t 8],none⟩,⟨some 11,(.load false 1),[.t 10],none⟩,⟨some 5,.mov,[.t 11],none⟩]
def Z126 : List Z2b := [
 ⟨some 12,.mov,[.t 5],none⟩,⟨some 13,(.bin .shr),[.t 12,.c (.int .u64 6)],none⟩,⟨some 14,(.bin .neq),[.t 13,.c (.int .u8 2)],none⟩]
def Z127 : List Z2b := [
 ⟨some 15,.mov,[.t 3],none⟩,⟨some 16,(.bin .add),[.t 15,.c (.int .i64 1)],none⟩,⟨some 3,.mov,[.t 16],none⟩]
def Z128 : List Z2b := [
 ⟨some 17,(.bin .add),[.t 8,.c (.int .i64 1)],none⟩,⟨some 8,.mov,[.t 17],none⟩]
def Z129 : Z2c := (.seq (.region Z124 [3,6,7,8,9]) (.seq (.cond (.t 9) .skip (.exit 0)) (.seq (.block 1 (.seq (.region Z125 [3,5,6,7,8]) (.seq (.region Z126 [3,6,7,8,14]) (.cond (.t 14) (.region Z127 [3,6,7,8]) .skip)))) (.region Z128 [3,6,7,8]))))
def Z12a : List Z2b := [
 ⟨some 18,.mov,[.t 3],none⟩,⟨some 2,.mov,[.t 18],none⟩]
def Z12b : Z2z := ⟨19,(.seq (.region Z121 [0]) (.seq (.region Z122 [0,3]) (.seq (.seq (.region Z123 [3,6,7,8]) (.block 0 (.loop Z129))) (.seq (.region Z12a [2]) .ret)))),[.t 2]⟩
def Z12c : List Z2b := [
 ⟨some 2,.mov,[.c (.int .u64 0)],none⟩]
def Z12d : List Z2b := [
 ⟨some 3,.mov,[.t 0],none⟩,⟨some 4,(.bin .lss),[.t 3,.c (.int .i64 0)],none⟩]
def Z12e : List Z2b := [
 ⟨some 5,.mov,[.t 0],none⟩,⟨some 6,(.conv .u64),[.t 5],none⟩,⟨some 7,.uneg,[.t 6],none⟩,⟨some 2,.mov,[.t 7],none⟩]
def Z12f : List Z2b := [
 ⟨some 8,.mov,[.t 0],none⟩,⟨some 9,(.conv .u64),[.t 8],none⟩,⟨some 2,.mov,[.t 9],none⟩]
def Z12g : Z2z := ⟨10,(.seq (.region Z12c [0]) (.seq (.seq (.region Z12d [0,4]) (.cond (.t 4) (.seq (.region Z12e [2]) .ret) .skip)) (.seq (.region Z12f [2]) .ret))),[.t 2]⟩
end Go.Abs
namespace Go.Abs
open Go Go.Proofs
theorem Z12h : Z30 Try.prog [] Zcx = some Zya.erase := by kernel_rfl
theorem Z12i : Z30 Try.prog [] Ze8 = some Zyx.erase := by kernel_rfl
theorem Z12j : Z30 Try.prog [] Ze3 = some Zzk.erase := by kernel_rfl
theorem Z12k : Z30 Try.prog [] Zf2 = some Zzp.erase := by kernel_rfl
theorem Z12l : Z30 Try.prog [(14, 2)] Zf3 = some Z10a.erase := by kernel_rfl
theorem Z12m : Z30 Try.prog [(6, 2)] Zf4 = some Z10l.erase := by kernel_rfl
theorem Z12n : Z30 Try.prog [] Zf5 = some Z111.erase := by kernel_rfl
theorem Z12o : Z30 Try.prog [] Zf6 = some Z11f.erase := by kernel_rfl
theorem Z12p : Z30 Try.prog [] Zfl = some Z11i.erase := by kernel_rfl
theorem Z12q : Z30 Try.prog [] Zfm = some Z11x.erase := by kernel_rfl
theorem Z12r : Z30 Try.prog [] Zfn = some Z120.erase := by kernel_rfl
theorem Z12s : Z30 Try.prog [] Zfo = some Z12b.erase := by kernel_rfl
theorem Z12t : Z30 Try.prog [] Zfs = some Z12g.erase := by kernel_rfl
end Go.Abs
namespace Go.Abs
open Go Go.Proofs
attribute [local irreducible] AWp aops KP
theorem Z12u (k j : Int) (nd : List Z0) (hnd : nd.length = 6) (hk : nd[0]? = some (.int .i64 k)) (h1 : ∀ c ∈ nd, c.one = true) (c : Col) (hl : c.Sm) (hp : ∀ v ∈ c.lens, 0 ≤ v) (σ : Zc) : Z1s Try.prog Ze8 [.agg nd, Kc c, .int .i64 j] σ fun r σ' => r = .int .i64 (askF k c j : Nat) ∧ σ' = σ := by
 obtain ⟨l1, l2, l3, l4, l5⟩ := hl
 have hml : (c.lens.map (Z0.int .i64)).length = c.lens.length := List.length_map ..
 have hmi : (c.ints.map (Z0.int .i64)).length = c.ints.length := List.length_map ..
 match nd, hnd with
 | [n0, n1, n2, n3, n4, n5], _ =>
 simp only [List.getElem?_cons_zero, Option.some.injEq] at hk
 subst hk
 refine Z94 rfl Z12i (Nat.le_of_ble_eq_true rfl) ?_
 refine Za1 ?_
 refine Z9n rfl ⟨rfl, h1⟩ fun b3 hb3 => ?_
 refine Z9n rfl (Kfi rfl) fun b4 hb4 => ?_
 repeat refine Kq rfl rfl rfl ?_
 (refine Z99 ?_; (repeat(first|refine Z9x rfl ?_|refine Z9y ?_)); refine Z9w ?_)
 refine Zaj (d := 4) (cs := Zrl c) rfl ?_
 refine Zaj (d := 3) (cs := [.int .i64 k, n1, n2, n3, n4, n5]) rfl ?_
 (repeat(first|refine Kq rfl rfl rfl ?_|refine Ks ?_|refine Zb1 (fun _ _ => rfl) ?_))
 refine Z9v rfl (Zxq c (by omega) _) ?_
 have lens : k = 10 ∨ k = 11 → AWp Try.prog Zyx.n (.loop Zyn) (Z8r 1 (Z8r 0 (Z8p Try.prog Zyx.n ((Z2c.region Zyw [6]).seq Z2c.ret) (ARet Zyx.res fun r σ' => r = .int .i64 (askF k c j : Nat) ∧ σ' = σ))))
   (fset 4 (some (.iptr (Zrl c))) (fset 7 (some (.int .i64 0)) (fset 8 (some (.int .i64 0)) Z28))) σ := by
  intro hk
  rw [askF, if_pos hk]
  refine Za6 (fun m F σ' => ∃ i out : Nat, F = fset 4 (some (.iptr (Zrl c))) (fset 7 (some (.int .i64 (out : Nat))) (fset 8 (some (.int .i64 i)) Z28)) ∧ σ = σ' ∧ i ≤ c.lens.length ∧ out ≤ 16384 ∧ sumL (c.lens.drop i) out = sumL c.lens 0 ∧ m = c.lens.length - i) (n := c.lens.length)
   ⟨0, 0, rfl, rfl, by omega, by omega, rfl, by omega⟩ ?_
  rintro m F σ' ⟨i, out, rfl, rfl, hi, ho, hs, rfl⟩
  (repeat(first|refine Kq rfl rfl rfl ?_|(refine Z99 ?_; (repeat(first|refine Z9x rfl ?_|refine Z9y ?_)); refine Z9w ?_)|refine Ks ?_|refine Zb1 (fun _ _ => rfl) ?_))
  rw [hml]
  refine Za2 (p := (i : Int) < (c.lens.length : Nat)) rfl (fun h3 => ?_) (fun h3 => ?_)
  ·have hil : i < c.lens.length := by omega
   have hx := Zrn (f := Z0.int .i64) hil
   have hv := hp _ (List.getElem_mem hil)
   rw [List.drop_eq_getElem_cons hil, sumL] at hs
   generalize c.lens[i] = v at hx hs hv
   (repeat(first|refine Kq rfl rfl rfl ?_|refine Ks ?_|refine Zb1 (fun _ _ => rfl) ?_|refine Z8s ?_|refine Zb2 (fun _ _ => rfl) ?_))
   refine Z9d rfl (by omega) hx ?_
   (repeat(first|refine Kq rfl rfl rfl ?_|(refine Z99 ?_; (repeat(first|refine Z9x rfl ?_|refine Z9y ?_)); refine Z9w ?_)))
   rw [show IntKind.wrap .i64 ((16384 : Int) - (out : Int)) = (16384 : Int) - (out : Int) from w64 _ (by omega) (by omega)]
   by_cases hv2 : v > 16384 - (out : Int)
   ·rw [if_pos (.inr hv2)] at hs
    rw [← hs]
    (rw [decide_eq_true (p := 16384 - (out : Int) < v) (by omega)])
    (repeat(first|refine Kq rfl rfl rfl ?_|(refine Z99 ?_; (repeat(first|refine Z9x rfl ?_|refine Z9y ?_)); refine Z9w ?_)|refine Ks ?_|refine Zb1 (fun _ _ => rfl) ?_|refine Kc1 rfl ?_))
    refine Z8o ?_
    exact Kar rfl ⟨rfl, rfl⟩
   ·rw [if_neg (by omega)] at hs
    (rw [decide_eq_false (p := 16384 - (out : Int) < v) (by omega)])
    (repeat(first|refine Kq rfl rfl rfl ?_|refine Zb1 (fun _ _ => rfl) ?_|refine Zb2 (fun _ _ => rfl) ?_|refine Kc2 rfl ?_))
    refine Z9d rfl (by omega) hx ?_
    (repeat(first|refine Kq rfl rfl rfl ?_|(refine Z99 ?_; (repeat(first|refine Z9x rfl ?_|refine Z9y ?_)); refine Z9w ?_)))
    rw [show IntKind.wrap .i64 ((out : Int) + v) = ((out + v.toNat : Nat) : Int) by rw [w64 _ (by omega) (by omega)]; omega]
    skip
    refine Zb4 ?_
    repeat refine Kq rfl rfl rfl ?_
    rw [Kwr i (by omega)]
    (refine Z99 ?_; (repeat(first|refine Z9x rfl ?_|refine Z9y ?_)); refine Z9w ?_)
    exact ⟨_, c.lens.length - (i + 1), HSub.refl _, ⟨i + 1, out + v.toNat, rfl, rfl, by omega, by omega, hs, rfl⟩, by omega⟩
  ·rw [List.drop_of_length_le (by omega), sumL] at hs
   rw [← hs]
   (repeat(first|refine Kq rfl rfl rfl ?_|(refine Z99 ?_; (repeat(first|refine Z9x rfl ?_|refine Z9y ?_)); refine Z9w ?_)|refine Ks ?_|refine Zb1 (fun _ _ => rfl) ?_|refine Zb3 (fun _ _ => rfl) ?_))
   refine Z8o ?_
   exact Kar rfl ⟨rfl, rfl⟩
 by_cases k10 : k = 10
 ·(repeat(first|refine Kq rfl rfl rfl ?_|(refine Z99 ?_; (repeat(first|refine Z9x rfl ?_|refine Z9y ?_)); refine Z9w ?_)|refine Ks ?_|refine Zb1 (fun _ _ => rfl) ?_|refine Z8s ?_))
  (rw [decide_eq_true (p := k = 10) (by omega)])
  (repeat(first|refine Kq rfl rfl rfl ?_|(refine Z99 ?_; (repeat(first|refine Z9x rfl ?_|refine Z9y ?_)); refine Z9w ?_)|refine Ks ?_|refine Zb1 (fun _ _ => rfl) ?_|refine Z8s ?_|refine Zb2 (fun _ _ => rfl) ?_|refine Kc1 rfl ?_))
  exact lens (.inl k10)
 by_cases k11 : k = 11
 ·(repeat(first|refine Kq rfl rfl rfl ?_|(refine Z99 ?_; (repeat(first|refine Z9x rfl ?_|refine Z9y ?_)); refine Z9w ?_)|refine Ks ?_|refine Zb1 (fun _ _ => rfl) ?_|refine Z8s ?_))
  (rw [decide_eq_false (p := k = 10) (by omega)])
  (repeat(first|refine Kq rfl rfl rfl ?_|(refine Z99 ?_; (repeat(first|refine Z9x rfl ?_|refine Z9y ?_)); refine Z9w ?_)|refine Zb1 (fun _ _ => rfl) ?_|refine Kc2 rfl ?_))
  (rw [decide_eq_true (p := k = 11) (by omega)])
  (repeat(first|refine Kq rfl rfl rfl ?_|(refine Z99 ?_; (repeat(first|refine Z9x rfl ?_|refine Z9y ?_)); refine Z9w ?_)|refine Ks ?_|refine Zb1 (fun _ _ => rfl) ?_|refine Z8s ?_|refine Kc1 rfl ?_))
  exact lens (.inr k11)
 rw [askF, if_neg (by omega)]
 (repeat(first|refine Kq rfl rfl rfl ?_|(refine Z99 ?_; (repeat(first|refine Z9x rfl ?_|refine Z9y ?_)); refine Z9w ?_)|refine Ks ?_|refine Zb1 (fun _ _ => rfl) ?_|refine Z8s ?_))
 (rw [decide_eq_false (p := k = 10) (by omega)])
 (repeat(first|refine Kq rfl rfl rfl ?_|(refine Z99 ?_; (repeat(first|refine Z9x rfl ?_|refine Z9y ?_)); refine Z9w ?_)|refine Zb1 (fun _ _ => rfl) ?_|refine Kc2 rfl ?_))
 (rw [decide_eq_false (p := k = 11) (by omega)])
 (repeat(first|refine Kq rfl rfl rfl ?_|(refine Z99 ?_; (repeat(first|refine Z9x rfl ?_|refine Z9y ?_)); refine Z9w ?_)|refine Ks ?_|refine Zb1 (fun _ _ => rfl) ?_|refine Kc2 rfl ?_))
 by_cases k13 : k = 13
 ·rw [if_pos k13]
  (rw [decide_eq_true (p := k = 13) (by omega)])
  (repeat(first|refine Kq rfl rfl rfl ?_|(refine Z99 ?_; (repeat(first|refine Z9x rfl ?_|refine Z9y ?_)); refine Z9w ?_)|refine Ks ?_|refine Zb1 (fun _ _ => rfl) ?_|refine Z8s ?_|refine Kc1 rfl ?_))
  refine Za6 (fun m F σ' => ∃ i : Nat, F = fset 2 (some (.int .i64 j)) (fset 4 (some (.iptr (Zrl c))) (fset 7 (some (.int .i64 ((c.ints.take i).count j : Nat))) (fset 9 (some (.int .i64 i)) Z28))) ∧ σ = σ' ∧ i ≤ c.ints.length ∧ m = c.ints.length - i) (n := c.ints.length)
   ⟨0, rfl, rfl, by omega, by omega⟩ ?_
  rintro m F σ' ⟨i, rfl, rfl, hi, rfl⟩
  (repeat(first|refine Kq rfl rfl rfl ?_|(refine Z99 ?_; (repeat(first|refine Z9x rfl ?_|refine Z9y ?_)); refine Z9w ?_)|refine Ks ?_|refine Zb1 (fun _ _ => rfl) ?_))
  rw [hmi]
  refine Za2 (p := (i : Int) < (c.ints.length : Nat)) rfl (fun h3 => ?_) (fun h3 => ?_)
  ·have hil : i < c.ints.length := by omega
   have hx := Zrn (f := Z0.int .i64) hil
   have hct := Zxr j hil
   have hle : (c.ints.take i).count j ≤ i := Nat.le_trans List.count_le_length (by rw [List.length_take]; omega)
   generalize c.ints[i] = y at hx hct
   generalize (c.ints.take i).count j = n0 at hct hle
   (repeat(first|refine Kq rfl rfl rfl ?_|refine Ks ?_|refine Zb1 (fun _ _ => rfl) ?_|refine Z8s ?_|refine Zb2 (fun _ _ => rfl) ?_))
   refine Z9d rfl (by omega) hx ?_
   (repeat(first|refine Kq rfl rfl rfl ?_|(refine Z99 ?_; (repeat(first|refine Z9x rfl ?_|refine Z9y ?_)); refine Z9w ?_)))
   refine Za2 (p := y = j) rfl (fun h4 => ?_) (fun h4 => ?_)
   ·rw [if_pos h4] at hct
    (repeat(first|refine Kq rfl rfl rfl ?_|(refine Z99 ?_; (repeat(first|refine Z9x rfl ?_|refine Z9y ?_)); refine Z9w ?_)|refine Zb1 (fun _ _ => rfl) ?_))
    rw [Kwr n0 (by omega)]
    skip
    refine Zb4 ?_
    repeat refine Kq rfl rfl rfl ?_
    rw [Kwr i (by omega)]
    (refine Z99 ?_; (repeat(first|refine Z9x rfl ?_|refine Z9y ?_)); refine Z9w ?_)
    exact ⟨_, c.ints.length - (i + 1), HSub.refl _, ⟨i + 1, by rw [hct], rfl, by omega, rfl⟩, by omega⟩
   ·rw [if_neg h4] at hct
    (repeat refine Zb2 (fun _ _ => rfl) ?_)
    refine Zb4 ?_
    repeat refine Kq rfl rfl rfl ?_
    rw [Kwr i (by omega)]
    (refine Z99 ?_; (repeat(first|refine Z9x rfl ?_|refine Z9y ?_)); refine Z9w ?_)
    exact ⟨_, c.ints.length - (i + 1), HSub.refl _, ⟨i + 1, by rw [hct]; rfl, rfl, by omega, rfl⟩, by omega⟩
  ·have e : c.ints.take i = c.ints := List.take_of_length_le (by omega)
   rw [e]
   (repeat(first|refine Kq rfl rfl rfl ?_|(refine Z99 ?_; (repeat(first|refine Z9x rfl ?_|refine Z9y ?_)); refine Z9w ?_)|refine Ks ?_|refine Zb1 (fun _ _ => rfl) ?_|refine Zb3 (fun _ _ => rfl) ?_))
   refine Z8o ?_
   exact Kar rfl ⟨rfl, rfl⟩
 ·rw [if_neg k13]
  (rw [decide_eq_false (p := k = 13) (by omega)])
  (repeat(first|refine Kq rfl rfl rfl ?_|(refine Z99 ?_; (repeat(first|refine Z9x rfl ?_|refine Z9y ?_)); refine Z9w ?_)|refine Ks ?_|refine Zb1 (fun _ _ => rfl) ?_|refine Zb2 (fun _ _ => rfl) ?_|refine Kc2 rfl ?_))
  refine Z8o ?_
  exact Kar rfl ⟨rfl, rfl⟩
def cRow (k : Int) (c : Col) : List Nat → Nat → List Int → List Int
 | [], _, out => out
 | to :: ks, j, out => cRow k c ks (j + 1) (out.set to (askF k c j : Nat))
def cAll : List Nd → List Col → List Int → List Int
 | n :: l, c :: cs, out => cAll l cs (cRow n.t.kind c n.kids 0 out)
 | _, _, out => out
def Z12v (l : List Nd) (cols : List Col) (n : Int) : List Int := cAll l cols ((List.replicate l.length 0).set 0 n)
theorem Z12w (k : Int) (c : Col) : ∀ (ks : List Nat) (j : Nat) (out : List Int), (cRow k c ks j out).length = out.length
 | [], _, _ => rfl
 | to :: ks, j, out => by rw [cRow, Z12w k c ks, List.length_set]
structure Z12x (l : List Nd) : Prop where
 len : l.length ≤ 1000
 num : ∀ n ∈ l, n.kids.length ≤ 1000
 lt : ∀ n ∈ l, ∀ x ∈ n.kids, x < l.length
theorem Z12y (l : List Nd) (hK : Z12x l) (h0 : 0 < l.length) (cols : List Col) (hc : cols.length = l.length) (hS : ∀ c ∈ cols, c.Sm) (n : Int) (f g : Bool) (σ : Zc) :
  Z1s Try.prog Zcx [.slc 8 (l.map encN) f, .slc 5 (cols.map Kc) g, .int .i64 n] σ fun r σ' => r = .slc 1 ((Z12v l cols n).map (.int .i64)) false ∧ σ' = σ := by
 obtain ⟨hl1, hk1, hk2⟩ := hK
 have hll : (l.map encN).length = l.length := List.length_map ..
 have hcl : (cols.map Kc).length = cols.length := List.length_map ..
 refine Z94 rfl Z12h (Nat.le_of_ble_eq_true rfl) ?_
 (repeat(first|refine Kq rfl rfl rfl ?_|(refine Z99 ?_; (repeat(first|refine Z9x rfl ?_|refine Z9y ?_)); refine Z9w ?_)|refine Ks ?_|refine Zb1 (fun _ _ => rfl) ?_))
 rw [hll]
 refine Z9p rfl (Kfi rfl) (by omega) (by omega) (by omega) (by omega) fun b hb => ?_
 (repeat(first|refine Kq rfl rfl rfl ?_|(refine Z99 ?_; (repeat(first|refine Z9x rfl ?_|refine Z9y ?_)); refine Z9w ?_)|refine Ks ?_|refine Zb1 (fun _ _ => rfl) ?_))
 rw [hll]
 (rw [decide_eq_true (p := (0 : Int) < (l.length : Int)) (by omega)])
 (repeat(first|refine Kq rfl rfl rfl ?_|refine Zb1 (fun _ _ => rfl) ?_|refine Kc1 rfl ?_))
 have hr0 : (List.replicate ((l.length : Nat) : Int).toNat (Z0.int .i64 0)) = (List.replicate l.length (0 : Int)).map (.int .i64) := by rw [List.map_replicate, Int.toNat_natCast]
 rw [hr0]
 refine Z9e rfl ⟨by omega, by omega⟩ ?_
 have hx0 : ((List.replicate l.length (0 : Int)).map (Z0.int .i64))[0 + (0 : Int).toNat]? = some (.int .i64 0) := by
  rw [List.getElem?_map, List.getElem?_replicate, if_pos (by simpa using h0)]; rfl
 refine Z9g rfl Z9a hx0 (by decide) (Kfi rfl) (fun _ => ⟨rfl, rfl⟩) Z9h ?_
 (refine Z99 ?_; (repeat(first|refine Z9x rfl ?_|refine Z9y ?_)); refine Z9w ?_)
 have e0 : ((List.replicate l.length (0 : Int)).map (Z0.int .i64)).set (0 + (0 : Int).toNat) (Z1t (.int .i64 0) 0 (Z0.int .i64 n).cells) = ((List.replicate l.length 0).set 0 n).map (.int .i64) := by rw [List.map_set]; rfl
 rw [e0]
 have hlen0 : ((List.replicate l.length (0 : Int)).set 0 n).length = l.length := by rw [List.length_set, List.length_replicate]
 have hX : cAll l cols ((List.replicate l.length 0).set 0 n) = Z12v l cols n := rfl
 generalize (List.replicate l.length (0 : Int)).set 0 n = out0 at hlen0 hX ⊢
 generalize Z12v l cols n = X at hX ⊢
 (repeat(first|refine Kq rfl rfl rfl ?_|(refine Z99 ?_; (repeat(first|refine Z9x rfl ?_|refine Z9y ?_)); refine Z9w ?_)|refine Ks ?_|refine Zb1 (fun _ _ => rfl) ?_|refine Z8s ?_))
 rw [hll, hcl, hc, if_neg (by omega), Int.toNat_natCast]
 refine Za6 (fun m F σ' => ∃ (i : Nat) (xs : List Int), F = fset 0 (some (.slc 8 (l.map encN) f)) (fset 1 (some (.slc 5 (cols.map Kc) g)) (fset 7 (some (.arr 1 b 0 l.length)) (fset 24 (some (.int .i64 (l.length : Nat))) (fset 25 (some (.int .i64 i)) Z28)))) ∧
  (b, Zb.cells 1 (xs.map (.int .i64))) :: σ = σ' ∧ i ≤ l.length ∧ xs.length = l.length ∧ cAll (l.drop i) (cols.drop i) xs = X ∧ m = l.length - i) (n := l.length)
  ⟨0, out0, rfl, rfl, by omega, hlen0, hX, by omega⟩ ?_
 rintro m F σ' ⟨i, xs, rfl, rfl, hi, hxl, hXi, rfl⟩
 (repeat(first|refine Kq rfl rfl rfl ?_|(refine Z99 ?_; (repeat(first|refine Z9x rfl ?_|refine Z9y ?_)); refine Z9w ?_)|refine Ks ?_|refine Zb1 (fun _ _ => rfl) ?_))
 refine Za2 (p := (i : Int) < (l.length : Nat)) rfl (fun h3 => ?_) (fun h3 => ?_)
 ·have hil : i < l.length := by omega
  have hic : i < cols.length := by omega
  have hgN := Zrn (f := encN) hil
  have hgC := Zrn (f := Kc) hic
  have hkl := hk1 _ (List.getElem_mem hil)
  have hkx := hk2 _ (List.getElem_mem hil)
  have hSm := hS _ (List.getElem_mem hic)
  rw [List.drop_eq_getElem_cons hil, List.drop_eq_getElem_cons hic, cAll] at hXi
  generalize l[i] = nd at hgN hkl hkx hXi
  generalize cols[i] = c at hgC hSm hXi
  have hkn : (ints nd.kids).length = nd.kids.length := List.length_map ..
  have hAs := fun j σ => Zxs nd.t.kind j (Zmd nd) rfl rfl (Zxk nd) c hSm σ
  generalize hY : cRow nd.t.kind c nd.kids 0 xs = Y at hXi
  have hYl : Y.length = l.length := by rw [← hY, Z12w, hxl]
  (repeat(first|refine Kq rfl rfl rfl ?_|(refine Z99 ?_; (repeat(first|refine Z9x rfl ?_|refine Z9y ?_)); refine Z9w ?_)|refine Ks ?_|refine Zb1 (fun _ _ => rfl) ?_|refine Z8s ?_|refine Zb2 (fun _ _ => rfl) ?_))
  refine Z9d rfl (by omega) hgN ?_
  rw [encN, Zmd] at hgN ⊢
  (repeat(first|refine Kq rfl rfl rfl ?_|(refine Z99 ?_; (repeat(first|refine Z9x rfl ?_|refine Z9y ?_)); refine Z9w ?_)|refine Z8s ?_))
  rw [hkn]
  refine Za6 (fun m F σ' => ∃ (j : Nat) (zs : List Int), F = fset 0 (some (.slc 8 (l.map encN) f)) (fset 1 (some (.slc 5 (cols.map Kc) g)) (fset 7 (some (.arr 1 b 0 l.length)) (fset 8 (some (.int .i64 i)) (fset 24 (some (.int .i64 (l.length : Nat))) (fset 25 (some (.int .i64 i)) (fset 32 (some (.slc 1 (ints nd.kids) true)) (fset 33 (some (.int .i64 (nd.kids.length : Nat))) (fset 34 (some (.int .i64 j)) Z28)))))))) ∧
   (b, Zb.cells 1 (zs.map (.int .i64))) :: σ = σ' ∧ j ≤ nd.kids.length ∧ zs.length = l.length ∧ cRow nd.t.kind c (nd.kids.drop j) j zs = Y ∧ m = nd.kids.length - j) (n := nd.kids.length)
   ⟨0, xs, rfl, rfl, by omega, hxl, hY, by omega⟩ ?_
  rintro m F σ' ⟨j, zs, rfl, rfl, hj, hzl, hYj, rfl⟩
  (repeat(first|refine Kq rfl rfl rfl ?_|(refine Z99 ?_; (repeat(first|refine Z9x rfl ?_|refine Z9y ?_)); refine Z9w ?_)|refine Ks ?_|refine Zb1 (fun _ _ => rfl) ?_))
  refine Za2 (p := (j : Int) < (nd.kids.length : Nat)) rfl (fun h4 => ?_) (fun h4 => ?_)
  ·have hjl : j < nd.kids.length := by omega
   have hx : (ints nd.kids)[((j : Nat) : Int).toNat]? = some (.int .i64 ((nd.kids[j] : Nat) : Int)) := by rw [Int.toNat_natCast, ints, List.getElem?_map, List.getElem?_eq_getElem hjl]; rfl
   have hxlt := hkx _ (List.getElem_mem hjl)
   rw [List.drop_eq_getElem_cons hjl, cRow] at hYj
   generalize nd.kids[j] = x at hx hxlt hYj
   (repeat(first|refine Kq rfl rfl rfl ?_|refine Ks ?_|refine Zb1 (fun _ _ => rfl) ?_|refine Z8s ?_|refine Zb2 (fun _ _ => rfl) ?_))
   refine Z9d rfl (by omega) hx ?_
   (repeat(first|refine Kq rfl rfl rfl ?_|refine Z96 rfl (Kq rfl rfl rfl ?_)|(refine Z99 ?_; (repeat(first|refine Z9x rfl ?_|refine Z9y ?_)); refine Z9w ?_)|refine Ks ?_|refine Zb1 (fun _ _ => rfl) ?_))
   (rw [decide_eq_true (p := (x : Int) ≥ 0) (by omega)])
   skip
   (rw [decide_eq_true (p := (x : Int) < (l.length : Nat)) (by omega)])
   (repeat(first|refine Kq rfl rfl rfl ?_|refine Zb1 (fun _ _ => rfl) ?_|refine Kc1 rfl ?_))
   refine Z9d rfl (by omega) hgN ?_
   (repeat refine Kq rfl rfl rfl ?_)
   refine Z9d rfl (by omega) hgC ?_
   repeat refine Kq rfl rfl rfl ?_
   refine Z9v rfl (hAs _ _) ?_
   have hzx : (zs.map (Z0.int .i64))[0 + (x : Int).toNat]? = some (.int .i64 zs[x]) := by
    rw [Nat.zero_add, Int.toNat_natCast, List.getElem?_map, List.getElem?_eq_getElem (by omega)]; rfl
   refine Z9e rfl ⟨by omega, by omega⟩ ?_
   refine Z9g rfl Z9a hzx (by decide) (Kfi rfl) (fun _ => ⟨rfl, rfl⟩) Z9h ?_
   have e1 : (zs.map (Z0.int .i64)).set (0 + (x : Int).toNat) (Z1t (.int .i64 zs[x]) 0 (Z0.int .i64 (askF nd.t.kind c (j : Int) : Nat)).cells) = (zs.set x (askF nd.t.kind c (j : Int) : Nat)).map (.int .i64) := by rw [Nat.zero_add, Int.toNat_natCast, List.map_set]; rfl
   rw [e1]
   (refine Z99 ?_; (repeat(first|refine Z9x rfl ?_|refine Z9y ?_)); refine Z9w ?_)
   skip
   refine Zb4 ?_
   repeat refine Kq rfl rfl rfl ?_
   rw [Kwr j (by omega)]
   (refine Z99 ?_; (repeat(first|refine Z9x rfl ?_|refine Z9y ?_)); refine Z9w ?_)
   exact ⟨_, nd.kids.length - (j + 1), HSub.refl _, ⟨j + 1, _, rfl, rfl, by omega, by rw [List.length_set, hzl], hYj, rfl⟩, by omega⟩
  ·rw [List.drop_of_length_le (by omega), cRow] at hYj
   subst hYj
   (repeat refine Zb3 (fun _ _ => rfl) ?_)
   refine Zb4 ?_
   repeat refine Kq rfl rfl rfl ?_
   rw [Kwr i (by omega)]
   (refine Z99 ?_; (repeat(first|refine Z9x rfl ?_|refine Z9y ?_)); refine Z9w ?_)
   exact ⟨_, l.length - (i + 1), HSub.refl _, ⟨i + 1, _, rfl, rfl, by omega, hYl, hXi, rfl⟩, by omega⟩
 ·have e : cAll (l.drop i) (cols.drop i) xs = xs := by rw [List.drop_of_length_le (by omega)]; rfl
  rw [e] at hXi
  subst hXi
  refine Zb3 (fun _ _ => rfl) ?_
  refine Zai (d := 7) (xs := xs.map (.int .i64)) (by rw [List.length_map, hxl]; rfl) ?_
  (refine Za0 (keep := [7]) ?_; ((repeat(first|refine Z9x rfl ?_|refine Z9y ?_)); refine Z9w ?_))
  (repeat(first|refine Kq rfl rfl rfl ?_|(refine Z99 ?_; (repeat(first|refine Z9x rfl ?_|refine Z9y ?_)); refine Z9w ?_)|refine Ks ?_|refine Zb1 (fun _ _ => rfl) ?_))
  refine Z8o ?_
  exact Kar rfl ⟨rfl, rfl⟩
end Go.Abs
namespace Go.Abs
open Go Go.Proofs
attribute [local irreducible] AWp aops KP
theorem wu64 (n : Int) : IntKind.wrap .u64 n = n % 18446744073709551616 := by simp [IntKind.wrap, IntKind.bits, IntKind.signed]
theorem Z12z (i n : Int) (σ : Zc) : Z1s Try.prog Zfn [.int .i64 i, .int .i64 n] σ fun r σ' => r = .bool (Zmo i n) ∧ σ' = σ := by
 refine Z94 rfl Z12r (Nat.le_of_ble_eq_true rfl) ?_
 (repeat(first|refine Kq rfl rfl rfl ?_|(refine Z99 ?_; (repeat(first|refine Z9x rfl ?_|refine Z9y ?_)); refine Z9w ?_)|refine Ks ?_|refine Zb1 (fun _ _ => rfl) ?_))
 by_cases h1 : -1099511627776 ≤ i
 ·(rw [decide_eq_true (p := -1099511627776 ≤ i) (by omega)])
  (repeat(first|refine Kq rfl rfl rfl ?_|refine Z96 rfl (Kq rfl rfl rfl ?_)))
  by_cases h2 : i ≤ 1099511627776
  ·(rw [decide_eq_true (p := i ≤ 1099511627776) (by omega)])
   (repeat(first|refine Kq rfl rfl rfl ?_|refine Z96 rfl (Kq rfl rfl rfl ?_)))
   by_cases h3 : 0 ≤ n
   ·(rw [decide_eq_true (p := 0 ≤ n) (by omega)])
    (repeat(first|refine Kq rfl rfl rfl ?_|refine Z96 rfl (Kq rfl rfl rfl ?_)|(refine Z99 ?_; (repeat(first|refine Z9x rfl ?_|refine Z9y ?_)); refine Z9w ?_)))
    refine Z8o ?_
    refine ares rfl (HSub.refl _) ⟨?_, rfl⟩
    simp only [Zmo, Z8x]
    by_cases h4 : n < 1000000000
    ·simp [h1, h2, h3, h4] <;> omega
    ·simp [h1, h2, h3, h4] <;> omega
   ·(rw [decide_eq_false (p := 0 ≤ n) (by omega)])
    (repeat(first|refine Kq rfl rfl rfl ?_|refine Z97 rfl ?_|(refine Z99 ?_; (repeat(first|refine Z9x rfl ?_|refine Z9y ?_)); refine Z9w ?_)))
    refine Z8o ?_
    exact Kar rfl ⟨by simp [Zmo, Z8x, h3], rfl⟩
  ·(rw [decide_eq_false (p := i ≤ 1099511627776) (by omega)])
   (repeat(first|refine Kq rfl rfl rfl ?_|refine Z97 rfl ?_|(refine Z99 ?_; (repeat(first|refine Z9x rfl ?_|refine Z9y ?_)); refine Z9w ?_)))
   refine Z8o ?_
   exact Kar rfl ⟨by simp [Zmo, Z8x, h2], rfl⟩
 ·(rw [decide_eq_false (p := -1099511627776 ≤ i) (by omega)])
  (repeat(first|refine Kq rfl rfl rfl ?_|refine Z97 rfl ?_|(refine Z99 ?_; (repeat(first|refine Z9x rfl ?_|refine Z9y ?_)); refine Z9w ?_)))
  refine Z8o ?_
  exact Kar rfl ⟨by simp [Zmo, Z8x, h1], rfl⟩
theorem Z130 (i : Int) (h0 : -9223372036854775808 ≤ i) (h1 : i ≤ 9223372036854775807) (σ : Zc) : Z1s Try.prog Zfs [.int .i64 i] σ fun r σ' => r = .int .u64 (i.natAbs : Int) ∧ σ' = σ := by
 refine Z94 rfl Z12t (Nat.le_of_ble_eq_true rfl) ?_
 (repeat(first|refine Kq rfl rfl rfl ?_|(refine Z99 ?_; (repeat(first|refine Z9x rfl ?_|refine Z9y ?_)); refine Z9w ?_)|refine Ks ?_|refine Zb1 (fun _ _ => rfl) ?_))
 by_cases h : i < 0
 ·(rw [decide_eq_true (p := i < 0) (by omega)])
  (repeat(first|refine Kq rfl rfl rfl ?_|(refine Z99 ?_; (repeat(first|refine Z9x rfl ?_|refine Z9y ?_)); refine Z9w ?_)|refine Ks ?_|refine Zb1 (fun _ _ => rfl) ?_|refine Kc1 rfl ?_))
  rw [wu64 i, wu64]
  skip
  refine Z8o ?_
  exact Kar rfl ⟨by simp only [Z8x]; congr 1; omega, rfl⟩
 ·(rw [decide_eq_false (p := i < 0) (by omega)])
  (repeat(first|refine Kq rfl rfl rfl ?_|(refine Z99 ?_; (repeat(first|refine Z9x rfl ?_|refine Z9y ?_)); refine Z9w ?_)|refine Ks ?_|refine Zb1 (fun _ _ => rfl) ?_|refine Zb2 (fun _ _ => rfl) ?_|refine Kc2 rfl ?_))
  rw [wu64]
  skip
  refine Z8o ?_
  exact Kar rfl ⟨by simp only [Z8x]; congr 1; omega, rfl⟩
theorem digN10 {u : Nat} (h : 10 ≤ u) : digN u = digN (u / 10) + 1 := by rw [digN, dif_neg (by omega)]
theorem Z131 {u : Nat} (h : 100000000 ≤ u) : digN u = digN (u / 100000000) + 8 := by
 rw [digN10 (u := u) (by omega), digN10 (u := u / 10) (by omega), digN10 (u := u / 10 / 10) (by omega), digN10 (u := u / 10 / 10 / 10) (by omega), digN10 (u := u / 10 / 10 / 10 / 10) (by omega),
  digN10 (u := u / 10 / 10 / 10 / 10 / 10) (by omega), digN10 (u := u / 10 / 10 / 10 / 10 / 10 / 10) (by omega), digN10 (u := u / 10 / 10 / 10 / 10 / 10 / 10 / 10) (by omega)]
 have e : u / 10 / 10 / 10 / 10 / 10 / 10 / 10 / 10 = u / 100000000 := by omega
 rw [e]
theorem Z132 (i : Int) (h0 : -9223372036854775808 ≤ i) (h1 : i ≤ 9223372036854775807) (σ : Zc) : Z1s Try.prog Zfm [.int .i64 i] σ fun r σ' => r = .int .i64 (digN i.natAbs : Int) ∧ σ' = σ := by
 refine Z94 rfl Z12q (Nat.le_of_ble_eq_true rfl) ?_
 (repeat(first|refine Kq rfl rfl rfl ?_|(refine Z99 ?_; (repeat(first|refine Z9x rfl ?_|refine Z9y ?_)); refine Z9w ?_)|refine Ks ?_|refine Zb1 (fun _ _ => rfl) ?_))
 (first|refine Z9v rfl ((Z130 i h0 h1) _) ?_|refine Z96 rfl (Z9v rfl ((Z130 i h0 h1) _) ?_)|refine Zb9 rfl (Z130 i h0 h1) ?_|refine Z96 rfl (Zb9 rfl (Z130 i h0 h1) ?_))
 have hu : i.natAbs ≤ 9223372036854775808 := by omega
 generalize i.natAbs = u at hu
 have h20 := Zmt (u := u) (by omega)
 have div8 : ∀ x : Nat, x ≤ 9223372036854775808 → IntKind.wrap .u64 ((x : Int).tdiv 100000000) = ((x / 100000000 : Nat) : Int) := fun x hx => by
  rw [Int.tdiv_eq_ediv_of_nonneg (by omega), wu64]; omega
 have loop : ∀ (a v : Nat) (R : Z8i), v ≤ 9223372036854775808 → a + digN v = digN u + 1 → (∀ F τ, R .normal F τ = AWp Try.prog Z11x.n (.exit 0) (Z8r 0 (Z8p Try.prog Z11x.n (Z11x.code.snd 3) (ARet Z11x.res fun r σ' => r = .int .i64 (digN u : Int) ∧ σ' = σ))) F τ) →
   AWp Try.prog Z11x.n (.loop Z11v) (Z8r 4 R) (fset 3 (some (.int .i64 (a : Int))) (fset 4 (some (.int .u64 (v : Int))) Z28)) σ := by
  intro a v R hv hav hR
  refine Za6 (fun m F σ' => ∃ (a v : Nat), F = fset 3 (some (.int .i64 (a : Int))) (fset 4 (some (.int .u64 (v : Int))) Z28) ∧ σ = σ' ∧ v ≤ 9223372036854775808 ∧ a + digN v = digN u + 1 ∧ m = v) (n := v) ⟨a, v, rfl, rfl, hv, hav, rfl⟩ ?_
  rintro v F σ' ⟨a, m, rfl, rfl, hv, hav, rfl⟩
  (repeat(first|refine Kq rfl rfl rfl ?_|(refine Z99 ?_; (repeat(first|refine Z9x rfl ?_|refine Z9y ?_)); refine Z9w ?_)|refine Ks ?_|refine Zb1 (fun _ _ => rfl) ?_))
  refine Za2 (p := (10 : Int) ≤ (v : Int)) rfl (fun h3 => ?_) (fun h3 => ?_)
  ·rw [digN10 (by omega)] at hav
   refine Zb2 (fun _ _ => rfl) ?_
   (refine Za0 (keep := [3, 4]) ?_; ((repeat(first|refine Z9x rfl ?_|refine Z9y ?_)); refine Z9w ?_))
   refine Z8s ?_
   refine Ks ?_
   refine Zb1 (fun _ _ => rfl) ?_
   repeat refine Kq rfl rfl rfl ?_
   rw [Kwr a (by omega)]
   (refine Z99 ?_; (repeat(first|refine Z9x rfl ?_|refine Z9y ?_)); refine Z9w ?_)
   refine awp_region ?_
   repeat refine Kq rfl rfl rfl ?_
   rw [show IntKind.wrap .u64 ((v : Int).tdiv 10) = ((v / 10 : Nat) : Int) by rw [Int.tdiv_eq_ediv_of_nonneg (by omega), wu64]; omega]
   refine Z99 ?_
   refine Za7 (keep := [3, 4]) ?_
   ((repeat(first|refine Z9x rfl ?_|refine Z9y ?_)); refine Z9w ?_)
   exact ⟨_, v / 10, HSub.refl _, ⟨a + 1, v / 10, rfl, rfl, by omega, by omega, rfl⟩, by omega⟩
  ·have hd : digN v = 1 := by rw [digN, dif_pos (by omega)]
   have ha : a = digN u := by omega
   subst ha
   refine Z8n ?_
   show Z8r 4 R (.exit 4) _ _
   simp only [Z8r, if_true]
   rw [hR]
   (repeat(first|refine Kq rfl rfl rfl ?_|(refine Z99 ?_; (repeat(first|refine Z9x rfl ?_|refine Z9y ?_)); refine Z9w ?_)|refine Ks ?_|refine Zb1 (fun _ _ => rfl) ?_|refine Zb3 (fun _ _ => rfl) ?_))
   (refine Z8o ?_; exact Kar rfl ⟨rfl, rfl⟩)
 (repeat(first|refine Kq rfl rfl rfl ?_|(refine Z99 ?_; (repeat(first|refine Z9x rfl ?_|refine Z9y ?_)); refine Z9w ?_)|refine Ks ?_|refine Zb1 (fun _ _ => rfl) ?_|refine Z8s ?_))
 by_cases q1 : 10000000000000000 ≤ u
 ·(rw [decide_eq_true (p := (10000000000000000 : Int) ≤ (u : Int)) (by omega)])
  (repeat(first|refine Kq rfl rfl rfl ?_|(refine Z99 ?_; (repeat(first|refine Z9x rfl ?_|refine Z9y ?_)); refine Z9w ?_)|refine Ks ?_|refine Zb1 (fun _ _ => rfl) ?_|refine Z8s ?_|refine Zb3 (fun _ _ => rfl) ?_|refine Kc1 rfl ?_))
  rw [div8 u hu, div8 (u / 100000000) (by omega), show IntKind.wrap .i64 (IntKind.wrap .i64 (1 + 8) + 8) = ((17 : Nat) : Int) by decide]
  exact loop 17 (u / 100000000 / 100000000) _ (by omega) (by rw [Z131 (u := u) (by omega), Z131 (u := u / 100000000) (by omega)]; omega) (fun _ _ => rfl)
 ·(rw [decide_eq_false (p := (10000000000000000 : Int) ≤ (u : Int)) (by omega)])
  (repeat(first|refine Kq rfl rfl rfl ?_|(refine Z99 ?_; (repeat(first|refine Z9x rfl ?_|refine Z9y ?_)); refine Z9w ?_)|refine Ks ?_|refine Zb1 (fun _ _ => rfl) ?_|refine Zb2 (fun _ _ => rfl) ?_|refine Kc2 rfl ?_))
  by_cases q2 : 100000000 ≤ u
  ·(rw [decide_eq_true (p := (100000000 : Int) ≤ (u : Int)) (by omega)])
   (repeat(first|refine Kq rfl rfl rfl ?_|(refine Z99 ?_; (repeat(first|refine Z9x rfl ?_|refine Z9y ?_)); refine Z9w ?_)|refine Ks ?_|refine Zb1 (fun _ _ => rfl) ?_|refine Z8s ?_|refine Zb3 (fun _ _ => rfl) ?_|refine Kc1 rfl ?_))
   rw [div8 u hu, show IntKind.wrap .i64 (1 + 8) = ((9 : Nat) : Int) by decide]
   exact loop 9 (u / 100000000) _ (by omega) (by rw [Z131 (u := u) (by omega)]; omega) (fun _ _ => rfl)
  ·(rw [decide_eq_false (p := (100000000 : Int) ≤ (u : Int)) (by omega)])
   (repeat(first|refine Ks ?_|refine Z8s ?_|refine Zb2 (fun _ _ => rfl) ?_|refine Zb3 (fun _ _ => rfl) ?_|refine Kc2 rfl ?_))
   (refine Za0 (keep := [3, 4]) ?_; ((repeat(first|refine Z9x rfl ?_|refine Z9y ?_)); refine Z9w ?_))
   change AWp _ _ (.loop Z11v) _ (fset 3 (some (.int .i64 ((1 : Nat) : Int))) (fset 4 (some (.int .u64 (u : Int))) Z28)) _
   exact loop 1 u _ (by omega) (by omega) (fun _ _ => rfl)
theorem Z133 (b : List UInt8) (f : Bool) (hb : b.length ≤ 9223372036854775807) (σ : Zc) : Z1s Try.prog Zfo [.slc 1 (bytes b) f] σ fun r σ' => r = .int .i64 (Zmn b : Int) ∧ σ' = σ := by
 refine Z94 rfl Z12s (Nat.le_of_ble_eq_true rfl) ?_
 (repeat(first|refine Kq rfl rfl rfl ?_|(refine Z99 ?_; (repeat(first|refine Z9x rfl ?_|refine Z9y ?_)); refine Z9w ?_)|refine Ks ?_|refine Zb1 (fun _ _ => rfl) ?_|refine Z8s ?_))
 rw [Zac]
 refine Za6 (fun m F σ' => ∃ (i : Nat), F = fset 3 (some (.int .i64 (Zmn (b.take i) : Int))) (fset 6 (some (.slc 1 (bytes b) f)) (fset 7 (some (.int .i64 (b.length : Int))) (fset 8 (some (.int .i64 (i : Int))) Z28))) ∧ σ = σ' ∧ i ≤ b.length ∧ m = b.length - i) (n := b.length)
  ⟨0, rfl, rfl, by omega, rfl⟩ ?_
 rintro m F σ' ⟨i, rfl, rfl, hi, rfl⟩
 (repeat(first|refine Kq rfl rfl rfl ?_|(refine Z99 ?_; (repeat(first|refine Z9x rfl ?_|refine Z9y ?_)); refine Z9w ?_)|refine Ks ?_|refine Zb1 (fun _ _ => rfl) ?_))
 refine Za2 (p := (i : Int) < (b.length : Int)) rfl (fun h3 => ?_) (fun h3 => ?_)
 ·obtain ⟨c, hc⟩ : ∃ c, b[i]? = some c := ⟨_, List.getElem?_eq_getElem (by omega)⟩
  have hx : (bytes b)[(i : Int).toNat]? = some (Zx c) := by rw [Zad, Int.toNat_natCast, hc]; rfl
  have hst := Zmv hc
  have hsl := Zmu (b.take (i + 1))
  rw [List.length_take] at hsl
  (repeat(first|refine Ks ?_|refine Zb1 (fun _ _ => rfl) ?_|refine Z8s ?_|refine Zb2 (fun _ _ => rfl) ?_))
  refine Z9d rfl (by omega) hx ?_
  (repeat(first|refine Kq rfl rfl rfl ?_|(refine Z99 ?_; (repeat(first|refine Z9x rfl ?_|refine Z9y ?_)); refine Z9w ?_)|refine Ks ?_|refine Zb1 (fun _ _ => rfl) ?_))
  have e6 : Int.fdiv (c.toNat : Int) (2 ^ (Nat.min ((6 : Int).toNat) IntKind.u8.bits)) = ((c.toNat / 64 : Nat) : Int) := by
   show Int.fdiv (c.toNat : Int) 64 = _
   rw [Int.fdiv_eq_ediv_of_nonneg _ (by omega)]; omega
  rw [e6]
  have next : ∀ x : Int, x = (Zmn (b.take (i + 1)) : Int) → AWp Try.prog Z12b.n (.region Z128 [3, 6, 7, 8]) (Za5 (fun m F σ' => ∃ (i : Nat), F = fset 3 (some (.int .i64 (Zmn (b.take i) : Int))) (fset 6 (some (.slc 1 (bytes b) f)) (fset 7 (some (.int .i64 (b.length : Int))) (fset 8 (some (.int .i64 (i : Int))) Z28))) ∧ σ = σ' ∧ i ≤ b.length ∧ m = b.length - i) (b.length - i)
    (Z8r 0 (Z8p Try.prog Z12b.n (Z12b.code.snd 3) (ARet Z12b.res fun r σ' => r = .int .i64 (Zmn b : Int) ∧ σ' = σ))))
    (fset 3 (some (.int .i64 x)) (fset 6 (some (.slc 1 (bytes b) f)) (fset 7 (some (.int .i64 (b.length : Int))) (fset 8 (some (.int .i64 (i : Int))) Z28)))) σ := by
   rintro x rfl
   refine Zb4 ?_
   repeat refine Kq rfl rfl rfl ?_
   rw [Kwr i (by omega)]
   repeat refine Kq rfl rfl rfl ?_
   (refine Z99 ?_; (repeat(first|refine Z9x rfl ?_|refine Z9y ?_)); refine Z9w ?_)
   exact ⟨_, b.length - (i + 1), HSub.refl _, ⟨i + 1, rfl, rfl, by omega, rfl⟩, by omega⟩
  refine Za2 (p := ((c.toNat / 64 : Nat) : Int) ≠ 2) rfl (fun h4 => ?_) (fun h4 => ?_)
  ·refine Zb1 (fun _ _ => rfl) ?_
   repeat refine Kq rfl rfl rfl ?_
   (refine Z99 ?_; (repeat(first|refine Z9x rfl ?_|refine Z9y ?_)); refine Z9w ?_)
   refine next _ ?_
   rw [hst, if_pos (by omega)]
   rw [hst, if_pos (by omega)] at hsl
   rw [w64 _ (by omega) (by omega)]; rfl
  ·refine Zb2 (fun _ _ => rfl) ?_
   (refine Za0 (keep := [3, 6, 7, 8]) ?_; ((repeat(first|refine Z9x rfl ?_|refine Z9y ?_)); refine Z9w ?_))
   refine next _ ?_
   rw [hst, if_neg (by omega)]; rfl
 ·(repeat(first|refine Kq rfl rfl rfl ?_|(refine Z99 ?_; (repeat(first|refine Z9x rfl ?_|refine Z9y ?_)); refine Z9w ?_)|refine Ks ?_|refine Zb1 (fun _ _ => rfl) ?_|refine Zb3 (fun _ _ => rfl) ?_))
  have hie : i = b.length := by omega
  subst hie
  refine Z8o ?_
  exact Kar rfl ⟨by rw [List.take_length]; rfl, rfl⟩
theorem Z134 (v : Int) (k : Int) (lo hi : Int) (hlo : IntKind.wrap .i64 (-1 * 2 ^ (Nat.min (IntKind.wrap .i64 (k - 1)).toNat IntKind.i64.bits)) = lo) (hhi : IntKind.wrap .i64 (IntKind.wrap .i64 (1 * 2 ^ (Nat.min (IntKind.wrap .i64 (k - 1)).toNat IntKind.i64.bits)) - 1) = hi) (hk : 0 ≤ IntKind.wrap .i64 (k - 1)) (σ : Zc) :
  Z1s Try.prog Zfl [.int .i64 v, .int .i64 k] σ fun r σ' => r = .bool (decide (lo ≤ v ∧ v ≤ hi)) ∧ σ' = σ := by
 refine Z94 rfl Z12p (Nat.le_of_ble_eq_true rfl) ?_
 (repeat(first|refine Kq rfl rfl rfl ?_|(refine Z99 ?_; (repeat(first|refine Z9x rfl ?_|refine Z9y ?_)); refine Z9w ?_)|refine Ks ?_|refine Zb1 (fun _ _ => rfl) ?_))
 refine Z9f rfl hk ?_
 (repeat refine Kq rfl rfl rfl ?_)
 rw [hlo]
 by_cases h1 : lo ≤ v
 ·(rw [decide_eq_true (p := lo ≤ v) (by omega)])
  (repeat refine Z96 rfl (Kq rfl rfl rfl ?_))
  refine Z96 rfl (Z9f rfl hk ?_)
  (repeat(first|refine Kq rfl rfl rfl ?_|refine Z96 rfl (Kq rfl rfl rfl ?_)|(refine Z99 ?_; (repeat(first|refine Z9x rfl ?_|refine Z9y ?_)); refine Z9w ?_)))
  rw [hhi]
  (refine Z8o ?_; exact Kar rfl ⟨(by simp [h1, Z8x]), rfl⟩)
 ·(rw [decide_eq_false (p := lo ≤ v) (by omega)])
  (repeat(first|refine Kq rfl rfl rfl ?_|refine Z97 rfl ?_|(refine Z99 ?_; (repeat(first|refine Z9x rfl ?_|refine Z9y ?_)); refine Z9w ?_)))
  (refine Z8o ?_; exact Kar rfl ⟨(by simp [h1, Z8x]), rfl⟩)
theorem Z135 (v : Int) (σ : Zc) : Z1s Try.prog Zfl [.int .i64 v, .int .i64 8] σ fun r σ' => r = .bool (decide (-128 ≤ v ∧ v ≤ 127)) ∧ σ' = σ := Z134 v 8 _ _ (by decide) (by decide) (by decide) σ
theorem Z136 (v : Int) (σ : Zc) : Z1s Try.prog Zfl [.int .i64 v, .int .i64 16] σ fun r σ' => r = .bool (decide (-32768 ≤ v ∧ v ≤ 32767)) ∧ σ' = σ := Z134 v 16 _ _ (by decide) (by decide) (by decide) σ
theorem Z137 (v : Int) (σ : Zc) : Z1s Try.prog Zfl [.int .i64 v, .int .i64 32] σ fun r σ' => r = .bool (decide (-2147483648 ≤ v ∧ v ≤ 2147483647)) ∧ σ' = σ := Z134 v 32 _ _ (by decide) (by decide) (by decide) σ
def numI (k : Int) (kids : Nat) (prec i n : Int) : Bool :=
 if k = 0 then decide (i = 0 ∨ i = 1)
 else if k = 1 then decide (-128 ≤ i ∧ i ≤ 127)
 else if k = 2 then decide (-32768 ≤ i ∧ i ≤ 32767)
 else if k = 3 ∨ k = 15 then decide (-2147483648 ≤ i ∧ i ≤ 2147483647)
 else if k = 4 then true
 else if k = 14 then decide ((digN i.natAbs : Int) ≤ prec)
 else if k = 9 then Zmo i n
 else if k = 13 then decide (0 ≤ i ∧ i < kids)
 else decide (i = 0)
theorem Z138 (k : Int) (kids : Nat) (prec i n : Int) : Zmp k kids prec i n = if n ≠ 0 ∧ k ≠ 9 then false else numI k kids prec i n := rfl
theorem Z139 (t : Ty) (v : Vl) (h0 : -9223372036854775808 ≤ v.i ∧ v.i ≤ 9223372036854775807) (σ : Zc) : Z1s Try.prog Zf3 [encT t, encV v] σ fun r σ' => r = .bool (numI t.kind t.kids.length t.prec v.i v.n) ∧ σ' = σ := by
 obtain ⟨k, ns, ks, l, p, s⟩ := t
 obtain ⟨nu, i, n, b, vks⟩ := v
 simp only [encT, encV, Ty.kind, Ty.kids, Ty.prec, Vl.i, Vl.n] at *
 refine Z94 rfl Z12l (Nat.le_of_ble_eq_true rfl) ?_
 refine Za1 ?_
 refine Z9n rfl (Kfi rfl) fun b1 hb1 => ?_
 refine Z9n rfl (Kfi rfl) fun b2 hb2 => ?_
 repeat refine Kq rfl rfl rfl ?_
 (refine Z99 ?_; (repeat(first|refine Z9x rfl ?_|refine Z9y ?_)); refine Z9w ?_)
 refine Zaj (d := 3) (cs := [.bool nu, .int .i64 i, .int .i64 n, .slc 1 (bytes b) false, .slc 5 (Zmg vks) false]) rfl ?_
 refine Zaj (d := 2) (cs := [.int .i64 k, .slc 1 (ns.map .str) false, .slc 6 (Zly ks) false, .int .i64 l, .int .i64 p, .int .i64 s]) rfl ?_
 by_cases k0 : k = 0
 ·subst k0
  (repeat(first|refine Kq rfl rfl rfl ?_|(refine Z99 ?_; (repeat(first|refine Z9x rfl ?_|refine Z9y ?_)); refine Z9w ?_)|refine Ks ?_|refine Zb1 (fun _ _ => rfl) ?_|refine Z8s ?_|refine Kc1 rfl ?_))
  by_cases q : i = 0
  ·(rw [decide_eq_true (p := i = 0) (by omega)])
   (repeat(first|refine Kq rfl rfl rfl ?_|refine Z97 rfl ?_|(refine Z99 ?_; (repeat(first|refine Z9x rfl ?_|refine Z9y ?_)); refine Z9w ?_)))
   (refine Z8o ?_; exact Kar rfl ⟨(by simp [numI, q, Z8x]), rfl⟩)
  ·(rw [decide_eq_false (p := i = 0) (by omega)])
   (repeat(first|refine Kq rfl rfl rfl ?_|refine Z96 rfl (Kq rfl rfl rfl ?_)|(refine Z99 ?_; (repeat(first|refine Z9x rfl ?_|refine Z9y ?_)); refine Z9w ?_)))
   (refine Z8o ?_; exact Kar rfl ⟨(by simp [numI, q, Z8x]), rfl⟩)
 by_cases k1 : k = 1
 ·subst k1
  (repeat(first|refine Kq rfl rfl rfl ?_|(refine Z99 ?_; (repeat(first|refine Z9x rfl ?_|refine Z9y ?_)); refine Z9w ?_)|refine Ks ?_|refine Zb1 (fun _ _ => rfl) ?_|refine Z8s ?_|refine Kc1 rfl ?_|refine Kc2 rfl ?_))
  (first|refine Z9v rfl ((Z135 i) _) ?_|refine Z96 rfl (Z9v rfl ((Z135 i) _) ?_)|refine Zb9 rfl (Z135 i) ?_|refine Z96 rfl (Zb9 rfl (Z135 i) ?_))
  (repeat(first|refine Kq rfl rfl rfl ?_|(refine Z99 ?_; (repeat(first|refine Z9x rfl ?_|refine Z9y ?_)); refine Z9w ?_)))
  (refine Z8o ?_; exact Kar rfl ⟨(by simp [numI, Z8x]), rfl⟩)
 by_cases k2 : k = 2
 ·subst k2
  (repeat(first|refine Kq rfl rfl rfl ?_|(refine Z99 ?_; (repeat(first|refine Z9x rfl ?_|refine Z9y ?_)); refine Z9w ?_)|refine Ks ?_|refine Zb1 (fun _ _ => rfl) ?_|refine Z8s ?_|refine Kc1 rfl ?_|refine Kc2 rfl ?_))
  (first|refine Z9v rfl ((Z136 i) _) ?_|refine Z96 rfl (Z9v rfl ((Z136 i) _) ?_)|refine Zb9 rfl (Z136 i) ?_|refine Z96 rfl (Zb9 rfl (Z136 i) ?_))
  (repeat(first|refine Kq rfl rfl rfl ?_|(refine Z99 ?_; (repeat(first|refine Z9x rfl ?_|refine Z9y ?_)); refine Z9w ?_)))
  (refine Z8o ?_; exact Kar rfl ⟨(by simp [numI, Z8x]), rfl⟩)
 by_cases k3 : k = 3
 ·subst k3
  (repeat(first|refine Kq rfl rfl rfl ?_|(refine Z99 ?_; (repeat(first|refine Z9x rfl ?_|refine Z9y ?_)); refine Z9w ?_)|refine Ks ?_|refine Zb1 (fun _ _ => rfl) ?_|refine Z8s ?_|refine Zb2 (fun _ _ => rfl) ?_|refine Kc1 rfl ?_|refine Kc2 rfl ?_))
  (first|refine Z9v rfl ((Z137 i) _) ?_|refine Z96 rfl (Z9v rfl ((Z137 i) _) ?_)|refine Zb9 rfl (Z137 i) ?_|refine Z96 rfl (Zb9 rfl (Z137 i) ?_))
  (repeat(first|refine Kq rfl rfl rfl ?_|(refine Z99 ?_; (repeat(first|refine Z9x rfl ?_|refine Z9y ?_)); refine Z9w ?_)))
  (refine Z8o ?_; exact Kar rfl ⟨(by simp [numI, Z8x]), rfl⟩)
 by_cases k15 : k = 15
 ·subst k15
  (repeat(first|refine Kq rfl rfl rfl ?_|(refine Z99 ?_; (repeat(first|refine Z9x rfl ?_|refine Z9y ?_)); refine Z9w ?_)|refine Ks ?_|refine Zb1 (fun _ _ => rfl) ?_|refine Z8s ?_|refine Kc1 rfl ?_|refine Kc2 rfl ?_))
  (first|refine Z9v rfl ((Z137 i) _) ?_|refine Z96 rfl (Z9v rfl ((Z137 i) _) ?_)|refine Zb9 rfl (Z137 i) ?_|refine Z96 rfl (Zb9 rfl (Z137 i) ?_))
  (repeat(first|refine Kq rfl rfl rfl ?_|(refine Z99 ?_; (repeat(first|refine Z9x rfl ?_|refine Z9y ?_)); refine Z9w ?_)))
  (refine Z8o ?_; exact Kar rfl ⟨(by simp [numI, Z8x]), rfl⟩)
 by_cases k4 : k = 4
 ·subst k4
  (repeat(first|refine Kq rfl rfl rfl ?_|(refine Z99 ?_; (repeat(first|refine Z9x rfl ?_|refine Z9y ?_)); refine Z9w ?_)|refine Ks ?_|refine Zb1 (fun _ _ => rfl) ?_|refine Z8s ?_|refine Kc1 rfl ?_|refine Kc2 rfl ?_))
  (refine Z8o ?_; exact Kar rfl ⟨(by simp [numI, Z8x]), rfl⟩)
 by_cases k14 : k = 14
 ·subst k14
  (repeat(first|refine Kq rfl rfl rfl ?_|(refine Z99 ?_; (repeat(first|refine Z9x rfl ?_|refine Z9y ?_)); refine Z9w ?_)|refine Ks ?_|refine Zb1 (fun _ _ => rfl) ?_|refine Z8s ?_|refine Kc1 rfl ?_|refine Kc2 rfl ?_))
  (first|refine Z9v rfl ((Z132 i h0.1 h0.2) _) ?_|refine Z96 rfl (Z9v rfl ((Z132 i h0.1 h0.2) _) ?_)|refine Zb9 rfl (Z132 i h0.1 h0.2) ?_|refine Z96 rfl (Zb9 rfl (Z132 i h0.1 h0.2) ?_))
  (repeat(first|refine Kq rfl rfl rfl ?_|(refine Z99 ?_; (repeat(first|refine Z9x rfl ?_|refine Z9y ?_)); refine Z9w ?_)))
  (refine Z8o ?_; exact Kar rfl ⟨(by simp [numI, Z8x]), rfl⟩)
 by_cases k9 : k = 9
 ·subst k9
  (repeat(first|refine Kq rfl rfl rfl ?_|(refine Z99 ?_; (repeat(first|refine Z9x rfl ?_|refine Z9y ?_)); refine Z9w ?_)|refine Ks ?_|refine Zb1 (fun _ _ => rfl) ?_|refine Z8s ?_|refine Kc1 rfl ?_|refine Kc2 rfl ?_))
  (first|refine Z9v rfl ((Z12z i n) _) ?_|refine Z96 rfl (Z9v rfl ((Z12z i n) _) ?_)|refine Zb9 rfl (Z12z i n) ?_|refine Z96 rfl (Zb9 rfl (Z12z i n) ?_))
  (repeat(first|refine Kq rfl rfl rfl ?_|(refine Z99 ?_; (repeat(first|refine Z9x rfl ?_|refine Z9y ?_)); refine Z9w ?_)))
  (refine Z8o ?_; exact Kar rfl ⟨(by simp [numI, Z8x]), rfl⟩)
 by_cases k13 : k = 13
 ·subst k13
  (repeat(first|refine Kq rfl rfl rfl ?_|(refine Z99 ?_; (repeat(first|refine Z9x rfl ?_|refine Z9y ?_)); refine Z9w ?_)|refine Ks ?_|refine Zb1 (fun _ _ => rfl) ?_|refine Z8s ?_|refine Kc1 rfl ?_|refine Kc2 rfl ?_))
  by_cases q : 0 ≤ i
  ·(rw [decide_eq_true (p := 0 ≤ i) (by omega)])
   (repeat(first|refine Kq rfl rfl rfl ?_|refine Z96 rfl (Kq rfl rfl rfl ?_)|(refine Z99 ?_; (repeat(first|refine Z9x rfl ?_|refine Z9y ?_)); refine Z9w ?_)))
   rw [Zm2]
   (refine Z8o ?_; exact Kar rfl ⟨(by simp [numI, q, Z8x]), rfl⟩)
  ·(rw [decide_eq_false (p := 0 ≤ i) (by omega)])
   (repeat(first|refine Kq rfl rfl rfl ?_|refine Z97 rfl ?_|(refine Z99 ?_; (repeat(first|refine Z9x rfl ?_|refine Z9y ?_)); refine Z9w ?_)))
   (refine Z8o ?_; exact Kar rfl ⟨(by simp [numI, q, Z8x]), rfl⟩)
 (repeat(first|refine Kq rfl rfl rfl ?_|(refine Z99 ?_; (repeat(first|refine Z9x rfl ?_|refine Z9y ?_)); refine Z9w ?_)|refine Ks ?_|refine Zb1 (fun _ _ => rfl) ?_|refine Z8s ?_))
 (rw [decide_eq_false (p := k = 0) (by omega)])
 (repeat(first|refine Kq rfl rfl rfl ?_|(refine Z99 ?_; (repeat(first|refine Z9x rfl ?_|refine Z9y ?_)); refine Z9w ?_)|refine Ks ?_|refine Zb1 (fun _ _ => rfl) ?_|refine Kc2 rfl ?_))
 (rw [decide_eq_false (p := k = 1) (by omega)])
 (repeat(first|refine Kq rfl rfl rfl ?_|(refine Z99 ?_; (repeat(first|refine Z9x rfl ?_|refine Z9y ?_)); refine Z9w ?_)|refine Ks ?_|refine Zb1 (fun _ _ => rfl) ?_|refine Kc2 rfl ?_))
 (rw [decide_eq_false (p := k = 2) (by omega)])
 (repeat(first|refine Kq rfl rfl rfl ?_|(refine Z99 ?_; (repeat(first|refine Z9x rfl ?_|refine Z9y ?_)); refine Z9w ?_)|refine Ks ?_|refine Zb1 (fun _ _ => rfl) ?_|refine Kc2 rfl ?_))
 (rw [decide_eq_false (p := k = 3) (by omega)])
 (repeat(first|refine Kq rfl rfl rfl ?_|(refine Z99 ?_; (repeat(first|refine Z9x rfl ?_|refine Z9y ?_)); refine Z9w ?_)|refine Zb1 (fun _ _ => rfl) ?_|refine Kc2 rfl ?_))
 (rw [decide_eq_false (p := k = 15) (by omega)])
 (repeat(first|refine Kq rfl rfl rfl ?_|(refine Z99 ?_; (repeat(first|refine Z9x rfl ?_|refine Z9y ?_)); refine Z9w ?_)|refine Ks ?_|refine Zb1 (fun _ _ => rfl) ?_|refine Kc2 rfl ?_))
 (rw [decide_eq_false (p := k = 4) (by omega)])
 (repeat(first|refine Kq rfl rfl rfl ?_|(refine Z99 ?_; (repeat(first|refine Z9x rfl ?_|refine Z9y ?_)); refine Z9w ?_)|refine Ks ?_|refine Zb1 (fun _ _ => rfl) ?_|refine Kc2 rfl ?_))
 (rw [decide_eq_false (p := k = 14) (by omega)])
 (repeat(first|refine Kq rfl rfl rfl ?_|(refine Z99 ?_; (repeat(first|refine Z9x rfl ?_|refine Z9y ?_)); refine Z9w ?_)|refine Ks ?_|refine Zb1 (fun _ _ => rfl) ?_|refine Kc2 rfl ?_))
 (rw [decide_eq_false (p := k = 9) (by omega)])
 (repeat(first|refine Kq rfl rfl rfl ?_|(refine Z99 ?_; (repeat(first|refine Z9x rfl ?_|refine Z9y ?_)); refine Z9w ?_)|refine Ks ?_|refine Zb1 (fun _ _ => rfl) ?_|refine Kc2 rfl ?_))
 (rw [decide_eq_false (p := k = 13) (by omega)])
 (repeat(first|refine Kq rfl rfl rfl ?_|(refine Z99 ?_; (repeat(first|refine Z9x rfl ?_|refine Z9y ?_)); refine Z9w ?_)|refine Ks ?_|refine Zb1 (fun _ _ => rfl) ?_|refine Zb2 (fun _ _ => rfl) ?_|refine Kc2 rfl ?_))
 (refine Z8o ?_; exact Kar rfl ⟨(by simp [numI, Z8x, k0, k1, k2, k3, k15, k4, k14, k9, k13]), rfl⟩)
end Go.Abs
namespace Go.Abs
open Go Go.Proofs
attribute [local irreducible] AWp aops KP
theorem quo2n (n : Nat) (h : n ≤ 9223372036854775807) : IntKind.wrap .i64 ((n : Int).tdiv 2) = ((n / 2 : Nat) : Int) := by
 have e : (n : Int).tdiv 2 = ((n / 2 : Nat) : Int) := by rw [Int.tdiv_eq_ediv_of_nonneg (by omega)]; omega
 rw [e, w64 _ (by omega) (by omega)]
def Z13a (k : Int) (nu : Bool) (i n : Int) (b : List UInt8) (ks : Nat) : Bool :=
 if nu = true then decide (i = 0 ∧ n = 0 ∧ b = [] ∧ ks = 0) else decide ((n = 0 ∨ k = 9) ∧ (b = [] ∨ Zmm k = true) ∧ (ks = 0 ∨ Zm4 k = false))
theorem Z13b (t : Ty) (v : Vl) (σ : Zc) : Z1s Try.prog Zf2 [encT t, encV v] σ fun r σ' => r = .bool (Z13a t.kind v.null v.i v.n v.b v.kids.length) ∧ σ' = σ := by
 obtain ⟨k, ns, ks, l, p, s⟩ := t
 obtain ⟨nu, i, n, b, vks⟩ := v
 simp only [encT, encV, Ty.kind, Vl.null, Vl.i, Vl.n, Vl.b, Vl.kids] at *
 refine Z94 rfl Z12k (Nat.le_of_ble_eq_true rfl) ?_
 refine Za1 ?_
 refine Z9n rfl (Kfi rfl) fun b1 hb1 => ?_
 refine Z9n rfl (Kfi rfl) fun b2 hb2 => ?_
 repeat refine Kq rfl rfl rfl ?_
 (refine Z99 ?_; (repeat(first|refine Z9x rfl ?_|refine Z9y ?_)); refine Z9w ?_)
 refine Zaj (d := 3) (cs := [.bool nu, .int .i64 i, .int .i64 n, .slc 1 (bytes b) false, .slc 5 (Zmg vks) false]) rfl ?_
 refine Zaj (d := 2) (cs := [.int .i64 k, .slc 1 (ns.map .str) false, .slc 6 (Zly ks) false, .int .i64 l, .int .i64 p, .int .i64 s]) rfl ?_
 have eb : b = [] ↔ (b.length : Int) = 0 := by rw [← List.length_eq_zero_iff]; omega
 cases nu with
 | true =>
  (repeat(first|refine Kq rfl rfl rfl ?_|(refine Z99 ?_; (repeat(first|refine Z9x rfl ?_|refine Z9y ?_)); refine Z9w ?_)|refine Ks ?_|refine Zb1 (fun _ _ => rfl) ?_|refine Kc1 rfl ?_))
  by_cases q1 : i = 0
  rotate_left
  ·(rw [decide_eq_false (p := i = 0) (by omega)])
   (repeat(first|refine Kq rfl rfl rfl ?_|refine Z97 rfl ?_|(refine Z99 ?_; (repeat(first|refine Z9x rfl ?_|refine Z9y ?_)); refine Z9w ?_)))
   (refine Z8o ?_; exact Kar rfl ⟨(by simp [Z13a, q1, Z8x]), rfl⟩)
  (rw [decide_eq_true (p := i = 0) (by omega)])
  (repeat(first|refine Kq rfl rfl rfl ?_|refine Z96 rfl (Kq rfl rfl rfl ?_)))
  by_cases q2 : n = 0
  rotate_left
  ·(rw [decide_eq_false (p := n = 0) (by omega)])
   (repeat(first|refine Kq rfl rfl rfl ?_|refine Z97 rfl ?_|(refine Z99 ?_; (repeat(first|refine Z9x rfl ?_|refine Z9y ?_)); refine Z9w ?_)))
   (refine Z8o ?_; exact Kar rfl ⟨(by simp [Z13a, q2, Z8x]), rfl⟩)
  (rw [decide_eq_true (p := n = 0) (by omega)])
  (repeat(first|refine Kq rfl rfl rfl ?_|refine Z96 rfl (Kq rfl rfl rfl ?_)))
  rw [Zac]
  by_cases q3 : (b.length : Int) = 0
  rotate_left
  ·have q3' : ¬ b = [] := fun e => q3 (eb.1 e)
   (rw [decide_eq_false (p := (b.length : Int) = 0) (by omega)])
   (repeat(first|refine Kq rfl rfl rfl ?_|refine Z97 rfl ?_|(refine Z99 ?_; (repeat(first|refine Z9x rfl ?_|refine Z9y ?_)); refine Z9w ?_)))
   (refine Z8o ?_; exact Kar rfl ⟨(by simp [Z13a, q3', Z8x]), rfl⟩)
  have q3' : b = [] := eb.2 q3
  (rw [decide_eq_true (p := (b.length : Int) = 0) (by omega)])
  (repeat(first|refine Kq rfl rfl rfl ?_|refine Z96 rfl (Kq rfl rfl rfl ?_)|(refine Z99 ?_; (repeat(first|refine Z9x rfl ?_|refine Z9y ?_)); refine Z9w ?_)))
  rw [Zmk]
  refine Z8o ?_
  refine ares rfl (HSub.refl _) ⟨?_, rfl⟩
  simp only [Z13a, Z8x, if_true, Z0.bool.injEq, decide_eq_decide, eb, q1, q2, q3, true_and]
  omega
 | false =>
  (repeat(first|refine Kq rfl rfl rfl ?_|(refine Z99 ?_; (repeat(first|refine Z9x rfl ?_|refine Z9y ?_)); refine Z9w ?_)|refine Ks ?_|refine Zb1 (fun _ _ => rfl) ?_|refine Zb2 (fun _ _ => rfl) ?_|refine Kc2 rfl ?_))
  by_cases q1 : n = 0
  ·(rw [decide_eq_true (p := n = 0) (by omega)])
   (repeat(first|refine Kq rfl rfl rfl ?_|refine Z96 rfl (Kq rfl rfl rfl ?_)|refine Z97 rfl ?_))
   rw [Zac]
   by_cases q3 : (b.length : Int) = 0
   ·have q3' : b = [] := eb.2 q3
    (rw [decide_eq_true (p := (b.length : Int) = 0) (by omega)])
    (repeat(first|refine Kq rfl rfl rfl ?_|refine Z96 rfl (Kq rfl rfl rfl ?_)|refine Z97 rfl ?_))
    rw [Zmk]
    by_cases q4 : (vks.length : Int) = 0
    ·(rw [decide_eq_true (p := (vks.length : Int) = 0) (by omega)])
     (repeat(first|refine Kq rfl rfl rfl ?_|refine Z96 rfl (Kq rfl rfl rfl ?_)|refine Z97 rfl ?_|(refine Z99 ?_; (repeat(first|refine Z9x rfl ?_|refine Z9y ?_)); refine Z9w ?_)))
     (refine Z8o ?_; exact Kar rfl ⟨(by have q4' : vks.length = 0 := (by omega); simp [Z13a, q1, q3', q4', Z8x]), rfl⟩)
    ·(rw [decide_eq_false (p := (vks.length : Int) = 0) (by omega)])
     (repeat refine Z96 rfl (Kq rfl rfl rfl ?_))
     (first|refine Z9v rfl ((Znf k) _) ?_|refine Z96 rfl (Z9v rfl ((Znf k) _) ?_)|refine Zb9 rfl (Znf k) ?_|refine Z96 rfl (Zb9 rfl (Znf k) ?_))
     (repeat(first|refine Kq rfl rfl rfl ?_|refine Z96 rfl (Kq rfl rfl rfl ?_)|(refine Z99 ?_; (repeat(first|refine Z9x rfl ?_|refine Z9y ?_)); refine Z9w ?_)))
     (refine Z8o ?_; exact Kar rfl ⟨(by have q4' : ¬ vks.length = 0 := (by omega); cases hl : Zm4 k <;> simp [Z13a, q1, q3', q4', hl, Z8x]), rfl⟩)
   ·have q3' : ¬ b = [] := fun e => q3 (eb.1 e)
    (rw [decide_eq_false (p := (b.length : Int) = 0) (by omega)])
    (repeat refine Z96 rfl (Kq rfl rfl rfl ?_))
    (first|refine Z9v rfl ((Zr3 k) _) ?_|refine Z96 rfl (Z9v rfl ((Zr3 k) _) ?_)|refine Zb9 rfl (Zr3 k) ?_|refine Z96 rfl (Zb9 rfl (Zr3 k) ?_))
    cases ht : Zmm k with
    | false =>
     (repeat(first|refine Kq rfl rfl rfl ?_|refine Z96 rfl (Kq rfl rfl rfl ?_)|refine Z97 rfl ?_|refine Z98 rfl ?_|(refine Z99 ?_; (repeat(first|refine Z9x rfl ?_|refine Z9y ?_)); refine Z9w ?_)))
     (refine Z8o ?_; exact Kar rfl ⟨(by simp [Z13a, q1, q3', ht, Z8x]), rfl⟩)
    | true =>
     (repeat(first|refine Kq rfl rfl rfl ?_|refine Z96 rfl (Kq rfl rfl rfl ?_)))
     rw [Zmk]
     by_cases q4 : (vks.length : Int) = 0
     ·(rw [decide_eq_true (p := (vks.length : Int) = 0) (by omega)])
      (repeat(first|refine Kq rfl rfl rfl ?_|refine Z96 rfl (Kq rfl rfl rfl ?_)|refine Z97 rfl ?_|(refine Z99 ?_; (repeat(first|refine Z9x rfl ?_|refine Z9y ?_)); refine Z9w ?_)))
      (refine Z8o ?_; exact Kar rfl ⟨(by have q4' : vks.length = 0 := (by omega); simp [Z13a, q1, q3', q4', ht, Z8x]), rfl⟩)
     ·(rw [decide_eq_false (p := (vks.length : Int) = 0) (by omega)])
      (repeat refine Z96 rfl (Kq rfl rfl rfl ?_))
      (first|refine Z9v rfl ((Znf k) _) ?_|refine Z96 rfl (Z9v rfl ((Znf k) _) ?_)|refine Zb9 rfl (Znf k) ?_|refine Z96 rfl (Zb9 rfl (Znf k) ?_))
      (repeat(first|refine Kq rfl rfl rfl ?_|refine Z96 rfl (Kq rfl rfl rfl ?_)|(refine Z99 ?_; (repeat(first|refine Z9x rfl ?_|refine Z9y ?_)); refine Z9w ?_)))
      (refine Z8o ?_; exact Kar rfl ⟨(by have q4' : ¬ vks.length = 0 := (by omega); cases hl : Zm4 k <;> simp [Z13a, q1, q3', q4', ht, hl, Z8x]), rfl⟩)
  ·(rw [decide_eq_false (p := n = 0) (by omega)])
   (repeat(first|refine Kq rfl rfl rfl ?_|refine Z96 rfl (Kq rfl rfl rfl ?_)))
   by_cases q9 : k = 9
   ·(rw [decide_eq_true (p := k = 9) (by omega)])
    (repeat refine Z96 rfl (Kq rfl rfl rfl ?_))
    rw [Zac]
    by_cases q3 : (b.length : Int) = 0
    ·have q3' : b = [] := eb.2 q3
     (rw [decide_eq_true (p := (b.length : Int) = 0) (by omega)])
     (repeat(first|refine Kq rfl rfl rfl ?_|refine Z96 rfl (Kq rfl rfl rfl ?_)|refine Z97 rfl ?_))
     rw [Zmk]
     by_cases q4 : (vks.length : Int) = 0
     ·(rw [decide_eq_true (p := (vks.length : Int) = 0) (by omega)])
      (repeat(first|refine Kq rfl rfl rfl ?_|refine Z96 rfl (Kq rfl rfl rfl ?_)|refine Z97 rfl ?_|(refine Z99 ?_; (repeat(first|refine Z9x rfl ?_|refine Z9y ?_)); refine Z9w ?_)))
      (refine Z8o ?_; exact Kar rfl ⟨(by have q4' : vks.length = 0 := (by omega); simp [Z13a, q1, q9, q3', q4', Z8x]), rfl⟩)
     ·(rw [decide_eq_false (p := (vks.length : Int) = 0) (by omega)])
      (repeat refine Z96 rfl (Kq rfl rfl rfl ?_))
      (first|refine Z9v rfl ((Znf k) _) ?_|refine Z96 rfl (Z9v rfl ((Znf k) _) ?_)|refine Zb9 rfl (Znf k) ?_|refine Z96 rfl (Zb9 rfl (Znf k) ?_))
      (repeat(first|refine Kq rfl rfl rfl ?_|refine Z96 rfl (Kq rfl rfl rfl ?_)|(refine Z99 ?_; (repeat(first|refine Z9x rfl ?_|refine Z9y ?_)); refine Z9w ?_)))
      (refine Z8o ?_; exact Kar rfl ⟨(by have q4' : ¬ vks.length = 0 := (by omega); cases hl : Zm4 k <;> rw [q9] at hl <;> simp [Z13a, q1, q9, q3', q4', hl, Z8x]), rfl⟩)
    ·have q3' : ¬ b = [] := fun e => q3 (eb.1 e)
     (rw [decide_eq_false (p := (b.length : Int) = 0) (by omega)])
     (repeat refine Z96 rfl (Kq rfl rfl rfl ?_))
     (first|refine Z9v rfl ((Zr3 k) _) ?_|refine Z96 rfl (Z9v rfl ((Zr3 k) _) ?_)|refine Zb9 rfl (Zr3 k) ?_|refine Z96 rfl (Zb9 rfl (Zr3 k) ?_))
     cases ht : Zmm k with
     | false =>
      (repeat(first|refine Kq rfl rfl rfl ?_|refine Z96 rfl (Kq rfl rfl rfl ?_)|refine Z97 rfl ?_|refine Z98 rfl ?_|(refine Z99 ?_; (repeat(first|refine Z9x rfl ?_|refine Z9y ?_)); refine Z9w ?_)))
      (refine Z8o ?_; exact Kar rfl ⟨(by rw [q9] at ht; simp [Z13a, q1, q9, q3', ht, Z8x]), rfl⟩)
     | true =>
      (repeat(first|refine Kq rfl rfl rfl ?_|refine Z96 rfl (Kq rfl rfl rfl ?_)))
      rw [Zmk]
      by_cases q4 : (vks.length : Int) = 0
      ·(rw [decide_eq_true (p := (vks.length : Int) = 0) (by omega)])
       (repeat(first|refine Kq rfl rfl rfl ?_|refine Z96 rfl (Kq rfl rfl rfl ?_)|refine Z97 rfl ?_|(refine Z99 ?_; (repeat(first|refine Z9x rfl ?_|refine Z9y ?_)); refine Z9w ?_)))
       (refine Z8o ?_; exact Kar rfl ⟨(by rw [q9] at ht; have q4' : vks.length = 0 := (by omega); simp [Z13a, q1, q9, q3', q4', ht, Z8x]), rfl⟩)
      ·(rw [decide_eq_false (p := (vks.length : Int) = 0) (by omega)])
       (repeat refine Z96 rfl (Kq rfl rfl rfl ?_))
       (first|refine Z9v rfl ((Znf k) _) ?_|refine Z96 rfl (Z9v rfl ((Znf k) _) ?_)|refine Zb9 rfl (Znf k) ?_|refine Z96 rfl (Zb9 rfl (Znf k) ?_))
       (repeat(first|refine Kq rfl rfl rfl ?_|refine Z96 rfl (Kq rfl rfl rfl ?_)|(refine Z99 ?_; (repeat(first|refine Z9x rfl ?_|refine Z9y ?_)); refine Z9w ?_)))
       (refine Z8o ?_; exact Kar rfl ⟨(by rw [q9] at ht; have q4' : ¬ vks.length = 0 := (by omega); cases hl : Zm4 k <;> rw [q9] at hl <;> simp [Z13a, q1, q9, q3', q4', ht, hl, Z8x]), rfl⟩)
   ·(rw [decide_eq_false (p := k = 9) (by omega)])
    (repeat(first|refine Kq rfl rfl rfl ?_|refine Z97 rfl ?_|refine Z98 rfl ?_|(refine Z99 ?_; (repeat(first|refine Z9x rfl ?_|refine Z9y ?_)); refine Z9w ?_)))
    (refine Z8o ?_; exact Kar rfl ⟨(by simp [Z13a, q1, q9, Z8x]), rfl⟩)
def longF (k l : Int) (b : List UInt8) : Bool := decide (((k = 16 ∨ k = 17) ∧ l < (Zmn b : Int)) ∨ ((k = 7 ∨ k = 8 ∨ k = 16 ∨ k = 17) ∧ 4096 < b.length))
theorem Z13c (t : Ty) (v : Vl) (hb : v.b.length ≤ 9223372036854775807) (σ : Zc) : Z1s Try.prog Zf4 [encT t, encV v] σ fun r σ' => r = .bool (longF t.kind t.len v.b) ∧ σ' = σ := by
 obtain ⟨k, ns, ks, l, p, s⟩ := t
 obtain ⟨nu, i, n, b, vks⟩ := v
 simp only [encT, encV, Ty.kind, Ty.len, Vl.b] at *
 refine Z94 rfl Z12m (Nat.le_of_ble_eq_true rfl) ?_
 refine Za1 ?_
 refine Z9n rfl (Kfi rfl) fun b1 hb1 => ?_
 refine Z9n rfl (Kfi rfl) fun b2 hb2 => ?_
 repeat refine Kq rfl rfl rfl ?_
 (refine Z99 ?_; (repeat(first|refine Z9x rfl ?_|refine Z9y ?_)); refine Z9w ?_)
 refine Zaj (d := 3) (cs := [.bool nu, .int .i64 i, .int .i64 n, .slc 1 (bytes b) false, .slc 5 (Zmg vks) false]) rfl ?_
 refine Zaj (d := 2) (cs := [.int .i64 k, .slc 1 (ns.map .str) false, .slc 6 (Zly ks) false, .int .i64 l, .int .i64 p, .int .i64 s]) rfl ?_
 by_cases k16 : k = 16
 ·subst k16
  (repeat(first|refine Kq rfl rfl rfl ?_|(refine Z99 ?_; (repeat(first|refine Z9x rfl ?_|refine Z9y ?_)); refine Z9w ?_)|refine Ks ?_|refine Zb1 (fun _ _ => rfl) ?_|refine Z8s ?_|refine Zb2 (fun _ _ => rfl) ?_|refine Zb3 (fun _ _ => rfl) ?_|refine Kc1 rfl ?_))
  (first|refine Z9v rfl ((Z133 b false hb) _) ?_|refine Z96 rfl (Z9v rfl ((Z133 b false hb) _) ?_)|refine Zb9 rfl (Z133 b false hb) ?_|refine Z96 rfl (Zb9 rfl (Z133 b false hb) ?_))
  (repeat(first|refine Kq rfl rfl rfl ?_|(refine Z99 ?_; (repeat(first|refine Z9x rfl ?_|refine Z9y ?_)); refine Z9w ?_)))
  by_cases q : l < (Zmn b : Int)
  ·(rw [decide_eq_true (p := l < (Zmn b : Int)) (by omega)])
   (repeat(first|refine Kq rfl rfl rfl ?_|(refine Z99 ?_; (repeat(first|refine Z9x rfl ?_|refine Z9y ?_)); refine Z9w ?_)|refine Ks ?_|refine Zb1 (fun _ _ => rfl) ?_|refine Kc1 rfl ?_))
   (refine Z8o ?_; exact Kar rfl ⟨(by simp [longF, q, Z8x]), rfl⟩)
  ·(rw [decide_eq_false (p := l < (Zmn b : Int)) (by omega)])
   (repeat(first|refine Kq rfl rfl rfl ?_|(refine Z99 ?_; (repeat(first|refine Z9x rfl ?_|refine Z9y ?_)); refine Z9w ?_)|refine Ks ?_|refine Zb1 (fun _ _ => rfl) ?_|refine Zb2 (fun _ _ => rfl) ?_|refine Kc2 rfl ?_))
   rw [Zac]
   refine Z8o ?_
   refine ares rfl (HSub.refl _) ⟨?_, rfl⟩
   simp [longF, q, Z8x]
   try omega
 by_cases k17 : k = 17
 ·subst k17
  (repeat(first|refine Kq rfl rfl rfl ?_|(refine Z99 ?_; (repeat(first|refine Z9x rfl ?_|refine Z9y ?_)); refine Z9w ?_)|refine Ks ?_|refine Zb1 (fun _ _ => rfl) ?_|refine Z8s ?_|refine Zb3 (fun _ _ => rfl) ?_|refine Kc1 rfl ?_|refine Kc2 rfl ?_))
  (first|refine Z9v rfl ((Z133 b false hb) _) ?_|refine Z96 rfl (Z9v rfl ((Z133 b false hb) _) ?_)|refine Zb9 rfl (Z133 b false hb) ?_|refine Z96 rfl (Zb9 rfl (Z133 b false hb) ?_))
  (repeat(first|refine Kq rfl rfl rfl ?_|(refine Z99 ?_; (repeat(first|refine Z9x rfl ?_|refine Z9y ?_)); refine Z9w ?_)))
  by_cases q : l < (Zmn b : Int)
  ·(rw [decide_eq_true (p := l < (Zmn b : Int)) (by omega)])
   (repeat(first|refine Kq rfl rfl rfl ?_|(refine Z99 ?_; (repeat(first|refine Z9x rfl ?_|refine Z9y ?_)); refine Z9w ?_)|refine Ks ?_|refine Zb1 (fun _ _ => rfl) ?_|refine Kc1 rfl ?_))
   (refine Z8o ?_; exact Kar rfl ⟨(by simp [longF, q, Z8x]), rfl⟩)
  ·(rw [decide_eq_false (p := l < (Zmn b : Int)) (by omega)])
   (repeat(first|refine Kq rfl rfl rfl ?_|(refine Z99 ?_; (repeat(first|refine Z9x rfl ?_|refine Z9y ?_)); refine Z9w ?_)|refine Ks ?_|refine Zb1 (fun _ _ => rfl) ?_|refine Zb2 (fun _ _ => rfl) ?_|refine Kc2 rfl ?_))
   rw [Zac]
   refine Z8o ?_
   refine ares rfl (HSub.refl _) ⟨?_, rfl⟩
   simp [longF, q, Z8x]
   try omega
 by_cases k7 : k = 7
 ·subst k7
  (repeat(first|refine Kq rfl rfl rfl ?_|(refine Z99 ?_; (repeat(first|refine Z9x rfl ?_|refine Z9y ?_)); refine Z9w ?_)|refine Ks ?_|refine Zb1 (fun _ _ => rfl) ?_|refine Z8s ?_|refine Zb2 (fun _ _ => rfl) ?_|refine Zb3 (fun _ _ => rfl) ?_|refine Kc1 rfl ?_|refine Kc2 rfl ?_))
  rw [Zac]
  refine Z8o ?_
  refine ares rfl (HSub.refl _) ⟨?_, rfl⟩
  simp [longF, Z8x]
  try omega
 by_cases k8 : k = 8
 ·subst k8
  (repeat(first|refine Kq rfl rfl rfl ?_|(refine Z99 ?_; (repeat(first|refine Z9x rfl ?_|refine Z9y ?_)); refine Z9w ?_)|refine Ks ?_|refine Zb1 (fun _ _ => rfl) ?_|refine Z8s ?_|refine Zb2 (fun _ _ => rfl) ?_|refine Zb3 (fun _ _ => rfl) ?_|refine Kc1 rfl ?_|refine Kc2 rfl ?_))
  rw [Zac]
  refine Z8o ?_
  refine ares rfl (HSub.refl _) ⟨?_, rfl⟩
  simp [longF, Z8x]
  try omega
 (repeat(first|refine Kq rfl rfl rfl ?_|(refine Z99 ?_; (repeat(first|refine Z9x rfl ?_|refine Z9y ?_)); refine Z9w ?_)|refine Ks ?_|refine Zb1 (fun _ _ => rfl) ?_|refine Z8s ?_))
 (rw [decide_eq_false (p := k = 16) (by omega)])
 (repeat(first|refine Kq rfl rfl rfl ?_|(refine Z99 ?_; (repeat(first|refine Z9x rfl ?_|refine Z9y ?_)); refine Z9w ?_)|refine Zb1 (fun _ _ => rfl) ?_|refine Kc2 rfl ?_))
 (rw [decide_eq_false (p := k = 17) (by omega)])
 (repeat(first|refine Kq rfl rfl rfl ?_|(refine Z99 ?_; (repeat(first|refine Z9x rfl ?_|refine Z9y ?_)); refine Z9w ?_)|refine Ks ?_|refine Zb1 (fun _ _ => rfl) ?_|refine Zb2 (fun _ _ => rfl) ?_|refine Kc2 rfl ?_))
 (rw [decide_eq_false (p := k = 7) (by omega)])
 (repeat(first|refine Kq rfl rfl rfl ?_|(refine Z99 ?_; (repeat(first|refine Z9x rfl ?_|refine Z9y ?_)); refine Z9w ?_)|refine Zb1 (fun _ _ => rfl) ?_|refine Kc2 rfl ?_))
 (rw [decide_eq_false (p := k = 8) (by omega)])
 (repeat(first|refine Kq rfl rfl rfl ?_|(refine Z99 ?_; (repeat(first|refine Z9x rfl ?_|refine Z9y ?_)); refine Z9w ?_)|refine Ks ?_|refine Zb1 (fun _ _ => rfl) ?_|refine Zb2 (fun _ _ => rfl) ?_|refine Zb3 (fun _ _ => rfl) ?_|refine Kc2 rfl ?_))
 (refine Z8o ?_; exact Kar rfl ⟨(by simp [longF, Z8x, k16, k17, k7, k8]), rfl⟩)
def Z13d (k : Int) (n kids : Nat) : Nat :=
 if k = 11 then (if n % 2 ≠ 0 then 1 else if 16384 < n / 2 then 4 else 0)
 else if k = 10 then (if 16384 < n then 4 else 0)
 else if k = 12 then (if n ≠ kids then 1 else 0)
 else if k = 13 then (if n ≠ 1 then 1 else 0)
 else 0
theorem Z13e (t : Ty) (v : Vl) (hk : v.kids.length ≤ 9223372036854775807) (σ : Zc) : Z1s Try.prog Zf5 [encT t, encV v] σ fun r σ' => r = .int .i64 (Z13d t.kind v.kids.length t.kids.length : Int) ∧ σ' = σ := by
 obtain ⟨k, ns, ks, l, p, s⟩ := t
 obtain ⟨nu, i, n, b, vks⟩ := v
 simp only [encT, encV, Ty.kind, Ty.kids, Vl.kids] at *
 refine Z94 rfl Z12n (Nat.le_of_ble_eq_true rfl) ?_
 refine Za1 ?_
 refine Z9n rfl (Kfi rfl) fun b1 hb1 => ?_
 refine Z9n rfl (Kfi rfl) fun b2 hb2 => ?_
 repeat refine Kq rfl rfl rfl ?_
 (refine Z99 ?_; (repeat(first|refine Z9x rfl ?_|refine Z9y ?_)); refine Z9w ?_)
 refine Zaj (d := 3) (cs := [.bool nu, .int .i64 i, .int .i64 n, .slc 1 (bytes b) false, .slc 5 (Zmg vks) false]) rfl ?_
 refine Zaj (d := 2) (cs := [.int .i64 k, .slc 1 (ns.map .str) false, .slc 6 (Zly ks) false, .int .i64 l, .int .i64 p, .int .i64 s]) rfl ?_
 by_cases k11 : k = 11
 ·subst k11
  (repeat(first|refine Kq rfl rfl rfl ?_|(refine Z99 ?_; (repeat(first|refine Z9x rfl ?_|refine Z9y ?_)); refine Z9w ?_)|refine Ks ?_|refine Zb1 (fun _ _ => rfl) ?_|refine Z8s ?_|refine Zb3 (fun _ _ => rfl) ?_|refine Kc1 rfl ?_))
  rw [Zmk, quo2n _ hk, show (vks.length : Int).tmod 2 = ((vks.length % 2 : Nat) : Int) by rw [Int.tmod_eq_emod_of_nonneg (by omega)]; omega]
  by_cases q : vks.length % 2 = 0
  ·(rw [decide_eq_true (p := ((vks.length % 2 : Nat) : Int) = 0) (by omega)])
   (repeat(first|refine Kq rfl rfl rfl ?_|refine Z96 rfl (Kq rfl rfl rfl ?_)|(refine Z99 ?_; (repeat(first|refine Z9x rfl ?_|refine Z9y ?_)); refine Z9w ?_)))
   by_cases q2 : 16384 < vks.length / 2
   ·(rw [decide_eq_true (p := (16384 : Int) < ((vks.length / 2 : Nat) : Int)) (by omega)])
    (repeat(first|refine Kq rfl rfl rfl ?_|(refine Z99 ?_; (repeat(first|refine Z9x rfl ?_|refine Z9y ?_)); refine Z9w ?_)|refine Ks ?_|refine Zb1 (fun _ _ => rfl) ?_|refine Kc1 rfl ?_))
    (refine Z8o ?_; exact Kar rfl ⟨(by simp [Z13d, q, q2, Z8x]), rfl⟩)
   ·(rw [decide_eq_false (p := (16384 : Int) < ((vks.length / 2 : Nat) : Int)) (by omega)])
    (repeat(first|refine Kq rfl rfl rfl ?_|(refine Z99 ?_; (repeat(first|refine Z9x rfl ?_|refine Z9y ?_)); refine Z9w ?_)|refine Ks ?_|refine Zb1 (fun _ _ => rfl) ?_|refine Zb2 (fun _ _ => rfl) ?_|refine Zb3 (fun _ _ => rfl) ?_|refine Kc2 rfl ?_))
    (refine Z8o ?_; exact Kar rfl ⟨(by simp [Z13d, q, q2, Z8x]), rfl⟩)
  ·(rw [decide_eq_false (p := ((vks.length % 2 : Nat) : Int) = 0) (by omega)])
   (repeat(first|refine Kq rfl rfl rfl ?_|refine Z97 rfl ?_|(refine Z99 ?_; (repeat(first|refine Z9x rfl ?_|refine Z9y ?_)); refine Z9w ?_)|refine Ks ?_|refine Zb1 (fun _ _ => rfl) ?_|refine Zb2 (fun _ _ => rfl) ?_|refine Zb3 (fun _ _ => rfl) ?_|refine Kc1 rfl ?_|refine Kc2 rfl ?_))
   (refine Z8o ?_; exact Kar rfl ⟨(by simp [Z13d, q, Z8x]), rfl⟩)
 by_cases k10 : k = 10
 ·subst k10
  (repeat(first|refine Kq rfl rfl rfl ?_|refine Z96 rfl (Kq rfl rfl rfl ?_)|(refine Z99 ?_; (repeat(first|refine Z9x rfl ?_|refine Z9y ?_)); refine Z9w ?_)|refine Ks ?_|refine Zb1 (fun _ _ => rfl) ?_|refine Z8s ?_|refine Zb2 (fun _ _ => rfl) ?_|refine Zb3 (fun _ _ => rfl) ?_|refine Kc1 rfl ?_|refine Kc2 rfl ?_))
  rw [Zmk]
  by_cases q2 : 16384 < vks.length
  ·(rw [decide_eq_true (p := (16384 : Int) < (vks.length : Int)) (by omega)])
   (repeat(first|refine Kq rfl rfl rfl ?_|(refine Z99 ?_; (repeat(first|refine Z9x rfl ?_|refine Z9y ?_)); refine Z9w ?_)|refine Ks ?_|refine Zb1 (fun _ _ => rfl) ?_|refine Kc1 rfl ?_))
   (refine Z8o ?_; exact Kar rfl ⟨(by simp [Z13d, q2, Z8x]), rfl⟩)
  ·(rw [decide_eq_false (p := (16384 : Int) < (vks.length : Int)) (by omega)])
   (repeat(first|refine Kq rfl rfl rfl ?_|(refine Z99 ?_; (repeat(first|refine Z9x rfl ?_|refine Z9y ?_)); refine Z9w ?_)|refine Ks ?_|refine Zb1 (fun _ _ => rfl) ?_|refine Zb2 (fun _ _ => rfl) ?_|refine Zb3 (fun _ _ => rfl) ?_|refine Kc2 rfl ?_))
   (refine Z8o ?_; exact Kar rfl ⟨(by simp [Z13d, q2, Z8x]), rfl⟩)
 by_cases k12 : k = 12
 ·subst k12
  (repeat(first|refine Kq rfl rfl rfl ?_|(refine Z99 ?_; (repeat(first|refine Z9x rfl ?_|refine Z9y ?_)); refine Z9w ?_)|refine Ks ?_|refine Zb1 (fun _ _ => rfl) ?_|refine Z8s ?_|refine Zb2 (fun _ _ => rfl) ?_|refine Zb3 (fun _ _ => rfl) ?_|refine Kc1 rfl ?_|refine Kc2 rfl ?_))
  rw [Zmk, Zm2]
  by_cases q2 : vks.length = ks.length
  ·(rw [decide_eq_true (p := (vks.length : Int) = (ks.length : Int)) (by omega)])
   (repeat(first|refine Kq rfl rfl rfl ?_|(refine Z99 ?_; (repeat(first|refine Z9x rfl ?_|refine Z9y ?_)); refine Z9w ?_)|refine Ks ?_|refine Zb1 (fun _ _ => rfl) ?_|refine Zb2 (fun _ _ => rfl) ?_|refine Kc2 rfl ?_))
   (refine Z8o ?_; exact Kar rfl ⟨(by simp [Z13d, q2, Z8x]), rfl⟩)
  ·(rw [decide_eq_false (p := (vks.length : Int) = (ks.length : Int)) (by omega)])
   (repeat(first|refine Kq rfl rfl rfl ?_|(refine Z99 ?_; (repeat(first|refine Z9x rfl ?_|refine Z9y ?_)); refine Z9w ?_)|refine Ks ?_|refine Zb1 (fun _ _ => rfl) ?_|refine Kc1 rfl ?_))
   (refine Z8o ?_; exact Kar rfl ⟨(by simp [Z13d, q2, Z8x]), rfl⟩)
 by_cases k13 : k = 13
 ·subst k13
  (repeat(first|refine Kq rfl rfl rfl ?_|(refine Z99 ?_; (repeat(first|refine Z9x rfl ?_|refine Z9y ?_)); refine Z9w ?_)|refine Ks ?_|refine Zb1 (fun _ _ => rfl) ?_|refine Z8s ?_|refine Zb2 (fun _ _ => rfl) ?_|refine Zb3 (fun _ _ => rfl) ?_|refine Kc1 rfl ?_|refine Kc2 rfl ?_))
  rw [Zmk]
  by_cases q2 : vks.length = 1
  ·(rw [decide_eq_true (p := (vks.length : Int) = 1) (by omega)])
   (repeat(first|refine Kq rfl rfl rfl ?_|(refine Z99 ?_; (repeat(first|refine Z9x rfl ?_|refine Z9y ?_)); refine Z9w ?_)|refine Ks ?_|refine Zb1 (fun _ _ => rfl) ?_|refine Zb2 (fun _ _ => rfl) ?_|refine Kc2 rfl ?_))
   (refine Z8o ?_; exact Kar rfl ⟨(by simp [Z13d, q2, Z8x]), rfl⟩)
  ·(rw [decide_eq_false (p := (vks.length : Int) = 1) (by omega)])
   (repeat(first|refine Kq rfl rfl rfl ?_|(refine Z99 ?_; (repeat(first|refine Z9x rfl ?_|refine Z9y ?_)); refine Z9w ?_)|refine Ks ?_|refine Zb1 (fun _ _ => rfl) ?_|refine Kc1 rfl ?_))
   (refine Z8o ?_; exact Kar rfl ⟨(by simp [Z13d, q2, Z8x]), rfl⟩)
 (repeat(first|refine Kq rfl rfl rfl ?_|(refine Z99 ?_; (repeat(first|refine Z9x rfl ?_|refine Z9y ?_)); refine Z9w ?_)|refine Ks ?_|refine Zb1 (fun _ _ => rfl) ?_|refine Z8s ?_))
 (rw [decide_eq_false (p := k = 11) (by omega)])
 (repeat(first|refine Kq rfl rfl rfl ?_|(refine Z99 ?_; (repeat(first|refine Z9x rfl ?_|refine Z9y ?_)); refine Z9w ?_)|refine Ks ?_|refine Zb1 (fun _ _ => rfl) ?_|refine Zb2 (fun _ _ => rfl) ?_|refine Kc2 rfl ?_))
 (rw [decide_eq_false (p := k = 10) (by omega)])
 (repeat(first|refine Kq rfl rfl rfl ?_|(refine Z99 ?_; (repeat(first|refine Z9x rfl ?_|refine Z9y ?_)); refine Z9w ?_)|refine Ks ?_|refine Zb1 (fun _ _ => rfl) ?_|refine Zb2 (fun _ _ => rfl) ?_|refine Kc2 rfl ?_))
 (rw [decide_eq_false (p := k = 12) (by omega)])
 (repeat(first|refine Kq rfl rfl rfl ?_|(refine Z99 ?_; (repeat(first|refine Z9x rfl ?_|refine Z9y ?_)); refine Z9w ?_)|refine Ks ?_|refine Zb1 (fun _ _ => rfl) ?_|refine Zb2 (fun _ _ => rfl) ?_|refine Kc2 rfl ?_))
 (rw [decide_eq_false (p := k = 13) (by omega)])
 (repeat(first|refine Kq rfl rfl rfl ?_|(refine Z99 ?_; (repeat(first|refine Z9x rfl ?_|refine Z9y ?_)); refine Z9w ?_)|refine Ks ?_|refine Zb1 (fun _ _ => rfl) ?_|refine Zb2 (fun _ _ => rfl) ?_|refine Zb3 (fun _ _ => rfl) ?_|refine Kc2 rfl ?_))
 (refine Z8o ?_; exact Kar rfl ⟨(by simp [Z13d, Z8x, k10, k11, k12, k13]), rfl⟩)
end Go.Abs
namespace Go.Abs
open Go Go.Proofs
attribute [local irreducible] AWp aops KP
theorem c_kid (t : Ty) (i n : Int) (nu : Bool) (bs : List UInt8) (vks : List Vl) (j : Nat) (hj : j ≤ 9223372036854775807) (hi : t.kind = 13 → 0 ≤ i) (hlt : Zmq t.kind i j < t.kids.length) (σ : Zc) :
  Z1s Try.prog Zf6 [encT t, encV (.mk nu i n bs vks), .int .i64 (j : Int)] σ fun r σ' => r = .tup [encT (kidT t i j), .bool true] ∧ σ' = σ := by
 obtain ⟨k, ns, ks, l, p, s⟩ := t
 simp only [Ty.kind, Ty.kids] at hi hlt
 obtain ⟨t', ht'⟩ : ∃ t', ks[Zmq k i j]? = some t' := ⟨_, List.getElem?_eq_getElem hlt⟩
 have hkid : kidT (.mk k ns ks l p s) i j = t' := by simp only [kidT, Ty.kids, Ty.kind, List.getD_eq_getElem?_getD, ht', Option.getD_some]
 have hx := Zm3 ht'
 rw [hkid, Zm0 t'] at *
 simp only [encT, encV]
 refine Z94 rfl Z12o (Nat.le_of_ble_eq_true rfl) ?_
 refine Za1 ?_
 refine Z9n rfl (Kfi rfl) fun b3 hb3 => ?_
 refine Z9n rfl (Kfi rfl) fun b4 hb4 => ?_
 refine Z9o (by simp [Z0.cells, Z0.one]) fun b6 hb6 => ?_
 repeat refine Kq rfl rfl rfl ?_
 (refine Z99 ?_; (repeat(first|refine Z9x rfl ?_|refine Z9y ?_)); refine Z9w ?_)
 refine Z8l (FSub.refl _) (HSub.swap _ _ _) ?_
 refine Zaj (d := 4) (cs := [.bool nu, .int .i64 i, .int .i64 n, .slc 1 (bytes bs) false, .slc 5 (Zmg vks) false]) rfl ?_
 refine Z8l (FSub.refl _) (HSub.swap _ _ _) ?_
 refine Zaj (d := 3) (cs := [.int .i64 k, .slc 1 (ns.map .str) false, .slc 6 (Zly ks) false, .int .i64 l, .int .i64 p, .int .i64 s]) rfl ?_
 (refine Za0 (keep := [2, 3, 4, 6]) ?_; ((repeat(first|refine Z9x rfl ?_|refine Z9y ?_)); refine Z9w ?_))
 have fin : ∀ (a : Nat), a = Zmq k i j → AWp Try.prog Z11f.n (Z11f.code.snd 2) (ARet Z11f.res fun r σ' => r = .tup [.agg (Zlz t'), .bool true] ∧ σ' = σ)
   (fset 2 (some (.int .i64 (a : Int))) (fset 3 (some (.iptr [.int .i64 k, .slc 1 (ns.map .str) false, .slc 6 (Zly ks) false, .int .i64 l, .int .i64 p, .int .i64 s])) (fset 6 (some (.ptr b6 0 0)) Z28)))
   ((b6, .cells 6 [.agg [.int .i64 0, .slc 0 [] true, .slc 0 [] true, .int .i64 0, .int .i64 0, .int .i64 0]]) :: σ) := by
  rintro a rfl
  (repeat(first|refine Kq rfl rfl rfl ?_|(refine Z99 ?_; (repeat(first|refine Z9x rfl ?_|refine Z9y ?_)); refine Z9w ?_)|refine Ks ?_|refine Zb1 (fun _ _ => rfl) ?_))
  rw [Zm2]
  (rw [decide_eq_false (p := (ks.length : Int) ≤ ((Zmq k i j : Nat) : Int)) (by omega)])
  (repeat(first|refine Kq rfl rfl rfl ?_|refine Ks ?_|refine Zb1 (fun _ _ => rfl) ?_|refine Zb2 (fun _ _ => rfl) ?_|refine Kc2 rfl ?_))
  refine Z9d rfl (by omega) (by rw [Int.toNat_natCast]; exact hx) ?_
  (repeat refine Kq rfl rfl rfl ?_)
  (first|refine Z9g rfl Z9a rfl (by decide) (Kfi rfl) (fun h => by cases h) Z9h ?_|refine Z96 rfl (Z9g rfl Z9a rfl (by decide) (Kfi rfl) (fun h => by cases h) Z9h ?_))
  (repeat(first|refine Kq rfl rfl rfl ?_|(refine Z99 ?_; (repeat(first|refine Z9x rfl ?_|refine Z9y ?_)); refine Z9w ?_)))
  refine Z8o ?_
  exact ares (vs := [.agg (Zlz t'), .bool true]) (Zbc (Zbd rfl Z9a rfl) (Zbc rfl rfl)) (HSub.tail _ _) ⟨rfl, rfl⟩
 refine Ks ?_
 refine Ks ?_
 refine Zb1 (fun _ _ => rfl) ?_
 repeat refine Kq rfl rfl rfl ?_
 (refine Z99 ?_; (repeat(first|refine Z9x rfl ?_|refine Z9y ?_)); refine Z9w ?_)
 refine Z8s ?_
 refine Ks ?_
 refine Zb1 (fun _ _ => rfl) ?_
 repeat refine Kq rfl rfl rfl ?_
 (refine Z99 ?_; (repeat(first|refine Z9x rfl ?_|refine Z9y ?_)); refine Z9w ?_)
 refine Za2 (p := k = 10) rfl (fun k10 => ?_) (fun k10 => ?_)
 ·refine Zb1 (fun _ _ => rfl) ?_
  repeat refine Kq rfl rfl rfl ?_
  (refine Z99 ?_; (repeat(first|refine Z9x rfl ?_|refine Z9y ?_)); refine Z9w ?_)
  exact fin 0 (by simp [Zmq, k10])
 refine Ks ?_
 refine Zb1 (fun _ _ => rfl) ?_
 repeat refine Kq rfl rfl rfl ?_
 (refine Z99 ?_; (repeat(first|refine Z9x rfl ?_|refine Z9y ?_)); refine Z9w ?_)
 refine Za2 (p := k = 11) rfl (fun k11 => ?_) (fun k11 => ?_)
 ·refine Zb1 (fun _ _ => rfl) ?_
  repeat refine Kq rfl rfl rfl ?_
  rw [show (j : Int).tmod 2 = ((j % 2 : Nat) : Int) by rw [Int.tmod_eq_emod_of_nonneg (by omega)]; omega]
  repeat refine Kq rfl rfl rfl ?_
  (refine Z99 ?_; (repeat(first|refine Z9x rfl ?_|refine Z9y ?_)); refine Z9w ?_)
  exact fin (j % 2) (by simp [Zmq, k11])
 refine Ks ?_
 refine Zb1 (fun _ _ => rfl) ?_
 repeat refine Kq rfl rfl rfl ?_
 (refine Z99 ?_; (repeat(first|refine Z9x rfl ?_|refine Z9y ?_)); refine Z9w ?_)
 refine Za2 (p := k = 13) rfl (fun k13 => ?_) (fun k13 => ?_)
 ·have h0 := hi k13
  have hki : Zmq k i j = i.toNat := by simp [Zmq, k13]
  rw [hki] at hlt
  refine Ks ?_
  refine Ks ?_
  refine Zb1 (fun _ _ => rfl) ?_
  repeat refine Kq rfl rfl rfl ?_
  (rw [decide_eq_false (p := i < 0) (by omega)])
  (repeat(first|refine Kq rfl rfl rfl ?_|refine Z96 rfl (Kq rfl rfl rfl ?_)))
  rw [Zm2]
  (rw [decide_eq_false (p := (ks.length : Int) ≤ i) (by omega)])
  skip
  (refine Z99 ?_; (repeat(first|refine Z9x rfl ?_|refine Z9y ?_)); refine Z9w ?_)
  refine Kc2 rfl ?_
  refine Zb2 (fun _ _ => rfl) ?_
  (refine Za0 (keep := [3, 4, 6]) ?_; ((repeat(first|refine Z9x rfl ?_|refine Z9y ?_)); refine Z9w ?_))
  refine Zb1 (fun _ _ => rfl) ?_
  repeat refine Kq rfl rfl rfl ?_
  rw [show i = ((i.toNat : Nat) : Int) by omega]
  (refine Z99 ?_; (repeat(first|refine Z9x rfl ?_|refine Z9y ?_)); refine Z9w ?_)
  exact fin i.toNat hki.symm
 ·refine Zb2 (fun _ _ => rfl) ?_
  (refine Za0 (keep := [2, 3, 6]) ?_; ((repeat(first|refine Z9x rfl ?_|refine Z9y ?_)); refine Z9w ?_))
  exact fin j (by simp [Zmq, k10, k11, k13])
theorem Z13f {k : Int} (h : Zmm k = true) : k = 7 ∨ k = 8 ∨ k = 16 ∨ k = 17 := by
 simp only [Zmm, Bool.or_eq_true, decide_eq_true_eq] at h
 omega
theorem Z13g (t : Ty) (i n : Int) (b : List UInt8) (m : Nat) : ownV t i n b m =
  if Z13a t.kind false i n b m = false ∨ numI t.kind t.kids.length t.prec i n = false then 1 else if longF t.kind t.len b = true then 4 else Z13d t.kind m t.kids.length := by
 have hc : Z13d t.kind m t.kids.length = (if t.kind = 10 then (if 16384 < m then 4 else 0)
   else if t.kind = 11 then (if m % 2 ≠ 0 then 1 else if 32768 < m then 4 else 0)
   else if t.kind = 12 then (if m ≠ t.kids.length then 1 else 0)
   else if t.kind = 13 then (if m ≠ 1 then 1 else 0)
   else 0) := by
  unfold Z13d
  by_cases h11 : t.kind = 11
  ·have h10 : ¬ t.kind = 10 := by omega
   rw [if_pos h11, if_neg h10, if_pos h11]
   by_cases hm : m % 2 ≠ 0
   ·rw [if_pos hm, if_pos hm]
   ·rw [if_neg hm, if_neg hm]
    by_cases h16 : 16384 < m / 2
    ·rw [if_pos h16, if_pos (by omega)]
    ·rw [if_neg h16, if_neg (by omega)]
  ·rw [if_neg h11]
   by_cases h10 : t.kind = 10
   ·rw [if_pos h10, if_pos h10]
   ·rw [if_neg h10, if_neg h10, if_neg h11]
 have h1 : (Zmp t.kind t.kids.length t.prec i n = false ∨ (b ≠ [] ∧ Zmm t.kind = false) ∨ (m ≠ 0 ∧ Zm4 t.kind = true)) ↔ (Z13a t.kind false i n b m = false ∨ numI t.kind t.kids.length t.prec i n = false) := by
  rw [Z138]
  simp only [Z13a, Bool.false_eq_true, if_false, decide_eq_false_iff_not]
  cases hx : numI t.kind t.kids.length t.prec i n <;> cases Zmm t.kind <;> cases Zm4 t.kind <;> by_cases hn : n = 0 <;> by_cases h9 : t.kind = 9 <;> by_cases hb : b = [] <;> by_cases hm : m = 0 <;> simp_all
 unfold ownV
 by_cases hA : Z13a t.kind false i n b m = false ∨ numI t.kind t.kids.length t.prec i n = false
 ·rw [if_pos hA, if_pos (h1.2 hA)]
 ·rw [if_neg hA, if_neg (fun h => hA (h1.1 h)), hc]
  have hB : b = [] ∨ Zmm t.kind = true := by
   simp only [not_or, Bool.not_eq_false] at hA
   have := hA.1
   simp only [Z13a, Bool.false_eq_true, if_false, decide_eq_true_eq] at this
   exact this.2.1
  have h2 : (4096 < b.length ∨ ((t.kind = 16 ∨ t.kind = 17) ∧ t.len < (Zmn b : Int))) ↔ longF t.kind t.len b = true := by
   simp only [longF, decide_eq_true_eq]
   rcases hB with hb | hb
   ·subst hb
    simp
   ·have := Z13f hb
    constructor
    ·rintro (h | h)
     ·exact .inr ⟨this, h⟩
     ·exact .inl h
    ·rintro (h | h)
     ·exact .inr h
     ·exact .inl h.2
  by_cases hL : longF t.kind t.len b = true
  ·rw [if_pos hL, if_pos (h2.2 hL)]
  ·rw [if_neg hL, if_neg (fun h => hL (h2.1 h))]
theorem Z13h : ∀ (v : Vl), v.Fit → ∀ (t : Ty), t.Ok → ∀ σ, Z1s Try.prog Ze3 [encT t, encV v] σ fun r σ' => r = .int .i64 (vchk t v : Int) ∧ σ' = σ := by
 refine Vl.ind fun nu i n bs vks ih hfit t hok σ => ?_
 cases hfit with
 | mk hi hbl hkl hkids =>
 have hka := fun (j : Nat) (hj : j < vks.length) (ho : ownV t i n bs vks.length = 0) => Zqt hok ho hj
 have hko := fun (j : Nat) (hlt : Zmq t.kind i j < t.kids.length) => Zqu (i := i) (j := j) hok hlt
 have hkid := fun (j : Nat) (hj : j ≤ 9223372036854775807) => c_kid t i n nu bs vks j hj
 have hNa := Z13b t (.mk nu i n bs vks)
 have hNu := Z139 t (.mk nu i n bs vks) hi
 have hLo := Z13c t (.mk nu i n bs vks) hbl
 have hCo := Z13e t (.mk nu i n bs vks) hkl
 have hown := Z13g t i n bs vks.length
 have hvL := Zqv t i vks
 generalize hX : vchk t (.mk nu i n bs vks) = X
 have hX' := hX
 rw [vchk] at hX'
 simp only [Vl.null, Vl.i, Vl.n, Vl.b, Vl.kids] at hNa hNu hLo hCo hkl hkids
 have hkl : vks.length ≤ 9223372036854775807 := hkl
 simp only [Zm0, Zmi] at *
 refine Z94 rfl Z12j (Nat.le_of_ble_eq_true rfl) ?_
 refine Za1 ?_
 refine Z9n rfl (Kfi rfl) fun b1 hb1 => ?_
 refine Z9n rfl (Kfi rfl) fun b2 hb2 => ?_
 repeat refine Kq rfl rfl rfl ?_
 (refine Z99 ?_; (repeat(first|refine Z9x rfl ?_|refine Z9y ?_)); refine Z9w ?_)
 refine Zaj (d := 3) (cs := Zmh (.mk nu i n bs vks)) rfl ?_
 refine Zaj (d := 2) (cs := Zlz t) rfl ?_
 (repeat(first|refine Kq rfl rfl rfl ?_|refine Ks ?_|refine Zb1 (fun _ _ => rfl) ?_|refine Z8s ?_))
 (first|refine Z9v rfl (hNa _) ?_|refine Z96 rfl (Z9v rfl (hNa _) ?_)|refine Zb9 rfl hNa ?_|refine Z96 rfl (Zb9 rfl hNa ?_))
 cases nu with
 | true =>
  rw [if_pos rfl] at hX'
  cases hq : Z13a t.kind true i n bs vks.length with
  | false =>
   (repeat(first|refine Kq rfl rfl rfl ?_|refine Z97 rfl ?_|refine Z98 rfl ?_|(refine Z99 ?_; (repeat(first|refine Z9x rfl ?_|refine Z9y ?_)); refine Z9w ?_)|refine Ks ?_|refine Zb1 (fun _ _ => rfl) ?_|refine Kc1 rfl ?_))
   refine Z8o ?_
   refine ares rfl (HSub.refl _) ⟨?_, rfl⟩
   simp only [Z13a, if_true, decide_eq_false_iff_not] at hq
   rw [← hX', if_pos (by
    by_cases a1 : i = 0
    ·by_cases a2 : n = 0
     ·by_cases a3 : bs = []
      ·exact .inr (.inr (.inr fun a4 => hq ⟨a1, a2, a3, a4⟩))
      ·exact .inr (.inr (.inl a3))
     ·exact .inr (.inl a2)
    ·exact .inl a1)]
   rfl
  | true =>
   (repeat(first|refine Kq rfl rfl rfl ?_|refine Z96 rfl (Kq rfl rfl rfl ?_)|refine Z97 rfl ?_|(refine Z99 ?_; (repeat(first|refine Z9x rfl ?_|refine Z9y ?_)); refine Z9w ?_)|refine Ks ?_|refine Zb1 (fun _ _ => rfl) ?_|refine Kc1 rfl ?_|refine Kc2 rfl ?_))
   refine Z8o ?_
   refine ares rfl (HSub.refl _) ⟨?_, rfl⟩
   simp only [Z13a, if_true, decide_eq_true_eq] at hq
   rw [← hX', if_neg (fun h => h.elim (fun h => h hq.1) fun h => h.elim (fun h => h hq.2.1) fun h => h.elim (fun h => h hq.2.2.1) fun h => h hq.2.2.2)]
   rfl
 | false =>
  rw [if_neg (by simp)] at hX'
  cases hq : Z13a t.kind false i n bs vks.length with
  | false =>
   rw [hq, if_pos (.inl rfl)] at hown
   rw [hown, if_pos (by decide)] at hX'
   (repeat(first|refine Kq rfl rfl rfl ?_|refine Z97 rfl ?_|refine Z98 rfl ?_|(refine Z99 ?_; (repeat(first|refine Z9x rfl ?_|refine Z9y ?_)); refine Z9w ?_)|refine Ks ?_|refine Zb1 (fun _ _ => rfl) ?_|refine Kc1 rfl ?_))
   (refine Z8o ?_; exact Kar rfl ⟨(by rw [← hX']; rfl), rfl⟩)
  | true =>
  (repeat(first|refine Kq rfl rfl rfl ?_|refine Z96 rfl (Kq rfl rfl rfl ?_)))
  (first|refine Z9v rfl (hNu _) ?_|refine Z96 rfl (Z9v rfl (hNu _) ?_)|refine Zb9 rfl hNu ?_|refine Z96 rfl (Zb9 rfl hNu ?_))
  cases hq2 : numI t.kind t.kids.length t.prec i n with
  | false =>
   rw [hq2, if_pos (.inr rfl)] at hown
   rw [hown, if_pos (by decide)] at hX'
   (repeat(first|refine Kq rfl rfl rfl ?_|refine Z96 rfl (Kq rfl rfl rfl ?_)|(refine Z99 ?_; (repeat(first|refine Z9x rfl ?_|refine Z9y ?_)); refine Z9w ?_)|refine Ks ?_|refine Zb1 (fun _ _ => rfl) ?_|refine Kc1 rfl ?_))
   (refine Z8o ?_; exact Kar rfl ⟨(by rw [← hX']; rfl), rfl⟩)
  | true =>
  rw [hq, hq2, if_neg (by simp)] at hown
  (repeat(first|refine Kq rfl rfl rfl ?_|refine Z96 rfl (Kq rfl rfl rfl ?_)|(refine Z99 ?_; (repeat(first|refine Z9x rfl ?_|refine Z9y ?_)); refine Z9w ?_)|refine Ks ?_|refine Zb1 (fun _ _ => rfl) ?_|refine Kc2 rfl ?_))
  (first|refine Z9v rfl (hLo _) ?_|refine Z96 rfl (Z9v rfl (hLo _) ?_)|refine Zb9 rfl hLo ?_|refine Z96 rfl (Zb9 rfl hLo ?_))
  cases hq3 : longF t.kind t.len bs with
  | true =>
   rw [hq3, if_pos rfl] at hown
   rw [hown, if_pos (by decide)] at hX'
   (repeat(first|refine Kq rfl rfl rfl ?_|(refine Z99 ?_; (repeat(first|refine Z9x rfl ?_|refine Z9y ?_)); refine Z9w ?_)|refine Ks ?_|refine Zb1 (fun _ _ => rfl) ?_|refine Kc1 rfl ?_))
   (refine Z8o ?_; exact Kar rfl ⟨(by rw [← hX']; rfl), rfl⟩)
  | false =>
  rw [hq3, if_neg (by simp)] at hown
  rw [← hown] at hCo
  (repeat(first|refine Kq rfl rfl rfl ?_|(refine Z99 ?_; (repeat(first|refine Z9x rfl ?_|refine Z9y ?_)); refine Z9w ?_)|refine Ks ?_|refine Zb1 (fun _ _ => rfl) ?_|refine Zb2 (fun _ _ => rfl) ?_|refine Kc2 rfl ?_))
  (first|refine Z9v rfl (hCo _) ?_|refine Z96 rfl (Z9v rfl (hCo _) ?_)|refine Zb9 rfl hCo ?_|refine Z96 rfl (Zb9 rfl hCo ?_))
  (repeat(first|refine Kq rfl rfl rfl ?_|(refine Z99 ?_; (repeat(first|refine Z9x rfl ?_|refine Z9y ?_)); refine Z9w ?_)|refine Ks ?_|refine Zb1 (fun _ _ => rfl) ?_))
  by_cases hq4 : ownV t i n bs vks.length = 0
  rotate_left
  ·(rw [decide_eq_true (p := (ownV t i n bs vks.length : Int) ≠ 0) (by omega)])
   rw [if_pos hq4] at hX'
   (repeat(first|refine Kq rfl rfl rfl ?_|(refine Z99 ?_; (repeat(first|refine Z9x rfl ?_|refine Z9y ?_)); refine Z9w ?_)|refine Ks ?_|refine Zb1 (fun _ _ => rfl) ?_|refine Kc1 rfl ?_))
   (refine Z8o ?_; exact Kar rfl ⟨(by rw [← hX']; rfl), rfl⟩)
  (rw [decide_eq_false (p := (ownV t i n bs vks.length : Int) ≠ 0) (by omega)])
  rw [if_neg (by simp [hq4])] at hX'
  (repeat(first|refine Kq rfl rfl rfl ?_|(refine Z99 ?_; (repeat(first|refine Z9x rfl ?_|refine Z9y ?_)); refine Z9w ?_)|refine Ks ?_|refine Zb1 (fun _ _ => rfl) ?_|refine Z8s ?_|refine Zb2 (fun _ _ => rfl) ?_|refine Kc2 rfl ?_))
  rw [Zmk]
  obtain ⟨I, hI⟩ : ∃ I : Nat → Z27 → Zc → Prop, I = fun m F σ' => ∃ (j : Nat), F = fset 2 (some (.iptr (Zlz t))) (fset 3 (some (.iptr (Zmh (.mk false i n bs vks)))) (fset 41 (some (.slc 5 (Zmg vks) false)) (fset 42 (some (.int .i64 (vks.length : Int))) (fset 43 (some (.int .i64 (j : Int))) Z28)))) ∧
   σ = σ' ∧ j ≤ vks.length ∧ Zmr t i j (vks.drop j) = X ∧ m = vks.length - j := ⟨_, rfl⟩
  refine Za6 I (n := vks.length) (by rw [hI]; exact ⟨0, rfl, rfl, by omega, hX', rfl⟩) ?_
  intro m F σ' hIm
  rw [hI] at hIm
  obtain ⟨j, rfl, rfl, hj, hXj, rfl⟩ := hIm
  (repeat(first|refine Kq rfl rfl rfl ?_|(refine Z99 ?_; (repeat(first|refine Z9x rfl ?_|refine Z9y ?_)); refine Z9w ?_)|refine Ks ?_|refine Zb1 (fun _ _ => rfl) ?_))
  refine Za2 (p := (j : Int) < (vks.length : Int)) rfl (fun h5 => ?_) (fun h5 => ?_)
  ·have hjl : j < vks.length := by omega
   obtain ⟨hlt, hi0⟩ := hka j hjl hq4
   have hg : (Zmg vks)[((j : Nat) : Int).toNat]? = some (.agg (Zmh vks[j])) := by rw [← Zmi]; exact Zml (by rw [Int.toNat_natCast, List.getElem?_eq_getElem hjl])
   have hK := hkid j (by omega) hi0 hlt
   have hcv := ih vks[j] (List.getElem_mem hjl) (hkids _ (List.getElem_mem hjl)) (kidT t i j) (hko j hlt)
   rw [hvL j vks[j] (List.getElem?_eq_getElem hjl)] at hXj
   generalize vks[j] = w at hg hcv hXj
   generalize kidT t i j = u at hK hcv hXj
   have cont : ∀ (R : Z8i), (∀ F σ', R .normal F σ' = AWp Try.prog Zzk.n (.region Zzh [2, 3, 41, 42, 43]) (Za5 I (vks.length - j) (Z8r 1 (Z8p Try.prog Zzk.n (Zzk.code.snd 4) (ARet Zzk.res fun r σ' => r = .int .i64 (X : Int) ∧ σ' = σ)))) F σ') →
     (∀ F σ', R .ret F σ' = ARet Zzk.res (fun r σ' => r = .int .i64 (X : Int) ∧ σ' = σ) .ret F σ') → ¬ (t.kind = 11 ∧ j % 2 = 0 ∧ w.null = true) →
     AWp Try.prog Zzk.n (.seq (.region Zze [2, 3, 10, 41, 42, 43]) (.seq (.region Zzf [2, 3, 10, 41, 42, 43, 75]) (.cond (.t 75) (.seq (.region Zzg [4]) .ret) .skip))) R
      (fset 2 (some (.iptr (Zlz t))) (fset 3 (some (.iptr (Zmh (.mk false i n bs vks)))) (fset 7 (some (.iptr (Zmh w))) (fset 8 (some (.iptr (Zlz u))) (fset 41 (some (.slc 5 (Zmg vks) false)) (fset 42 (some (.int .i64 (vks.length : Int))) (fset 43 (some (.int .i64 (j : Int))) Z28))))))) σ := by
    intro R hR hRr hno
    rw [if_neg hno] at hXj
    refine Ks ?_
    refine Zb1 (fun _ _ => rfl) ?_
    repeat refine Kq rfl rfl rfl ?_
    (first|refine Z9v rfl (hcv _) ?_|refine Z96 rfl (Z9v rfl (hcv _) ?_)|refine Zb9 rfl hcv ?_|refine Z96 rfl (Zb9 rfl hcv ?_))
    repeat refine Kq rfl rfl rfl ?_
    (refine Z99 ?_; (repeat(first|refine Z9x rfl ?_|refine Z9y ?_)); refine Z9w ?_)
    refine Ks ?_
    refine Zb1 (fun _ _ => rfl) ?_
    repeat refine Kq rfl rfl rfl ?_
    (refine Z99 ?_; (repeat(first|refine Z9x rfl ?_|refine Z9y ?_)); refine Z9w ?_)
    refine Za2 (p := (vchk u w : Int) ≠ 0) rfl (fun h6 => ?_) (fun h6 => ?_)
    ·rw [if_pos (by omega)] at hXj
     refine Ks ?_
     refine Zb1 (fun _ _ => rfl) ?_
     repeat refine Kq rfl rfl rfl ?_
     (refine Z99 ?_; (repeat(first|refine Z9x rfl ?_|refine Z9y ?_)); refine Z9w ?_)
     refine Z8o ?_
     rw [hRr]
     exact Kar rfl ⟨by rw [← hXj]; rfl, rfl⟩
    ·rw [if_neg (by omega)] at hXj
     refine Zb2 hR ?_
     (refine Za0 (keep := [2, 3, 41, 42, 43]) ?_; ((repeat(first|refine Z9x rfl ?_|refine Z9y ?_)); refine Z9w ?_))
     refine Zb4 ?_
     repeat refine Kq rfl rfl rfl ?_
     rw [Kwr j (by omega)]
     repeat refine Kq rfl rfl rfl ?_
     (refine Z99 ?_; (repeat(first|refine Z9x rfl ?_|refine Z9y ?_)); refine Z9w ?_)
     exact ⟨_, vks.length - (j + 1), HSub.refl _, by rw [hI]; exact ⟨j + 1, rfl, rfl, by omega, hXj, rfl⟩, by omega⟩
   (repeat(first|refine Kq rfl rfl rfl ?_|refine Ks ?_|refine Zb1 (fun _ _ => rfl) ?_|refine Z8s ?_|refine Zb2 (fun _ _ => rfl) ?_))
   refine Z9d rfl (by omega) hg ?_
   repeat refine Kq rfl rfl rfl ?_
   refine Z9o (by simp [Z0.cells, Z0.one]) fun b7 hb7 => ?_
   repeat refine Kq rfl rfl rfl ?_
   (first|refine Z9g rfl Z9a rfl (by decide) (Kfi rfl) (fun h => by cases h) Z9h ?_|refine Z96 rfl (Z9g rfl Z9a rfl (by decide) (Kfi rfl) (fun h => by cases h) Z9h ?_))
   (refine Z99 ?_; (repeat(first|refine Z9x rfl ?_|refine Z9y ?_)); refine Z9w ?_)
   refine Zaj (d := 7) (cs := Zmh w) rfl ?_
   (repeat(first|refine Kq rfl rfl rfl ?_|refine Ks ?_|refine Zb1 (fun _ _ => rfl) ?_))
   (first|refine Z9v rfl (hK _) ?_|refine Z96 rfl (Z9v rfl (hK _) ?_)|refine Zb9 rfl hK ?_|refine Z96 rfl (Zb9 rfl hK ?_))
   repeat refine Kq rfl rfl rfl ?_
   refine Z9o (by simp [Z0.cells, Z0.one]) fun b8 hb8 => ?_
   (first|refine Z9g rfl Z9a rfl (by decide) (Kfi rfl) (fun h => by cases h) Z9h ?_|refine Z96 rfl (Z9g rfl Z9a rfl (by decide) (Kfi rfl) (fun h => by cases h) Z9h ?_))
   repeat refine Kq rfl rfl rfl ?_
   (refine Z99 ?_; (repeat(first|refine Z9x rfl ?_|refine Z9y ?_)); refine Z9w ?_)
   refine Zaj (d := 8) (cs := Zlz u) rfl ?_
   refine Ks ?_
   refine Ks ?_
   refine Zb1 (fun _ _ => rfl) ?_
   (repeat(first|refine Kq rfl rfl rfl ?_|refine Z96 rfl (Kq rfl rfl rfl ?_)))
   by_cases k11 : t.kind = 11
   ·(rw [decide_eq_true (p := t.kind = 11) (by omega)])
    (repeat refine Z96 rfl (Kq rfl rfl rfl ?_))
    rw [show (j : Int).tmod 2 = ((j % 2 : Nat) : Int) by rw [Int.tmod_eq_emod_of_nonneg (by omega)]; omega]
    by_cases hp : j % 2 = 0
    ·(rw [decide_eq_true (p := ((j % 2 : Nat) : Int) = 0) (by omega)])
     (repeat(first|refine Kq rfl rfl rfl ?_|refine Z96 rfl (Kq rfl rfl rfl ?_)))
     cases hw : w.null with
     | true =>
      rw [if_pos ⟨k11, hp, hw⟩] at hXj
      skip
      (refine Z99 ?_; (repeat(first|refine Z9x rfl ?_|refine Z9y ?_)); refine Z9w ?_)
      refine Kc1 rfl ?_
      (repeat(first|refine Kq rfl rfl rfl ?_|(refine Z99 ?_; (repeat(first|refine Z9x rfl ?_|refine Z9y ?_)); refine Z9w ?_)|refine Ks ?_|refine Zb1 (fun _ _ => rfl) ?_))
      (refine Z8o ?_; exact Kar rfl ⟨(by rw [← hXj]; rfl), rfl⟩)
     | false =>
      skip
      (refine Z99 ?_; (repeat(first|refine Z9x rfl ?_|refine Z9y ?_)); refine Z9w ?_)
      refine Kc2 rfl ?_
      refine Zb2 (fun _ _ => rfl) ?_
      (refine Za0 (keep := [2, 3, 7, 8, 41, 42, 43]) ?_; ((repeat(first|refine Z9x rfl ?_|refine Z9y ?_)); refine Z9w ?_))
      exact cont _ (by intro _ _; rfl) (by intro _ _; rfl) (by simp [hw])
    ·(rw [decide_eq_false (p := ((j % 2 : Nat) : Int) = 0) (by omega)])
     (repeat(first|refine Kq rfl rfl rfl ?_|refine Z96 rfl (Kq rfl rfl rfl ?_)|refine Z97 rfl ?_))
     (refine Z99 ?_; (repeat(first|refine Z9x rfl ?_|refine Z9y ?_)); refine Z9w ?_)
     refine Kc2 rfl ?_
     refine Zb2 (fun _ _ => rfl) ?_
     (refine Za0 (keep := [2, 3, 7, 8, 41, 42, 43]) ?_; ((repeat(first|refine Z9x rfl ?_|refine Z9y ?_)); refine Z9w ?_))
     exact cont _ (by intro _ _; rfl) (by intro _ _; rfl) (by simp [hp])
   ·(rw [decide_eq_false (p := t.kind = 11) (by omega)])
    (repeat(first|refine Kq rfl rfl rfl ?_|refine Z96 rfl (Kq rfl rfl rfl ?_)|refine Z97 rfl ?_))
    (refine Z99 ?_; (repeat(first|refine Z9x rfl ?_|refine Z9y ?_)); refine Z9w ?_)
    refine Kc2 rfl ?_
    refine Zb2 (fun _ _ => rfl) ?_
    (refine Za0 (keep := [2, 3, 7, 8, 41, 42, 43]) ?_; ((repeat(first|refine Z9x rfl ?_|refine Z9y ?_)); refine Z9w ?_))
    exact cont _ (by intro _ _; rfl) (by intro _ _; rfl) (by simp [k11])
  ·rw [List.drop_of_length_le (by omega), Zmr] at hXj
   (repeat(first|refine Kq rfl rfl rfl ?_|(refine Z99 ?_; (repeat(first|refine Z9x rfl ?_|refine Z9y ?_)); refine Z9w ?_)|refine Ks ?_|refine Zb1 (fun _ _ => rfl) ?_|refine Zb3 (fun _ _ => rfl) ?_))
   (refine Z8o ?_; exact Kar rfl ⟨(by rw [← hXj]; rfl), rfl⟩)
end Go.Abs
namespace Go.Abs
open Go Go.Proofs
attribute [local irreducible] AWp aops KP
def nullV : Vl := .mk true 0 0 [] []
def stepG (v : Vl) (i : Int) : Vl := if v.null = false ∧ 0 ≤ i ∧ i < v.kids.length then v.kids.getD i.toNat vl0 else nullV
def getF (l : List Nd) : Nat → Int → Vl → Vl
 | 0, _, row => row
 | f + 1, col, row =>
  match l[col.toNat]? with
  | none => row
  | some n => if n.parent < 0 then row else
   match l[n.parent.toNat]? with
   | none => row
   | some q => stepG (getF l f n.parent row) (idxF q.kids col 0)
end Go.Abs
namespace Go.Abs
open Go Go.Proofs
attribute [local irreducible] AWp aops KP
def Z13i (k op : Int) (v lo hi : Vl) : Bool :=
 if op = 1 then decide ((cmpV k v lo).1 < 0 ∨ (cmpV k v hi).1 > 0) else if op = 2 then decide ((cmpV k v lo).1 = 0 ∧ (cmpV k v hi).1 = 0)
 else if op = 3 then decide ((cmpV k v lo).1 ≤ 0) else if op = 4 then decide ((cmpV k v lo).1 < 0) else if op = 5 then decide ((cmpV k v hi).1 ≥ 0) else decide ((cmpV k v hi).1 > 0)
def GetF (l : List Nd) (col : Int) (row : Vl) : Vl × Bool := if Zre l col = true then (getF l (col.toNat + 1) col row, true) else (vl0, false)
def mayF (l : List Nd) (t : Tm) (ss : List Stt) : Bool :=
 match l[t.col.toNat]?, ss[t.col.toNat]?, ss[0]? with
 | some n, some x, some z =>
  if t.op = 7 then x.null || decide (x.count ≠ z.count) else if x.count = 0 then false else if t.op = 8 then true
  else if x.has = true then !Z13i n.t.kind t.op t.v x.min x.max
  else if n.t.kind = 0 ∧ x.sums = true then !Z13i n.t.kind t.op t.v (.mk false (if x.sum = x.count then 1 else 0) 0 [] []) (.mk false (if x.sum = 0 then 0 else 1) 0 [] [])
  else true
 | _, _, _ => true
end Go.Abs
namespace Go.Abs
open Go Go.Proofs
attribute [local irreducible] AWp aops KP
def MayF (l : List Nd) (ss : List Stt) : List Tm → Bool
 | [] => true
 | t :: ts => if Zre l t.col = true ∧ t.col < ss.length ∧ mayF l t ss = false then false else MayF l ss ts
end Go.Abs
namespace Go.Abs
open Go Go.Proofs
attribute [local irreducible] AWp aops KP
def Z13j (l : List Nd) (row : Vl) : List Tm → Int → Int
 | [], out => out
 | t :: ts, out =>
  if Zre l t.col = false then 0 else
  if t.op = 7 then (if (getF l (t.col.toNat + 1) t.col row).null = true then Z13j l row ts out else 0)
  else if t.op = 8 then (if (getF l (t.col.toNat + 1) t.col row).null = true then 0 else Z13j l row ts out)
  else if (getF l (t.col.toNat + 1) t.col row).null = true then Z13j l row ts 2
  else match l[t.col.toNat]? with
   | none => 0
   | some n => if Zrf t.op (cmpV n.t.kind (getF l (t.col.toNat + 1) t.col row) t.v).1 = true then Z13j l row ts out else 0
end Go.Abs
namespace Go.Abs
open Go Go.Proofs
attribute [local irreducible] AWp aops KP
def okM (l : List Nd) (t : Tm) : Bool :=
 Zre l t.col && (if t.op = 7 ∨ t.op = 8 then Zrd t.v else if 1 ≤ t.op ∧ t.op ≤ 6 then !t.v.null && (match l[t.col.toNat]? with | none => false | some n => decide (vchk (tyN n) t.v = 0)) else false)
def Z13k (l : List Nd) (p : List Tm) : Nat := if 16 < p.length then 1 else if p.all (okM l) = true then 0 else 1
end Go.Abs
namespace Go.Abs
open Go Go.Proofs
theorem Z13l {P : Ty → Prop} {Q : Nd → Prop} (hP : ∀ t, P t → ∀ k ∈ t.kids, P k) (hQ : ∀ (t : Ty) (a : Nat) (p : Int) (d : Nat), P t → Q ⟨t, Zm9 a t.kids, p, d⟩) : ∀ (t : Ty), P t → ∀ (a : Nat) (p : Int) (d : Nat), ∀ n ∈ Zma a p d t, Q n := by
 refine Ty.ind fun k ns ks l pr s ih ht a p d n hn => ?_
 have hL : ∀ (ts : List Ty), (∀ t ∈ ts, P t ∧ (P t → ∀ (a : Nat) (p : Int) (d : Nat), ∀ n ∈ Zma a p d t, Q n)) → ∀ (a : Nat) (p : Int) (d : Nat), ∀ n ∈ Zmb a p d ts, Q n := by
  intro ts
  induction ts with
  | nil => intro _ a p d n hn; rw [Zmb] at hn; cases hn
  | cons t ts ih2 =>
   intro h a p d n hn
   rw [Zmb, List.mem_append] at hn
   rcases hn with hn | hn
   ·obtain ⟨h1, h2⟩ := h t (by simp)
    exact h2 h1 a p d n hn
   ·exact ih2 (fun t ht => h t (by simp [ht])) _ p d n hn
 rw [Zma, List.mem_cons] at hn
 rcases hn with rfl | hn
 ·exact hQ _ (a + 1) p d ht
 ·exact hL ks (fun t hk => ⟨hP _ ht t hk, ih t hk⟩) _ _ _ n hn
theorem Z13m (t : Ty) : ∀ n ∈ Zmf t, n.t.Ok := by
 intro n hn
 rw [Zmf] at hn
 split at hn
 ·rename_i hc
  refine Z13l (P := Ty.Ok) (Q := fun n => n.t.Ok) (fun t ht k hk => ?_) (fun t a p d ht => ht) t (Zqs t 1 0 hc) 0 (-1) 1 n hn
  cases ht with
  | mk _ h => exact h k hk
 ·cases hn
theorem Z13n {n : Nd} (h : n.t.Ok) (hl : Zm4 n.t.kind = true) : (tyN n).Ok := by
 have hk := h.kinds.1
 cases h with
 | mk h1 _ =>
  obtain ⟨t, kids, parent, deep⟩ := n
  obtain ⟨k, ns, ks, l, p, s⟩ := t
  simp only [Ty.kind, Ty.names, Ty.kids, Ty.len, Ty.prec, Ty.scale] at *
  have h0 : ns = [] ∧ ks = [] := by
   have hk4 : ¬ k = 10 ∧ ¬ k = 11 ∧ ¬ k = 12 ∧ ¬ k = 13 := by
    simp only [Zm4, Bool.not_eq_true', Bool.or_eq_false_iff, decide_eq_false_iff_not] at hl
    omega
   rw [Zm6, if_neg hk4.1, if_neg hk4.2.1, if_neg hk4.2.2.1, if_neg hk4.2.2.2] at hk
   have hr : Zm7 k ns ks.length l p s = true := by
    cases hx : Zm7 k ns ks.length l p s with
    | true => rfl
    | false =>
     rw [ownF] at h1
     split at h1
     ·cases h1
     ·rw [if_pos (.inr (.inr hx))] at h1; cases h1
   rw [Zm7] at hr
   simp only [Bool.and_eq_true, Bool.or_eq_true, decide_eq_true_eq] at hr
   refine ⟨?_, ?_⟩
   ·rcases hr.1.1.1.2 with h | h
    ·exact absurd h hk4.2.2.1
    ·simpa using h
   ·simpa using hk
  obtain ⟨rfl, rfl⟩ := h0
  exact .mk h1 (by simp [tyN, Ty.kids])
end Go.Abs

