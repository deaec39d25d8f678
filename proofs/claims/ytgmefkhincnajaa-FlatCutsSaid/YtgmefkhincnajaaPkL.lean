/- Part L of a proof: merged by program. -/
import Derived.Test.YtgmefkhincnajaaPkK
import Derived.Test.YtgmefkhincnajaaProg
import Derived.KernelRfl
namespace Go.Abs
open Go
def Zyw : List Z2a := [
  ⟨some 2,(.box 6),[.t 0],none⟩,⟨some 3,(.box 5),[.t 1],none⟩,⟨some 4,.mov,[.c (.int .i64 0)],none⟩]
def Zyx : List Z2a := [
  ⟨some 12,(.load true 6),[.t 2],none⟩,⟨some 13,(.load true 5),[.t 3],none⟩,⟨some 14,(.call Zfs),[.t 12,.t 13],none⟩,⟨some 15,.unot,[.t 14],none⟩,⟨some 16,.mov,[.t 15],none⟩,⟨some 17,(.fad 0),[.t 3],some (16,false)⟩,⟨some 18,(.load false 1),[.t 17],some (16,false)⟩,⟨some 19,.unot,[.t 18],some (16,false)⟩,⟨some 20,.mov,[.t 19],some (16,false)⟩,⟨some 21,(.load true 6),[.t 2],some (20,true)⟩,⟨some 22,(.load true 5),[.t 3],some (20,true)⟩,⟨some 23,(.call Zft),[.t 21,.t 22],some (20,true)⟩,⟨some 24,.unot,[.t 23],some (20,true)⟩,⟨some 25,.pick,[.t 20,.t 24,.c (.bool false)],some (16,false)⟩,⟨some 26,.pick,[.t 16,.c (.bool true),.t 25],none⟩,⟨some 11,.mov,[.t 26],none⟩]
def Zyy : List Z2a := [
  ⟨some 4,.mov,[.c (.int .i64 1)],none⟩]
def Zyz : List Z2a := [
  ⟨some 28,(.fad 0),[.t 3],none⟩,⟨some 29,(.load false 1),[.t 28],none⟩,⟨some 27,.mov,[.t 29],none⟩]
def Zz0 : List Z2a := [
  ⟨some 4,.mov,[.c (.int .i64 0)],none⟩]
def Zz1 : List Z2a := [
  ⟨some 31,(.load true 6),[.t 2],none⟩,⟨some 32,(.load true 5),[.t 3],none⟩,⟨some 33,(.call Zfu),[.t 31,.t 32],none⟩,⟨some 30,.mov,[.t 33],none⟩]
def Zz2 : List Z2a := [
  ⟨some 4,.mov,[.c (.int .i64 4)],none⟩]
def Zz3 : List Z2a := [
  ⟨some 34,(.load true 6),[.t 2],none⟩,⟨some 35,(.load true 5),[.t 3],none⟩,⟨some 36,(.call Zfv),[.t 34,.t 35],none⟩,⟨some 5,.mov,[.t 36],none⟩]
def Zz4 : List Z2a := [
  ⟨some 37,.mov,[.t 5],none⟩,⟨some 38,(.bin .neq),[.t 37,.c (.int .i64 0)],none⟩]
def Zz5 : List Z2a := [
  ⟨some 39,.mov,[.t 5],none⟩,⟨some 4,.mov,[.t 39],none⟩]
def Zz6 : List Z2a := [
  ⟨some 40,(.fad 4),[.t 3],none⟩,⟨some 41,(.load false 1),[.t 40],none⟩,⟨some 42,.lens,[.t 41],none⟩,⟨some 43,.mov,[.c (.int .i64 0)],none⟩]
def Zz7 : List Z2a := [
  ⟨some 44,(.bin .lss),[.t 43,.t 42],none⟩]
def Zz8 : List Z2a := [
  ⟨some 45,.mov,[.t 43],none⟩,⟨some 46,(.iad 5),[.t 41,.t 43],none⟩,⟨some 47,(.load true 5),[.t 46],none⟩,⟨some 7,(.alloc (.agg [(.bool false),(.int .i64 0),(.int .i64 0),(.slc 0 [] true),(.slc 0 [] true)])),[],none⟩,⟨some 6,.mov,[.t 45],none⟩,⟨none,(.store 5),[.t 7,.t 47],none⟩]
def Zz9 : List Z2a := [
  ⟨some 49,(.load true 6),[.t 2],none⟩,⟨some 50,(.load true 5),[.t 3],none⟩,⟨some 51,.mov,[.t 6],none⟩,⟨some 52,(.call Zfw),[.t 49,.t 50,.t 51],none⟩,⟨some 48,.mov,[.t 52],none⟩,⟨some 53,(.ext 0),[.t 48],none⟩,⟨some 54,(.ext 1),[.t 48],none⟩,⟨some 8,(.alloc (.agg [(.int .i64 0),(.slc 0 [] true),(.slc 0 [] true),(.int .i64 0),(.int .i64 0),(.int .i64 0)])),[],none⟩,⟨none,(.store 6),[.t 8,.t 53],none⟩,⟨some 9,.mov,[.t 54],none⟩]
def Zza : List Z2a := [
  ⟨some 55,.mov,[.t 9],none⟩,⟨some 56,.unot,[.t 55],none⟩,⟨some 57,.mov,[.t 56],none⟩,⟨some 58,(.fad 0),[.t 2],some (57,false)⟩,⟨some 59,(.load false 1),[.t 58],some (57,false)⟩,⟨some 60,(.bin .eql),[.t 59,.c (.int .i64 11)],some (57,false)⟩,⟨some 61,.mov,[.t 60],some (57,false)⟩,⟨some 62,.mov,[.t 6],some (61,true)⟩,⟨some 63,(.bin .rem),[.t 62,.c (.int .i64 2)],some (61,true)⟩,⟨some 64,(.bin .eql),[.t 63,.c (.int .i64 0)],some (61,true)⟩,⟨some 65,.pick,[.t 61,.t 64,.c (.bool false)],some (57,false)⟩,⟨some 66,.mov,[.t 65],some (57,false)⟩,⟨some 67,(.fad 0),[.t 7],some (66,true)⟩,⟨some 68,(.load false 1),[.t 67],some (66,true)⟩,⟨some 69,.pick,[.t 66,.t 68,.c (.bool false)],some (57,false)⟩,⟨some 70,.pick,[.t 57,.c (.bool true),.t 69],none⟩]
def Zzb : List Z2a := [
  ⟨some 4,.mov,[.c (.int .i64 1)],none⟩]
def Zzc : List Z2a := [
  ⟨some 71,(.load true 6),[.t 8],none⟩,⟨some 72,(.load true 5),[.t 7],none⟩,⟨some 73,(.call Zet),[.t 71,.t 72],none⟩,⟨some 10,.mov,[.t 73],none⟩]
def Zzd : List Z2a := [
  ⟨some 74,.mov,[.t 10],none⟩,⟨some 75,(.bin .neq),[.t 74,.c (.int .i64 0)],none⟩]
def Zze : List Z2a := [
  ⟨some 76,.mov,[.t 10],none⟩,⟨some 4,.mov,[.t 76],none⟩]
def Zzf : List Z2a := [
  ⟨some 77,(.bin .add),[.t 43,.c (.int .i64 1)],none⟩,⟨some 43,.mov,[.t 77],none⟩]
def Zzg : Z2b := (.seq (.region Zz7 [2,3,41,42,43,44]) (.seq (.cond (.t 44) .skip (.exit 1)) (.seq (.block 2 (.seq (.region Zz8 [2,3,6,7,41,42,43]) (.seq (.region Zz9 [2,3,6,7,8,9,41,42,43]) (.seq (.seq (.region Zza [2,3,7,8,41,42,43,70]) (.cond (.t 70) (.seq (.region Zzb [4]) .ret) .skip)) (.seq (.region Zzc [2,3,10,41,42,43]) (.seq (.region Zzd [2,3,10,41,42,43,75]) (.cond (.t 75) (.seq (.region Zze [4]) .ret) .skip))))))) (.region Zzf [2,3,41,42,43]))))
def Zzh : List Z2a := [
  ⟨some 4,.mov,[.c (.int .i64 0)],none⟩]
def Zzi : Z2y := ⟨78,(.seq (.region Zyw [2,3]) (.seq (.block 0 (.seq (.region Zyx [2,3,11]) (.cond (.t 11) (.seq (.region Zyy [4]) .ret) (.seq (.region Zyz [2,3,27]) (.cond (.t 27) (.seq (.region Zz0 [4]) .ret) (.seq (.region Zz1 [2,3,30]) (.cond (.t 30) (.seq (.region Zz2 [4]) .ret) .skip))))))) (.seq (.seq (.region Zz3 [2,3,5]) (.seq (.region Zz4 [2,3,5,38]) (.cond (.t 38) (.seq (.region Zz5 [4]) .ret) .skip))) (.seq (.seq (.region Zz6 [2,3,41,42,43]) (.block 1 (.loop Zzg))) (.seq (.region Zzh [4]) .ret))))),[.t 4]⟩
def Zzj : List Z2a := [
  ⟨some 2,(.box 6),[.t 0],none⟩,⟨some 3,(.box 5),[.t 1],none⟩,⟨some 4,.mov,[.c (.bool false)],none⟩]
def Zzk : List Z2a := [
  ⟨some 5,(.fad 0),[.t 3],none⟩,⟨some 6,(.load false 1),[.t 5],none⟩]
def Zzl : List Z2a := [
  ⟨some 7,(.fad 1),[.t 3],none⟩,⟨some 8,(.load false 1),[.t 7],none⟩,⟨some 9,(.bin .eql),[.t 8,.c (.int .i64 0)],none⟩,⟨some 10,.mov,[.t 9],none⟩,⟨some 11,(.fad 2),[.t 3],some (10,true)⟩,⟨some 12,(.load false 1),[.t 11],some (10,true)⟩,⟨some 13,(.bin .eql),[.t 12,.c (.int .i64 0)],some (10,true)⟩,⟨some 14,.pick,[.t 10,.t 13,.c (.bool false)],none⟩,⟨some 15,.mov,[.t 14],none⟩,⟨some 16,(.fad 3),[.t 3],some (15,true)⟩,⟨some 17,(.load false 1),[.t 16],some (15,true)⟩,⟨some 18,.lens,[.t 17],some (15,true)⟩,⟨some 19,(.bin .eql),[.t 18,.c (.int .i64 0)],some (15,true)⟩,⟨some 20,.pick,[.t 15,.t 19,.c (.bool false)],none⟩,⟨some 21,.mov,[.t 20],none⟩,⟨some 22,(.fad 4),[.t 3],some (21,true)⟩,⟨some 23,(.load false 1),[.t 22],some (21,true)⟩,⟨some 24,.lens,[.t 23],some (21,true)⟩,⟨some 25,(.bin .eql),[.t 24,.c (.int .i64 0)],some (21,true)⟩,⟨some 26,.pick,[.t 21,.t 25,.c (.bool false)],none⟩,⟨some 4,.mov,[.t 26],none⟩]
def Zzm : List Z2a := [
  ⟨some 27,(.fad 2),[.t 3],none⟩,⟨some 28,(.load false 1),[.t 27],none⟩,⟨some 29,(.bin .eql),[.t 28,.c (.int .i64 0)],none⟩,⟨some 30,.mov,[.t 29],none⟩,⟨some 31,(.fad 0),[.t 2],some (30,false)⟩,⟨some 32,(.load false 1),[.t 31],some (30,false)⟩,⟨some 33,(.bin .eql),[.t 32,.c (.int .i64 9)],some (30,false)⟩,⟨some 34,.pick,[.t 30,.c (.bool true),.t 33],none⟩,⟨some 35,.mov,[.t 34],none⟩,⟨some 36,(.fad 3),[.t 3],some (35,true)⟩,⟨some 37,(.load false 1),[.t 36],some (35,true)⟩,⟨some 38,.lens,[.t 37],some (35,true)⟩,⟨some 39,(.bin .eql),[.t 38,.c (.int .i64 0)],some (35,true)⟩,⟨some 40,.mov,[.t 39],some (35,true)⟩,⟨some 41,(.fad 0),[.t 2],some (40,false)⟩,⟨some 42,(.load false 1),[.t 41],some (40,false)⟩,⟨some 43,(.call Zfi),[.t 42],some (40,false)⟩,⟨some 44,.pick,[.t 40,.c (.bool true),.t 43],some (35,true)⟩,⟨some 45,.pick,[.t 35,.t 44,.c (.bool false)],none⟩,⟨some 46,.mov,[.t 45],none⟩,⟨some 47,(.fad 4),[.t 3],some (46,true)⟩,⟨some 48,(.load false 1),[.t 47],some (46,true)⟩,⟨some 49,.lens,[.t 48],some (46,true)⟩,⟨some 50,(.bin .eql),[.t 49,.c (.int .i64 0)],some (46,true)⟩,⟨some 51,.mov,[.t 50],some (46,true)⟩,⟨some 52,(.fad 0),[.t 2],some (51,false)⟩,⟨some 53,(.load false 1),[.t 52],some (51,false)⟩,⟨some 54,(.call Zfd),[.t 53],some (51,false)⟩,⟨some 55,.unot,[.t 54],some (51,false)⟩,⟨some 56,.pick,[.t 51,.c (.bool true),.t 55],some (46,true)⟩,⟨some 57,.pick,[.t 46,.t 56,.c (.bool false)],none⟩,⟨some 4,.mov,[.t 57],none⟩]
def Zzn : Z2y := ⟨58,(.seq (.region Zzj [2,3]) (.seq (.seq (.region Zzk [2,3,6]) (.cond (.t 6) (.seq (.region Zzl [4]) .ret) .skip)) (.seq (.region Zzm [4]) .ret))),[.t 4]⟩
def Zzo : List Z2a := [
  ⟨some 2,(.box 6),[.t 0],none⟩,⟨some 3,(.box 5),[.t 1],none⟩,⟨some 4,.mov,[.c (.bool false)],none⟩]
def Zzp : List Z2a := [
  ⟨some 5,(.fad 0),[.t 2],none⟩,⟨some 6,(.load false 1),[.t 5],none⟩]
def Zzq : List Z2a := [
  ⟨some 8,(.bin .eql),[.t 6,.c (.int .i64 0)],none⟩,⟨some 7,.mov,[.t 8],none⟩]
def Zzr : List Z2a := [
  ⟨some 9,(.fad 1),[.t 3],none⟩,⟨some 10,(.load false 1),[.t 9],none⟩,⟨some 11,(.bin .eql),[.t 10,.c (.int .i64 0)],none⟩,⟨some 12,.mov,[.t 11],none⟩,⟨some 13,(.fad 1),[.t 3],some (12,false)⟩,⟨some 14,(.load false 1),[.t 13],some (12,false)⟩,⟨some 15,(.bin .eql),[.t 14,.c (.int .i64 1)],some (12,false)⟩,⟨some 16,.pick,[.t 12,.c (.bool true),.t 15],none⟩,⟨some 4,.mov,[.t 16],none⟩]
def Zzs : List Z2a := [
  ⟨some 18,(.bin .eql),[.t 6,.c (.int .i64 1)],none⟩,⟨some 17,.mov,[.t 18],none⟩]
def Zzt : List Z2a := [
  ⟨some 19,(.fad 1),[.t 3],none⟩,⟨some 20,(.load false 1),[.t 19],none⟩,⟨some 21,(.call Zgb),[.t 20,.c (.int .i64 8)],none⟩,⟨some 4,.mov,[.t 21],none⟩]
def Zzu : List Z2a := [
  ⟨some 23,(.bin .eql),[.t 6,.c (.int .i64 2)],none⟩,⟨some 22,.mov,[.t 23],none⟩]
def Zzv : List Z2a := [
  ⟨some 24,(.fad 1),[.t 3],none⟩,⟨some 25,(.load false 1),[.t 24],none⟩,⟨some 26,(.call Zgb),[.t 25,.c (.int .i64 16)],none⟩,⟨some 4,.mov,[.t 26],none⟩]
def Zzw : List Z2a := [
  ⟨some 28,(.bin .eql),[.t 6,.c (.int .i64 3)],none⟩,⟨some 27,.mov,[.t 28],none⟩]
def Zzx : List Z2a := [
  ⟨some 29,(.bin .eql),[.t 6,.c (.int .i64 15)],none⟩,⟨some 27,.mov,[.t 29],none⟩]
def Zzy : List Z2a := [
  ⟨some 30,(.fad 1),[.t 3],none⟩,⟨some 31,(.load false 1),[.t 30],none⟩,⟨some 32,(.call Zgb),[.t 31,.c (.int .i64 32)],none⟩,⟨some 4,.mov,[.t 32],none⟩]
def Zzz : List Z2a := [
  ⟨some 34,(.bin .eql),[.t 6,.c (.int .i64 4)],none⟩,⟨some 33,.mov,[.t 34],none⟩]
def Z100 : List Z2a := [
  ⟨some 4,.mov,[.c (.bool true)],none⟩]
def Z101 : List Z2a := [
  ⟨some 36,(.bin .eql),[.t 6,.c (.int .i64 14)],none⟩,⟨some 35,.mov,[.t 36],none⟩]
def Z102 : List Z2a := [
  ⟨some 37,(.fad 1),[.t 3],none⟩,⟨some 38,(.load false 1),[.t 37],none⟩,⟨some 39,(.callp Zgc),[.t 38],none⟩,⟨some 40,(.fad 4),[.t 2],none⟩,⟨some 41,(.load false 1),[.t 40],none⟩,⟨some 42,(.bin .leq),[.t 39,.t 41],none⟩,⟨some 4,.mov,[.t 42],none⟩]
def Z103 : List Z2a := [
  ⟨some 44,(.bin .eql),[.t 6,.c (.int .i64 9)],none⟩,⟨some 43,.mov,[.t 44],none⟩]
def Z104 : List Z2a := [
  ⟨some 45,(.fad 1),[.t 3],none⟩,⟨some 46,(.load false 1),[.t 45],none⟩,⟨some 47,(.fad 2),[.t 3],none⟩,⟨some 48,(.load false 1),[.t 47],none⟩,⟨some 49,(.call Zgd),[.t 46,.t 48],none⟩,⟨some 4,.mov,[.t 49],none⟩]
def Z105 : List Z2a := [
  ⟨some 51,(.bin .eql),[.t 6,.c (.int .i64 13)],none⟩,⟨some 50,.mov,[.t 51],none⟩]
def Z106 : List Z2a := [
  ⟨some 52,(.fad 1),[.t 3],none⟩,⟨some 53,(.load false 1),[.t 52],none⟩,⟨some 54,(.bin .geq),[.t 53,.c (.int .i64 0)],none⟩,⟨some 55,.mov,[.t 54],none⟩,⟨some 56,(.fad 1),[.t 3],some (55,true)⟩,⟨some 57,(.load false 1),[.t 56],some (55,true)⟩,⟨some 58,(.fad 2),[.t 2],some (55,true)⟩,⟨some 59,(.load false 1),[.t 58],some (55,true)⟩,⟨some 60,.lens,[.t 59],some (55,true)⟩,⟨some 61,(.bin .lss),[.t 57,.t 60],some (55,true)⟩,⟨some 62,.pick,[.t 55,.t 61,.c (.bool false)],none⟩,⟨some 4,.mov,[.t 62],none⟩]
def Z107 : List Z2a := [
  ⟨some 63,(.fad 1),[.t 3],none⟩,⟨some 64,(.load false 1),[.t 63],none⟩,⟨some 65,(.bin .eql),[.t 64,.c (.int .i64 0)],none⟩,⟨some 4,.mov,[.t 65],none⟩]
def Z108 : Z2y := ⟨66,(.seq (.region Zzo [2,3]) (.seq (.seq (.region Zzp [2,3,6]) (.block 0 (.seq (.region Zzq [2,3,6,7]) (.cond (.t 7) (.seq (.region Zzr [4]) .ret) (.seq (.region Zzs [2,3,6,17]) (.cond (.t 17) (.seq (.region Zzt [4]) .ret) (.seq (.region Zzu [2,3,6,22]) (.cond (.t 22) (.seq (.region Zzv [4]) .ret) (.seq (.seq (.region Zzw [2,3,6,27]) (.cond (.t 27) .skip (.region Zzx [2,3,6,27]))) (.cond (.t 27) (.seq (.region Zzy [4]) .ret) (.seq (.region Zzz [2,3,6,33]) (.cond (.t 33) (.seq (.region Z100 [4]) .ret) (.seq (.region Z101 [2,3,6,35]) (.cond (.t 35) (.seq (.region Z102 [4]) .ret) (.seq (.region Z103 [2,3,6,43]) (.cond (.t 43) (.seq (.region Z104 [4]) .ret) (.seq (.region Z105 [2,3,50]) (.cond (.t 50) (.seq (.region Z106 [4]) .ret) .skip)))))))))))))))))) (.seq (.region Z107 [4]) .ret))),[.t 4]⟩
def Z109 : List Z2a := [
  ⟨some 2,(.box 6),[.t 0],none⟩,⟨some 3,(.box 5),[.t 1],none⟩,⟨some 4,.mov,[.c (.bool false)],none⟩]
def Z10a : List Z2a := [
  ⟨some 5,(.fad 0),[.t 2],none⟩,⟨some 6,(.load false 1),[.t 5],none⟩]
def Z10b : List Z2a := [
  ⟨some 8,(.bin .eql),[.t 6,.c (.int .i64 16)],none⟩,⟨some 7,.mov,[.t 8],none⟩]
def Z10c : List Z2a := [
  ⟨some 9,(.bin .eql),[.t 6,.c (.int .i64 17)],none⟩,⟨some 7,.mov,[.t 9],none⟩]
def Z10d : List Z2a := [
  ⟨some 11,(.bin .eql),[.t 6,.c (.int .i64 7)],none⟩,⟨some 10,.mov,[.t 11],none⟩]
def Z10e : List Z2a := [
  ⟨some 12,(.bin .eql),[.t 6,.c (.int .i64 8)],none⟩,⟨some 10,.mov,[.t 12],none⟩]
def Z10f : List Z2a := [
  ⟨some 13,(.fad 3),[.t 3],none⟩,⟨some 14,(.load false 1),[.t 13],none⟩,⟨some 15,(.callp Zge),[.t 14],none⟩,⟨some 16,(.fad 3),[.t 2],none⟩,⟨some 17,(.load false 1),[.t 16],none⟩,⟨some 18,(.bin .gtr),[.t 15,.t 17],none⟩]
def Z10g : List Z2a := [
  ⟨some 4,.mov,[.c (.bool true)],none⟩]
def Z10h : List Z2a := [
  ⟨some 19,(.fad 3),[.t 3],none⟩,⟨some 20,(.load false 1),[.t 19],none⟩,⟨some 21,.lens,[.t 20],none⟩,⟨some 22,(.bin .gtr),[.t 21,.c (.int .i64 4096)],none⟩,⟨some 4,.mov,[.t 22],none⟩]
def Z10i : List Z2a := [
  ⟨some 4,.mov,[.c (.bool false)],none⟩]
def Z10j : Z2y := ⟨23,(.seq (.region Z109 [2,3]) (.seq (.seq (.region Z10a [2,3,6]) (.block 0 (.seq (.block 2 (.seq (.block 1 (.seq (.seq (.seq (.seq (.region Z10b [2,3,6,7]) (.cond (.t 7) .skip (.region Z10c [2,3,6,7]))) (.cond (.t 7) (.exit 1) .skip)) (.seq (.seq (.region Z10d [3,6,10]) (.cond (.t 10) .skip (.region Z10e [3,10]))) (.cond (.t 10) (.exit 2) .skip))) (.exit 0))) (.seq (.region Z10f [3,18]) (.cond (.t 18) (.seq (.region Z10g [4]) .ret) .skip)))) (.seq (.seq (.region Z10h [4]) .ret) (.exit 0))))) (.seq (.region Z10i [4]) .ret))),[.t 4]⟩
def Z10k : List Z2a := [
  ⟨some 2,(.box 6),[.t 0],none⟩,⟨some 3,(.box 5),[.t 1],none⟩,⟨some 4,.mov,[.c (.int .i64 0)],none⟩]
def Z10l : List Z2a := [
  ⟨some 7,(.fad 4),[.t 3],none⟩,⟨some 8,(.load false 1),[.t 7],none⟩,⟨some 9,.lens,[.t 8],none⟩,⟨some 5,.mov,[.t 9],none⟩,⟨some 6,.mov,[.c (.bool true)],none⟩]
def Z10m : List Z2a := [
  ⟨some 10,(.fad 0),[.t 2],none⟩,⟨some 11,(.load false 1),[.t 10],none⟩]
def Z10n : List Z2a := [
  ⟨some 13,(.bin .eql),[.t 11,.c (.int .i64 11)],none⟩,⟨some 12,.mov,[.t 13],none⟩]
def Z10o : List Z2a := [
  ⟨some 15,(.bin .eql),[.t 11,.c (.int .i64 10)],none⟩,⟨some 14,.mov,[.t 15],none⟩]
def Z10p : List Z2a := [
  ⟨some 17,(.bin .eql),[.t 11,.c (.int .i64 12)],none⟩,⟨some 16,.mov,[.t 17],none⟩]
def Z10q : List Z2a := [
  ⟨some 19,(.bin .eql),[.t 11,.c (.int .i64 13)],none⟩,⟨some 18,.mov,[.t 19],none⟩]
def Z10r : List Z2a := [
  ⟨some 20,.mov,[.t 5],none⟩,⟨some 21,(.bin .rem),[.t 20,.c (.int .i64 2)],none⟩,⟨some 22,(.bin .eql),[.t 21,.c (.int .i64 0)],none⟩,⟨some 23,.mov,[.t 5],none⟩,⟨some 24,(.bin .quo),[.t 23,.c (.int .i64 2)],none⟩,⟨some 6,.mov,[.t 22],none⟩,⟨some 5,.mov,[.t 24],none⟩]
def Z10s : List Z2a := [
  ⟨some 25,.mov,[.t 6],none⟩,⟨some 26,.mov,[.t 25],none⟩,⟨some 27,.mov,[.t 5],some (26,true)⟩,⟨some 28,(.bin .gtr),[.t 27,.c (.int .i64 16384)],some (26,true)⟩,⟨some 29,.pick,[.t 26,.t 28,.c (.bool false)],none⟩]
def Z10t : List Z2a := [
  ⟨some 4,.mov,[.c (.int .i64 4)],none⟩]
def Z10u : List Z2a := [
  ⟨some 30,.mov,[.t 5],none⟩,⟨some 31,(.fad 2),[.t 2],none⟩,⟨some 32,(.load false 1),[.t 31],none⟩,⟨some 33,.lens,[.t 32],none⟩,⟨some 34,(.bin .eql),[.t 30,.t 33],none⟩,⟨some 6,.mov,[.t 34],none⟩]
def Z10v : List Z2a := [
  ⟨some 35,.mov,[.t 5],none⟩,⟨some 36,(.bin .eql),[.t 35,.c (.int .i64 1)],none⟩,⟨some 6,.mov,[.t 36],none⟩]
def Z10w : List Z2a := [
  ⟨some 37,.mov,[.t 6],none⟩,⟨some 38,.unot,[.t 37],none⟩]
def Z10x : List Z2a := [
  ⟨some 4,.mov,[.c (.int .i64 1)],none⟩]
def Z10y : List Z2a := [
  ⟨some 4,.mov,[.c (.int .i64 0)],none⟩]
def Z10z : Z2y := ⟨39,(.seq (.region Z10k [2,3]) (.seq (.region Z10l [2,5,6]) (.seq (.seq (.region Z10m [2,5,6,11]) (.block 0 (.seq (.block 4 (.seq (.block 3 (.seq (.block 2 (.seq (.block 1 (.seq (.seq (.seq (.region Z10n [2,5,6,11,12]) (.cond (.t 12) (.exit 1) .skip)) (.seq (.seq (.region Z10o [2,5,6,11,14]) (.cond (.t 14) (.exit 2) .skip)) (.seq (.seq (.region Z10p [2,5,6,11,16]) (.cond (.t 16) (.exit 3) .skip)) (.seq (.region Z10q [5,6,18]) (.cond (.t 18) (.exit 4) .skip))))) (.exit 0))) (.region Z10r [5,6]))) (.seq (.seq (.region Z10s [6,29]) (.cond (.t 29) (.seq (.region Z10t [4]) .ret) .skip)) (.exit 0)))) (.seq (.region Z10u [6]) (.exit 0)))) (.seq (.region Z10v [6]) (.exit 0))))) (.seq (.seq (.region Z10w [38]) (.cond (.t 38) (.seq (.region Z10x [4]) .ret) .skip)) (.seq (.region Z10y [4]) .ret))))),[.t 4]⟩
def Z110 : List Z2a := [
  ⟨some 3,(.box 6),[.t 0],none⟩,⟨some 4,(.box 5),[.t 1],none⟩,⟨some 6,(.alloc (.agg [(.int .i64 0),(.slc 0 [] true),(.slc 0 [] true),(.int .i64 0),(.int .i64 0),(.int .i64 0)])),[],none⟩,⟨some 7,.mov,[.c (.bool false)],none⟩]
def Z111 : List Z2a := [
  ⟨some 8,(.fad 0),[.t 3],none⟩,⟨some 9,(.load false 1),[.t 8],none⟩]
def Z112 : List Z2a := [
  ⟨some 11,(.bin .eql),[.t 9,.c (.int .i64 10)],none⟩,⟨some 10,.mov,[.t 11],none⟩]
def Z113 : List Z2a := [
  ⟨some 2,.mov,[.c (.int .i64 0)],none⟩]
def Z114 : List Z2a := [
  ⟨some 13,(.bin .eql),[.t 9,.c (.int .i64 11)],none⟩,⟨some 12,.mov,[.t 13],none⟩]
def Z115 : List Z2a := [
  ⟨some 14,.mov,[.t 2],none⟩,⟨some 15,(.bin .rem),[.t 14,.c (.int .i64 2)],none⟩,⟨some 2,.mov,[.t 15],none⟩]
def Z116 : List Z2a := [
  ⟨some 17,(.bin .eql),[.t 9,.c (.int .i64 13)],none⟩,⟨some 16,.mov,[.t 17],none⟩]
def Z117 : List Z2a := [
  ⟨some 18,(.fad 1),[.t 4],none⟩,⟨some 19,(.load false 1),[.t 18],none⟩,⟨some 20,(.bin .lss),[.t 19,.c (.int .i64 0)],none⟩,⟨some 21,.mov,[.t 20],none⟩,⟨some 22,(.fad 1),[.t 4],some (21,false)⟩,⟨some 23,(.load false 1),[.t 22],some (21,false)⟩,⟨some 24,(.fad 2),[.t 3],some (21,false)⟩,⟨some 25,(.load false 1),[.t 24],some (21,false)⟩,⟨some 26,.lens,[.t 25],some (21,false)⟩,⟨some 27,(.bin .geq),[.t 23,.t 26],some (21,false)⟩,⟨some 28,.pick,[.t 21,.c (.bool true),.t 27],none⟩]
def Z118 : List Z2a := [
  ⟨some 29,(.bld [(.int .i64 0),(.slc 0 [] true),(.slc 0 [] true),(.int .i64 0),(.int .i64 0),(.int .i64 0)] []),[],none⟩,⟨none,(.store 6),[.t 6,.t 29],none⟩,⟨some 7,.mov,[.c (.bool false)],none⟩]
def Z119 : List Z2a := [
  ⟨some 30,(.fad 1),[.t 4],none⟩,⟨some 31,(.load false 1),[.t 30],none⟩,⟨some 2,.mov,[.t 31],none⟩]
def Z11a : List Z2a := [
  ⟨some 32,.mov,[.t 2],none⟩,⟨some 33,(.fad 2),[.t 3],none⟩,⟨some 34,(.load false 1),[.t 33],none⟩,⟨some 35,.lens,[.t 34],none⟩,⟨some 36,(.bin .geq),[.t 32,.t 35],none⟩]
def Z11b : List Z2a := [
  ⟨some 37,(.bld [(.int .i64 0),(.slc 0 [] true),(.slc 0 [] true),(.int .i64 0),(.int .i64 0),(.int .i64 0)] []),[],none⟩,⟨none,(.store 6),[.t 6,.t 37],none⟩,⟨some 7,.mov,[.c (.bool false)],none⟩]
def Z11c : List Z2a := [
  ⟨some 38,(.fad 2),[.t 3],none⟩,⟨some 39,(.load false 1),[.t 38],none⟩,⟨some 40,.mov,[.t 2],none⟩,⟨some 41,(.iad 6),[.t 39,.t 40],none⟩,⟨some 42,(.load true 6),[.t 41],none⟩,⟨none,(.store 6),[.t 6,.t 42],none⟩,⟨some 7,.mov,[.c (.bool true)],none⟩]
def Z11d : Z2y := ⟨43,(.seq (.region Z110 [2,3,4,6]) (.seq (.seq (.region Z111 [2,3,4,6,9]) (.block 0 (.seq (.region Z112 [2,3,4,6,9,10]) (.cond (.t 10) (.region Z113 [2,3,6]) (.seq (.region Z114 [2,3,4,6,9,12]) (.cond (.t 12) (.region Z115 [2,3,6]) (.seq (.region Z116 [2,3,4,6,16]) (.cond (.t 16) (.seq (.seq (.region Z117 [3,4,6,28]) (.cond (.t 28) (.seq (.region Z118 [6,7]) .ret) .skip)) (.region Z119 [2,3,6])) .skip)))))))) (.seq (.seq (.region Z11a [2,3,6,36]) (.cond (.t 36) (.seq (.region Z11b [6,7]) .ret) .skip)) (.seq (.region Z11c [6,7]) .ret)))),[.cell 6 true 6,.t 7]⟩
def Z11e : List Z2a := [
  ⟨some 4,.mov,[.c (.bool false)],none⟩]
def Z11f : List Z2a := [
  ⟨some 5,.mov,[.t 0],none⟩,⟨some 6,.mov,[.t 1],none⟩,⟨some 7,(.bin .sub),[.t 6,.c (.int .i64 1)],none⟩,⟨some 8,(.bin .shl),[.c (.int .i64 (-1)),.t 7],none⟩,⟨some 9,(.bin .geq),[.t 5,.t 8],none⟩,⟨some 10,.mov,[.t 9],none⟩,⟨some 11,.mov,[.t 0],some (10,true)⟩,⟨some 12,.mov,[.t 1],some (10,true)⟩,⟨some 13,(.bin .sub),[.t 12,.c (.int .i64 1)],some (10,true)⟩,⟨some 14,(.bin .shl),[.c (.int .i64 1),.t 13],some (10,true)⟩,⟨some 15,(.bin .sub),[.t 14,.c (.int .i64 1)],some (10,true)⟩,⟨some 16,(.bin .leq),[.t 11,.t 15],some (10,true)⟩,⟨some 17,.pick,[.t 10,.t 16,.c (.bool false)],none⟩,⟨some 4,.mov,[.t 17],none⟩]
def Z11g : Z2y := ⟨18,(.seq (.region Z11e [0,1]) (.seq (.region Z11f [4]) .ret)),[.t 4]⟩
def Z11h : List Z2a := [
  ⟨some 2,.mov,[.c (.int .i64 0)],none⟩]
def Z11i : List Z2a := [
  ⟨some 3,.mov,[.c (.int .i64 1)],none⟩]
def Z11j : List Z2a := [
  ⟨some 5,.mov,[.t 0],none⟩,⟨some 6,(.call Zgi),[.t 5],none⟩,⟨some 4,.mov,[.t 6],none⟩]
def Z11k : List Z2a := [
  ⟨some 8,.mov,[.t 4],none⟩,⟨some 9,(.bin .geq),[.t 8,.c (.int .u64 10000000000000000)],none⟩,⟨some 7,.mov,[.t 9],none⟩]
def Z11l : List Z2a := [
  ⟨some 11,.mov,[.t 4],none⟩,⟨some 12,(.bin .geq),[.t 11,.c (.int .u64 100000000)],none⟩,⟨some 10,.mov,[.t 12],none⟩]
def Z11m : List Z2a := [
  ⟨some 13,.mov,[.t 3],none⟩,⟨some 14,(.bin .add),[.t 13,.c (.int .i64 8)],none⟩,⟨some 3,.mov,[.t 14],none⟩]
def Z11n : List Z2a := [
  ⟨some 15,.mov,[.t 4],none⟩,⟨some 16,(.bin .quo),[.t 15,.c (.int .u64 100000000)],none⟩,⟨some 4,.mov,[.t 16],none⟩]
def Z11o : List Z2a := [
  ⟨some 17,.mov,[.t 3],none⟩,⟨some 18,(.bin .add),[.t 17,.c (.int .i64 8)],none⟩,⟨some 3,.mov,[.t 18],none⟩]
def Z11p : List Z2a := [
  ⟨some 19,.mov,[.t 4],none⟩,⟨some 20,(.bin .quo),[.t 19,.c (.int .u64 100000000)],none⟩,⟨some 4,.mov,[.t 20],none⟩]
def Z11q : List Z2a := [
  ⟨some 21,.mov,[.t 4],none⟩,⟨some 22,(.bin .geq),[.t 21,.c (.int .u64 10)],none⟩]
def Z11r : List Z2a := [
  ⟨some 23,.mov,[.t 3],none⟩,⟨some 24,(.bin .add),[.t 23,.c (.int .i64 1)],none⟩,⟨some 3,.mov,[.t 24],none⟩]
def Z11s : List Z2a := [
  ⟨some 25,.mov,[.t 4],none⟩,⟨some 26,(.bin .quo),[.t 25,.c (.int .u64 10)],none⟩,⟨some 4,.mov,[.t 26],none⟩]
def Z11t : Z2b := (.seq (.seq (.region Z11q [3,4,22]) (.cond (.t 22) .skip (.exit 4))) (.block 5 (.seq (.region Z11r [3,4]) (.region Z11s [3,4]))))
def Z11u : List Z2a := [
  ⟨some 27,.mov,[.t 3],none⟩,⟨some 2,.mov,[.t 27],none⟩]
def Z11v : Z2y := ⟨28,(.seq (.region Z11h [0]) (.seq (.region Z11i [0,3]) (.seq (.seq (.region Z11j [3,4]) (.block 0 (.seq (.block 3 (.seq (.block 2 (.seq (.block 1 (.seq (.seq (.seq (.region Z11k [3,4,7]) (.cond (.t 7) (.exit 1) .skip)) (.seq (.region Z11l [3,4,10]) (.cond (.t 10) (.exit 2) .skip))) (.exit 3))) (.seq (.region Z11m [3,4]) (.region Z11n [3,4])))) (.seq (.region Z11o [3,4]) (.region Z11p [3,4])))) (.seq (.block 4 (.loop Z11t)) (.exit 0))))) (.seq (.region Z11u [2]) .ret)))),[.t 2]⟩
def Z11w : List Z2a := [
  ⟨some 4,.mov,[.c (.bool false)],none⟩]
def Z11x : List Z2a := [
  ⟨some 5,.mov,[.t 0],none⟩,⟨some 6,(.bin .geq),[.t 5,.c (.int .i64 (-1099511627776))],none⟩,⟨some 7,.mov,[.t 6],none⟩,⟨some 8,.mov,[.t 0],some (7,true)⟩,⟨some 9,(.bin .leq),[.t 8,.c (.int .i64 1099511627776)],some (7,true)⟩,⟨some 10,.pick,[.t 7,.t 9,.c (.bool false)],none⟩,⟨some 11,.mov,[.t 10],none⟩,⟨some 12,.mov,[.t 1],some (11,true)⟩,⟨some 13,(.bin .geq),[.t 12,.c (.int .i64 0)],some (11,true)⟩,⟨some 14,.pick,[.t 11,.t 13,.c (.bool false)],none⟩,⟨some 15,.mov,[.t 14],none⟩,⟨some 16,.mov,[.t 1],some (15,true)⟩,⟨some 17,(.bin .leq),[.t 16,.c (.int .i64 999999999)],some (15,true)⟩,⟨some 18,.pick,[.t 15,.t 17,.c (.bool false)],none⟩,⟨some 4,.mov,[.t 18],none⟩]
def Z11y : Z2y := ⟨19,(.seq (.region Z11w [0,1]) (.seq (.region Z11x [4]) .ret)),[.t 4]⟩
def Z11z : List Z2a := [
  ⟨some 2,.mov,[.c (.int .i64 0)],none⟩]
def Z120 : List Z2a := [
  ⟨some 3,.mov,[.c (.int .i64 0)],none⟩]
def Z121 : List Z2a := [
  ⟨some 6,.mov,[.t 0],none⟩,⟨some 7,.lens,[.t 6],none⟩,⟨some 8,.mov,[.c (.int .i64 0)],none⟩]
def Z122 : List Z2a := [
  ⟨some 9,(.bin .lss),[.t 8,.t 7],none⟩]
def Z123 : List Z2a := [
  ⟨some 10,(.iad 1),[.t 6,.t 8],none⟩,⟨some 11,(.load false 1),[.t 10],none⟩,⟨some 5,.mov,[.t 11],none⟩]
def Z124 : List Z2a := [
  ⟨some 12,.mov,[.t 5],none⟩,⟨some 13,(.bin .shr),[.t 12,.c (.int .u64 6)],none⟩,⟨some 14,(.bin .neq),[.t 13,.c (.int .u8 2)],none⟩]
def Z125 : List Z2a := [
  ⟨some 15,.mov,[.t 3],none⟩,⟨some 16,(.bin .add),[.t 15,.c (.int .i64 1)],none⟩,⟨some 3,.mov,[.t 16],none⟩]
def Z126 : List Z2a := [
  ⟨some 17,(.bin .add),[.t 8,.c (.int .i64 1)],none⟩,⟨some 8,.mov,[.t 17],none⟩]
def Z127 : Z2b := (.seq (.region Z122 [3,6,7,8,9]) (.seq (.cond (.t 9) .skip (.exit 0)) (.seq (.block 1 (.seq (.region Z123 [3,5,6,7,8]) (.seq (.region Z124 [3,6,7,8,14]) (.cond (.t 14) (.region Z125 [3,6,7,8]) .skip)))) (.region Z126 [3,6,7,8]))))
def Z128 : List Z2a := [
  ⟨some 18,.mov,[.t 3],none⟩,⟨some 2,.mov,[.t 18],none⟩]
def Z129 : Z2y := ⟨19,(.seq (.region Z11z [0]) (.seq (.region Z120 [0,3]) (.seq (.seq (.region Z121 [3,6,7,8]) (.block 0 (.loop Z127))) (.seq (.region Z128 [2]) .ret)))),[.t 2]⟩
def Z12a : List Z2a := [
  ⟨some 2,.mov,[.c (.int .u64 0)],none⟩]
def Z12b : List Z2a := [
  ⟨some 3,.mov,[.t 0],none⟩,⟨some 4,(.bin .lss),[.t 3,.c (.int .i64 0)],none⟩]
def Z12c : List Z2a := [
  ⟨some 5,.mov,[.t 0],none⟩,⟨some 6,(.conv .u64),[.t 5],none⟩,⟨some 7,.uneg,[.t 6],none⟩,⟨some 2,.mov,[.t 7],none⟩]
def Z12d : List Z2a := [
  ⟨some 8,.mov,[.t 0],none⟩,⟨some 9,(.conv .u64),[.t 8],none⟩,⟨some 2,.mov,[.t 9],none⟩]
def Z12e : Z2y := ⟨10,(.seq (.region Z12a [0]) (.seq (.seq (.region Z12b [0,4]) (.cond (.t 4) (.seq (.region Z12c [2]) .ret) .skip)) (.seq (.region Z12d [2]) .ret))),[.t 2]⟩
end Go.Abs
namespace Go.Abs
open Go Go.Proofs
theorem Z12f : Z2z Try.prog [] Zet = some Zzi.erase := by kernel_rfl
theorem Z12g : Z2z Try.prog [] Zfs = some Zzn.erase := by kernel_rfl
theorem Z12h : Z2z Try.prog [(14, 2)] Zft = some Z108.erase := by kernel_rfl
theorem Z12i : Z2z Try.prog [(6, 2)] Zfu = some Z10j.erase := by kernel_rfl
theorem Z12j : Z2z Try.prog [] Zfv = some Z10z.erase := by kernel_rfl
theorem Z12k : Z2z Try.prog [] Zfw = some Z11d.erase := by kernel_rfl
theorem Z12l : Z2z Try.prog [] Zgb = some Z11g.erase := by kernel_rfl
theorem Z12m : Z2z Try.prog [] Zgc = some Z11v.erase := by kernel_rfl
theorem Z12n : Z2z Try.prog [] Zgd = some Z11y.erase := by kernel_rfl
theorem Z12o : Z2z Try.prog [] Zge = some Z129.erase := by kernel_rfl
theorem Z12p : Z2z Try.prog [] Zgi = some Z12e.erase := by kernel_rfl
end Go.Abs
namespace Go.Abs
open Go Go.Proofs
set_option linter.unusedVariables false
set_option linter.unusedSimpArgs false
set_option maxHeartbeats 4000000
attribute [local irreducible] AWp aops KP
theorem wu64 (n : Int) : IntKind.wrap .u64 n = n % 18446744073709551616 := by simp [IntKind.wrap, IntKind.bits, IntKind.signed]
theorem Z12q (i n : Int) (σ : Zc) : Z1q Try.prog Zgd [.int .i64 i, .int .i64 n] σ fun r σ' => r = .bool (Zmd i n) ∧ σ' = σ := by
  refine Z8t rfl Z12n (Nat.le_of_ble_eq_true rfl) ?_
  (repeat (first | refine st_q rfl rfl rfl ?_ | (refine Z8y ?_; (repeat (first | refine Z9v rfl ?_ | refine Z9w ?_)); refine Z9u ?_) | refine awp_seq ?_ | refine Zbm (fun _ _ => rfl) ?_))
  by_cases h1 : -1099511627776 ≤ i
  · (rw [decide_eq_true (p := -1099511627776 ≤ i) (by omega)])
    (repeat (first | refine st_q rfl rfl rfl ?_ | refine Z8v rfl (st_q rfl rfl rfl ?_)))
    by_cases h2 : i ≤ 1099511627776
    · (rw [decide_eq_true (p := i ≤ 1099511627776) (by omega)])
      (repeat (first | refine st_q rfl rfl rfl ?_ | refine Z8v rfl (st_q rfl rfl rfl ?_)))
      by_cases h3 : 0 ≤ n
      · (rw [decide_eq_true (p := 0 ≤ n) (by omega)])
        (repeat (first | refine st_q rfl rfl rfl ?_ | refine Z8v rfl (st_q rfl rfl rfl ?_) | (refine Z8y ?_; (repeat (first | refine Z9v rfl ?_ | refine Z9w ?_)); refine Z9u ?_)))
        refine Z8d ?_
        refine ares rfl (HSub.refl _) ⟨?_, rfl⟩
        simp only [Zmd, Z8m]
        by_cases h4 : n < 1000000000
        · simp [h1, h2, h3, h4] <;> omega
        · simp [h1, h2, h3, h4] <;> omega
      · (rw [decide_eq_false (p := 0 ≤ n) (by omega)])
        (repeat (first | refine st_q rfl rfl rfl ?_ | refine Z8w rfl ?_ | (refine Z8y ?_; (repeat (first | refine Z9v rfl ?_ | refine Z9w ?_)); refine Z9u ?_)))
        refine Z8d ?_
        exact Kar rfl ⟨by simp [Zmd, Z8m, h3], rfl⟩
    · (rw [decide_eq_false (p := i ≤ 1099511627776) (by omega)])
      (repeat (first | refine st_q rfl rfl rfl ?_ | refine Z8w rfl ?_ | (refine Z8y ?_; (repeat (first | refine Z9v rfl ?_ | refine Z9w ?_)); refine Z9u ?_)))
      refine Z8d ?_
      exact Kar rfl ⟨by simp [Zmd, Z8m, h2], rfl⟩
  · (rw [decide_eq_false (p := -1099511627776 ≤ i) (by omega)])
    (repeat (first | refine st_q rfl rfl rfl ?_ | refine Z8w rfl ?_ | (refine Z8y ?_; (repeat (first | refine Z9v rfl ?_ | refine Z9w ?_)); refine Z9u ?_)))
    refine Z8d ?_
    exact Kar rfl ⟨by simp [Zmd, Z8m, h1], rfl⟩
theorem Z12r (i : Int) (h0 : -9223372036854775808 ≤ i) (h1 : i ≤ 9223372036854775807) (σ : Zc) : Z1q Try.prog Zgi [.int .i64 i] σ fun r σ' => r = .int .u64 (i.natAbs : Int) ∧ σ' = σ := by
  refine Z8t rfl Z12p (Nat.le_of_ble_eq_true rfl) ?_
  (repeat (first | refine st_q rfl rfl rfl ?_ | (refine Z8y ?_; (repeat (first | refine Z9v rfl ?_ | refine Z9w ?_)); refine Z9u ?_) | refine awp_seq ?_ | refine Zbm (fun _ _ => rfl) ?_))
  by_cases h : i < 0
  · (rw [decide_eq_true (p := i < 0) (by omega)])
    (repeat (first | refine st_q rfl rfl rfl ?_ | (refine Z8y ?_; (repeat (first | refine Z9v rfl ?_ | refine Z9w ?_)); refine Z9u ?_) | refine awp_seq ?_ | refine Zbm (fun _ _ => rfl) ?_ | refine Kc1 rfl ?_))
    rw [wu64 i, wu64]
    skip
    refine Z8d ?_
    exact Kar rfl ⟨by simp only [Z8m]; congr 1; omega, rfl⟩
  · (rw [decide_eq_false (p := i < 0) (by omega)])
    (repeat (first | refine st_q rfl rfl rfl ?_ | (refine Z8y ?_; (repeat (first | refine Z9v rfl ?_ | refine Z9w ?_)); refine Z9u ?_) | refine awp_seq ?_ | refine Zbm (fun _ _ => rfl) ?_ | refine Zbn (fun _ _ => rfl) ?_ | refine Kc2 rfl ?_))
    rw [wu64]
    skip
    refine Z8d ?_
    exact Kar rfl ⟨by simp only [Z8m]; congr 1; omega, rfl⟩
theorem digN10 {u : Nat} (h : 10 ≤ u) : digN u = digN (u / 10) + 1 := by rw [digN, dif_neg (by omega)]
theorem Z12s {u : Nat} (h : 100000000 ≤ u) : digN u = digN (u / 100000000) + 8 := by
  rw [digN10 (u := u) (by omega), digN10 (u := u / 10) (by omega), digN10 (u := u / 10 / 10) (by omega), digN10 (u := u / 10 / 10 / 10) (by omega), digN10 (u := u / 10 / 10 / 10 / 10) (by omega),
    digN10 (u := u / 10 / 10 / 10 / 10 / 10) (by omega), digN10 (u := u / 10 / 10 / 10 / 10 / 10 / 10) (by omega), digN10 (u := u / 10 / 10 / 10 / 10 / 10 / 10 / 10) (by omega)]
  have e : u / 10 / 10 / 10 / 10 / 10 / 10 / 10 / 10 = u / 100000000 := by omega
  rw [e]
theorem Z12t (i : Int) (h0 : -9223372036854775808 ≤ i) (h1 : i ≤ 9223372036854775807) (σ : Zc) : Z1q Try.prog Zgc [.int .i64 i] σ fun r σ' => r = .int .i64 (digN i.natAbs : Int) ∧ σ' = σ := by
  refine Z8t rfl Z12m (Nat.le_of_ble_eq_true rfl) ?_
  (repeat (first | refine st_q rfl rfl rfl ?_ | (refine Z8y ?_; (repeat (first | refine Z9v rfl ?_ | refine Z9w ?_)); refine Z9u ?_) | refine awp_seq ?_ | refine Zbm (fun _ _ => rfl) ?_))
  (first | refine Z9t rfl ((Z12r i h0 h1) _) ?_ | refine Z8v rfl (Z9t rfl ((Z12r i h0 h1) _) ?_) | refine Zbw rfl (Z12r i h0 h1) ?_ | refine Z8v rfl (Zbw rfl (Z12r i h0 h1) ?_))
  have hu : i.natAbs ≤ 9223372036854775808 := by omega
  generalize i.natAbs = u at hu
  have h20 := Zmj (u := u) (by omega)
  have div8 : ∀ x : Nat, x ≤ 9223372036854775808 → IntKind.wrap .u64 ((x : Int).tdiv 100000000) = ((x / 100000000 : Nat) : Int) := fun x hx => by
    rw [Int.tdiv_eq_ediv_of_nonneg (by omega), wu64]; omega
  have loop : ∀ (a v : Nat) (R : Z87), v ≤ 9223372036854775808 → a + digN v = digN u + 1 → (∀ F τ, R .normal F τ = AWp Try.prog Z11v.n (.exit 0) (Z8g 0 (Z8e Try.prog Z11v.n (Z11v.code.snd 3) (ARet Z11v.res fun r σ' => r = .int .i64 (digN u : Int) ∧ σ' = σ))) F τ) →
      AWp Try.prog Z11v.n (.loop Z11t) (Z8g 4 R) (fset 3 (some (.int .i64 (a : Int))) (fset 4 (some (.int .u64 (v : Int))) Z27)) σ := by
    intro a v R hv hav hR
    refine Zaa (fun m F σ' => ∃ (a v : Nat), F = fset 3 (some (.int .i64 (a : Int))) (fset 4 (some (.int .u64 (v : Int))) Z27) ∧ σ = σ' ∧ v ≤ 9223372036854775808 ∧ a + digN v = digN u + 1 ∧ m = v) (n := v) ⟨a, v, rfl, rfl, hv, hav, rfl⟩ ?_
    rintro v F σ' ⟨a, m, rfl, rfl, hv, hav, rfl⟩
    (repeat (first | refine st_q rfl rfl rfl ?_ | (refine Z8y ?_; (repeat (first | refine Z9v rfl ?_ | refine Z9w ?_)); refine Z9u ?_) | refine awp_seq ?_ | refine Zbm (fun _ _ => rfl) ?_))
    refine Za3 (p := (10 : Int) ≤ (v : Int)) rfl (fun h3 => ?_) (fun h3 => ?_)
    · rw [digN10 (by omega)] at hav
      refine Zbn (fun _ _ => rfl) ?_
      (refine Z9y (keep := [3, 4]) ?_; ((repeat (first | refine Z9v rfl ?_ | refine Z9w ?_)); refine Z9u ?_))
      refine Z8h ?_
      refine awp_seq ?_
      refine Zbm (fun _ _ => rfl) ?_
      (repeat (refine st_q rfl rfl rfl ?_))
      rw [Kwr a (by omega)]
      (refine Z8y ?_; (repeat (first | refine Z9v rfl ?_ | refine Z9w ?_)); refine Z9u ?_)
      refine awp_region ?_
      (repeat (refine st_q rfl rfl rfl ?_))
      rw [show IntKind.wrap .u64 ((v : Int).tdiv 10) = ((v / 10 : Nat) : Int) by rw [Int.tdiv_eq_ediv_of_nonneg (by omega), wu64]; omega]
      refine Z8y ?_
      refine Zac (keep := [3, 4]) ?_
      ((repeat (first | refine Z9v rfl ?_ | refine Z9w ?_)); refine Z9u ?_)
      exact ⟨_, v / 10, HSub.refl _, ⟨a + 1, v / 10, rfl, rfl, by omega, by omega, rfl⟩, by omega⟩
    · have hd : digN v = 1 := by rw [digN, dif_pos (by omega)]
      have ha : a = digN u := by omega
      subst ha
      refine Z8c ?_
      show Z8g 4 R (.exit 4) _ _
      simp only [Z8g, if_true]
      rw [hR]
      (repeat (first | refine st_q rfl rfl rfl ?_ | (refine Z8y ?_; (repeat (first | refine Z9v rfl ?_ | refine Z9w ?_)); refine Z9u ?_) | refine awp_seq ?_ | refine Zbm (fun _ _ => rfl) ?_ | refine Zbo (fun _ _ => rfl) ?_))
      (refine Z8d ?_; exact Kar rfl ⟨rfl, rfl⟩)
  (repeat (first | refine st_q rfl rfl rfl ?_ | (refine Z8y ?_; (repeat (first | refine Z9v rfl ?_ | refine Z9w ?_)); refine Z9u ?_) | refine awp_seq ?_ | refine Zbm (fun _ _ => rfl) ?_ | refine Z8h ?_))
  by_cases q1 : 10000000000000000 ≤ u
  · (rw [decide_eq_true (p := (10000000000000000 : Int) ≤ (u : Int)) (by omega)])
    (repeat (first | refine st_q rfl rfl rfl ?_ | (refine Z8y ?_; (repeat (first | refine Z9v rfl ?_ | refine Z9w ?_)); refine Z9u ?_) | refine awp_seq ?_ | refine Zbm (fun _ _ => rfl) ?_ | refine Z8h ?_ | refine Zbo (fun _ _ => rfl) ?_ | refine Kc1 rfl ?_))
    rw [div8 u hu, div8 (u / 100000000) (by omega), show IntKind.wrap .i64 (IntKind.wrap .i64 (1 + 8) + 8) = ((17 : Nat) : Int) by decide]
    exact loop 17 (u / 100000000 / 100000000) _ (by omega) (by rw [Z12s (u := u) (by omega), Z12s (u := u / 100000000) (by omega)]; omega) (fun _ _ => rfl)
  · (rw [decide_eq_false (p := (10000000000000000 : Int) ≤ (u : Int)) (by omega)])
    (repeat (first | refine st_q rfl rfl rfl ?_ | (refine Z8y ?_; (repeat (first | refine Z9v rfl ?_ | refine Z9w ?_)); refine Z9u ?_) | refine awp_seq ?_ | refine Zbm (fun _ _ => rfl) ?_ | refine Zbn (fun _ _ => rfl) ?_ | refine Kc2 rfl ?_))
    by_cases q2 : 100000000 ≤ u
    · (rw [decide_eq_true (p := (100000000 : Int) ≤ (u : Int)) (by omega)])
      (repeat (first | refine st_q rfl rfl rfl ?_ | (refine Z8y ?_; (repeat (first | refine Z9v rfl ?_ | refine Z9w ?_)); refine Z9u ?_) | refine awp_seq ?_ | refine Zbm (fun _ _ => rfl) ?_ | refine Z8h ?_ | refine Zbo (fun _ _ => rfl) ?_ | refine Kc1 rfl ?_))
      rw [div8 u hu, show IntKind.wrap .i64 (1 + 8) = ((9 : Nat) : Int) by decide]
      exact loop 9 (u / 100000000) _ (by omega) (by rw [Z12s (u := u) (by omega)]; omega) (fun _ _ => rfl)
    · (rw [decide_eq_false (p := (100000000 : Int) ≤ (u : Int)) (by omega)])
      (repeat (first | refine awp_seq ?_ | refine Z8h ?_ | refine Zbn (fun _ _ => rfl) ?_ | refine Zbo (fun _ _ => rfl) ?_ | refine Kc2 rfl ?_))
      (refine Z9y (keep := [3, 4]) ?_; ((repeat (first | refine Z9v rfl ?_ | refine Z9w ?_)); refine Z9u ?_))
      change AWp _ _ (.loop Z11t) _ (fset 3 (some (.int .i64 ((1 : Nat) : Int))) (fset 4 (some (.int .u64 (u : Int))) Z27)) _
      exact loop 1 u _ (by omega) (by omega) (fun _ _ => rfl)
theorem Z12u (b : List UInt8) (f : Bool) (hb : b.length ≤ 9223372036854775807) (σ : Zc) : Z1q Try.prog Zge [.slc 1 (bytes b) f] σ fun r σ' => r = .int .i64 (Zmc b : Int) ∧ σ' = σ := by
  refine Z8t rfl Z12o (Nat.le_of_ble_eq_true rfl) ?_
  (repeat (first | refine st_q rfl rfl rfl ?_ | (refine Z8y ?_; (repeat (first | refine Z9v rfl ?_ | refine Z9w ?_)); refine Z9u ?_) | refine awp_seq ?_ | refine Zbm (fun _ _ => rfl) ?_ | refine Z8h ?_))
  rw [Zam]
  refine Zaa (fun m F σ' => ∃ (i : Nat), F = fset 3 (some (.int .i64 (Zmc (b.take i) : Int))) (fset 6 (some (.slc 1 (bytes b) f)) (fset 7 (some (.int .i64 (b.length : Int))) (fset 8 (some (.int .i64 (i : Int))) Z27))) ∧ σ = σ' ∧ i ≤ b.length ∧ m = b.length - i) (n := b.length)
    ⟨0, rfl, rfl, by omega, rfl⟩ ?_
  rintro m F σ' ⟨i, rfl, rfl, hi, rfl⟩
  (repeat (first | refine st_q rfl rfl rfl ?_ | (refine Z8y ?_; (repeat (first | refine Z9v rfl ?_ | refine Z9w ?_)); refine Z9u ?_) | refine awp_seq ?_ | refine Zbm (fun _ _ => rfl) ?_))
  refine Za3 (p := (i : Int) < (b.length : Int)) rfl (fun h3 => ?_) (fun h3 => ?_)
  · obtain ⟨c, hc⟩ : ∃ c, b[i]? = some c := ⟨_, List.getElem?_eq_getElem (by omega)⟩
    have hx : (bytes b)[(i : Int).toNat]? = some (Zx c) := by rw [Zao, Int.toNat_natCast, hc]; rfl
    have hst := Zml hc
    have hsl := Zmk (b.take (i + 1))
    rw [List.length_take] at hsl
    (repeat (first | refine awp_seq ?_ | refine Zbm (fun _ _ => rfl) ?_ | refine Z8h ?_ | refine Zbn (fun _ _ => rfl) ?_))
    refine Z93 rfl (by omega) hx ?_
    (repeat (first | refine st_q rfl rfl rfl ?_ | (refine Z8y ?_; (repeat (first | refine Z9v rfl ?_ | refine Z9w ?_)); refine Z9u ?_) | refine awp_seq ?_ | refine Zbm (fun _ _ => rfl) ?_))
    have e6 : Int.fdiv (c.toNat : Int) (2 ^ (Nat.min ((6 : Int).toNat) IntKind.u8.bits)) = ((c.toNat / 64 : Nat) : Int) := by
      show Int.fdiv (c.toNat : Int) 64 = _
      rw [Int.fdiv_eq_ediv_of_nonneg _ (by omega)]; omega
    rw [e6]
    have next : ∀ x : Int, x = (Zmc (b.take (i + 1)) : Int) → AWp Try.prog Z129.n (.region Z126 [3, 6, 7, 8]) (Za9 (fun m F σ' => ∃ (i : Nat), F = fset 3 (some (.int .i64 (Zmc (b.take i) : Int))) (fset 6 (some (.slc 1 (bytes b) f)) (fset 7 (some (.int .i64 (b.length : Int))) (fset 8 (some (.int .i64 (i : Int))) Z27))) ∧ σ = σ' ∧ i ≤ b.length ∧ m = b.length - i) (b.length - i)
        (Z8g 0 (Z8e Try.prog Z129.n (Z129.code.snd 3) (ARet Z129.res fun r σ' => r = .int .i64 (Zmc b : Int) ∧ σ' = σ))))
        (fset 3 (some (.int .i64 x)) (fset 6 (some (.slc 1 (bytes b) f)) (fset 7 (some (.int .i64 (b.length : Int))) (fset 8 (some (.int .i64 (i : Int))) Z27)))) σ := by
      rintro x rfl
      refine Zbp ?_
      (repeat (refine st_q rfl rfl rfl ?_))
      rw [Kwr i (by omega)]
      (repeat (refine st_q rfl rfl rfl ?_))
      (refine Z8y ?_; (repeat (first | refine Z9v rfl ?_ | refine Z9w ?_)); refine Z9u ?_)
      exact ⟨_, b.length - (i + 1), HSub.refl _, ⟨i + 1, rfl, rfl, by omega, rfl⟩, by omega⟩
    refine Za3 (p := ((c.toNat / 64 : Nat) : Int) ≠ 2) rfl (fun h4 => ?_) (fun h4 => ?_)
    · refine Zbm (fun _ _ => rfl) ?_
      (repeat (refine st_q rfl rfl rfl ?_))
      (refine Z8y ?_; (repeat (first | refine Z9v rfl ?_ | refine Z9w ?_)); refine Z9u ?_)
      refine next _ ?_
      rw [hst, if_pos (by omega)]
      rw [hst, if_pos (by omega)] at hsl
      rw [w64 _ (by omega) (by omega)]; rfl
    · refine Zbn (fun _ _ => rfl) ?_
      (refine Z9y (keep := [3, 6, 7, 8]) ?_; ((repeat (first | refine Z9v rfl ?_ | refine Z9w ?_)); refine Z9u ?_))
      refine next _ ?_
      rw [hst, if_neg (by omega)]; rfl
  · (repeat (first | refine st_q rfl rfl rfl ?_ | (refine Z8y ?_; (repeat (first | refine Z9v rfl ?_ | refine Z9w ?_)); refine Z9u ?_) | refine awp_seq ?_ | refine Zbm (fun _ _ => rfl) ?_ | refine Zbo (fun _ _ => rfl) ?_))
    have hie : i = b.length := by omega
    subst hie
    refine Z8d ?_
    exact Kar rfl ⟨by rw [List.take_length]; rfl, rfl⟩
theorem Z12v (v : Int) (k : Int) (lo hi : Int) (hlo : IntKind.wrap .i64 (-1 * 2 ^ (Nat.min (IntKind.wrap .i64 (k - 1)).toNat IntKind.i64.bits)) = lo) (hhi : IntKind.wrap .i64 (IntKind.wrap .i64 (1 * 2 ^ (Nat.min (IntKind.wrap .i64 (k - 1)).toNat IntKind.i64.bits)) - 1) = hi) (hk : 0 ≤ IntKind.wrap .i64 (k - 1)) (σ : Zc) :
    Z1q Try.prog Zgb [.int .i64 v, .int .i64 k] σ fun r σ' => r = .bool (decide (lo ≤ v ∧ v ≤ hi)) ∧ σ' = σ := by
  refine Z8t rfl Z12l (Nat.le_of_ble_eq_true rfl) ?_
  (repeat (first | refine st_q rfl rfl rfl ?_ | (refine Z8y ?_; (repeat (first | refine Z9v rfl ?_ | refine Z9w ?_)); refine Z9u ?_) | refine awp_seq ?_ | refine Zbm (fun _ _ => rfl) ?_))
  refine Z95 rfl hk ?_
  (repeat refine st_q rfl rfl rfl ?_)
  rw [hlo]
  by_cases h1 : lo ≤ v
  · (rw [decide_eq_true (p := lo ≤ v) (by omega)])
    (repeat refine Z8v rfl (st_q rfl rfl rfl ?_))
    refine Z8v rfl (Z95 rfl hk ?_)
    (repeat (first | refine st_q rfl rfl rfl ?_ | refine Z8v rfl (st_q rfl rfl rfl ?_) | (refine Z8y ?_; (repeat (first | refine Z9v rfl ?_ | refine Z9w ?_)); refine Z9u ?_)))
    rw [hhi]
    (refine Z8d ?_; exact Kar rfl ⟨(by simp [h1, Z8m]), rfl⟩)
  · (rw [decide_eq_false (p := lo ≤ v) (by omega)])
    (repeat (first | refine st_q rfl rfl rfl ?_ | refine Z8w rfl ?_ | (refine Z8y ?_; (repeat (first | refine Z9v rfl ?_ | refine Z9w ?_)); refine Z9u ?_)))
    (refine Z8d ?_; exact Kar rfl ⟨(by simp [h1, Z8m]), rfl⟩)
theorem Z12w (v : Int) (σ : Zc) : Z1q Try.prog Zgb [.int .i64 v, .int .i64 8] σ fun r σ' => r = .bool (decide (-128 ≤ v ∧ v ≤ 127)) ∧ σ' = σ := Z12v v 8 _ _ (by decide) (by decide) (by decide) σ
theorem Z12x (v : Int) (σ : Zc) : Z1q Try.prog Zgb [.int .i64 v, .int .i64 16] σ fun r σ' => r = .bool (decide (-32768 ≤ v ∧ v ≤ 32767)) ∧ σ' = σ := Z12v v 16 _ _ (by decide) (by decide) (by decide) σ
theorem Z12y (v : Int) (σ : Zc) : Z1q Try.prog Zgb [.int .i64 v, .int .i64 32] σ fun r σ' => r = .bool (decide (-2147483648 ≤ v ∧ v ≤ 2147483647)) ∧ σ' = σ := Z12v v 32 _ _ (by decide) (by decide) (by decide) σ
def numI (k : Int) (kids : Nat) (prec i n : Int) : Bool :=
  if k = 0 then decide (i = 0 ∨ i = 1)
  else if k = 1 then decide (-128 ≤ i ∧ i ≤ 127)
  else if k = 2 then decide (-32768 ≤ i ∧ i ≤ 32767)
  else if k = 3 ∨ k = 15 then decide (-2147483648 ≤ i ∧ i ≤ 2147483647)
  else if k = 4 then true
  else if k = 14 then decide ((digN i.natAbs : Int) ≤ prec)
  else if k = 9 then Zmd i n
  else if k = 13 then decide (0 ≤ i ∧ i < kids)
  else decide (i = 0)
theorem Z12z (k : Int) (kids : Nat) (prec i n : Int) : Zme k kids prec i n = if n ≠ 0 ∧ k ≠ 9 then false else numI k kids prec i n := rfl
theorem Z130 (t : Ty) (v : Vl) (h0 : -9223372036854775808 ≤ v.i ∧ v.i ≤ 9223372036854775807) (σ : Zc) : Z1q Try.prog Zft [encT t, encV v] σ fun r σ' => r = .bool (numI t.kind t.kids.length t.prec v.i v.n) ∧ σ' = σ := by
  obtain ⟨k, ns, ks, l, p, s⟩ := t
  obtain ⟨nu, i, n, b, vks⟩ := v
  simp only [encT, encV, Ty.kind, Ty.kids, Ty.prec, Vl.i, Vl.n] at *
  refine Z8t rfl Z12h (Nat.le_of_ble_eq_true rfl) ?_
  refine Z9z ?_
  refine Z9j rfl (Kfi rfl) fun b1 hb1 => ?_
  refine Z9j rfl (Kfi rfl) fun b2 hb2 => ?_
  (repeat (refine st_q rfl rfl rfl ?_))
  (refine Z8y ?_; (repeat (first | refine Z9v rfl ?_ | refine Z9w ?_)); refine Z9u ?_)
  refine Zb3 (d := 3) (cs := [.bool nu, .int .i64 i, .int .i64 n, .slc 1 (bytes b) false, .slc 5 (Zm5 vks) false]) rfl ?_
  refine Zb3 (d := 2) (cs := [.int .i64 k, .slc 1 (ns.map .str) false, .slc 6 (Zln ks) false, .int .i64 l, .int .i64 p, .int .i64 s]) rfl ?_
  by_cases k0 : k = 0
  · subst k0
    (repeat (first | refine st_q rfl rfl rfl ?_ | (refine Z8y ?_; (repeat (first | refine Z9v rfl ?_ | refine Z9w ?_)); refine Z9u ?_) | refine awp_seq ?_ | refine Zbm (fun _ _ => rfl) ?_ | refine Z8h ?_ | refine Kc1 rfl ?_))
    by_cases q : i = 0
    · (rw [decide_eq_true (p := i = 0) (by omega)])
      (repeat (first | refine st_q rfl rfl rfl ?_ | refine Z8w rfl ?_ | (refine Z8y ?_; (repeat (first | refine Z9v rfl ?_ | refine Z9w ?_)); refine Z9u ?_)))
      (refine Z8d ?_; exact Kar rfl ⟨(by simp [numI, q, Z8m]), rfl⟩)
    · (rw [decide_eq_false (p := i = 0) (by omega)])
      (repeat (first | refine st_q rfl rfl rfl ?_ | refine Z8v rfl (st_q rfl rfl rfl ?_) | (refine Z8y ?_; (repeat (first | refine Z9v rfl ?_ | refine Z9w ?_)); refine Z9u ?_)))
      (refine Z8d ?_; exact Kar rfl ⟨(by simp [numI, q, Z8m]), rfl⟩)
  by_cases k1 : k = 1
  · subst k1
    (repeat (first | refine st_q rfl rfl rfl ?_ | (refine Z8y ?_; (repeat (first | refine Z9v rfl ?_ | refine Z9w ?_)); refine Z9u ?_) | refine awp_seq ?_ | refine Zbm (fun _ _ => rfl) ?_ | refine Z8h ?_ | refine Kc1 rfl ?_ | refine Kc2 rfl ?_))
    (first | refine Z9t rfl ((Z12w i) _) ?_ | refine Z8v rfl (Z9t rfl ((Z12w i) _) ?_) | refine Zbw rfl (Z12w i) ?_ | refine Z8v rfl (Zbw rfl (Z12w i) ?_))
    (repeat (first | refine st_q rfl rfl rfl ?_ | (refine Z8y ?_; (repeat (first | refine Z9v rfl ?_ | refine Z9w ?_)); refine Z9u ?_)))
    (refine Z8d ?_; exact Kar rfl ⟨(by simp [numI, Z8m]), rfl⟩)
  by_cases k2 : k = 2
  · subst k2
    (repeat (first | refine st_q rfl rfl rfl ?_ | (refine Z8y ?_; (repeat (first | refine Z9v rfl ?_ | refine Z9w ?_)); refine Z9u ?_) | refine awp_seq ?_ | refine Zbm (fun _ _ => rfl) ?_ | refine Z8h ?_ | refine Kc1 rfl ?_ | refine Kc2 rfl ?_))
    (first | refine Z9t rfl ((Z12x i) _) ?_ | refine Z8v rfl (Z9t rfl ((Z12x i) _) ?_) | refine Zbw rfl (Z12x i) ?_ | refine Z8v rfl (Zbw rfl (Z12x i) ?_))
    (repeat (first | refine st_q rfl rfl rfl ?_ | (refine Z8y ?_; (repeat (first | refine Z9v rfl ?_ | refine Z9w ?_)); refine Z9u ?_)))
    (refine Z8d ?_; exact Kar rfl ⟨(by simp [numI, Z8m]), rfl⟩)
  by_cases k3 : k = 3
  · subst k3
    (repeat (first | refine st_q rfl rfl rfl ?_ | (refine Z8y ?_; (repeat (first | refine Z9v rfl ?_ | refine Z9w ?_)); refine Z9u ?_) | refine awp_seq ?_ | refine Zbm (fun _ _ => rfl) ?_ | refine Z8h ?_ | refine Zbn (fun _ _ => rfl) ?_ | refine Kc1 rfl ?_ | refine Kc2 rfl ?_))
    (first | refine Z9t rfl ((Z12y i) _) ?_ | refine Z8v rfl (Z9t rfl ((Z12y i) _) ?_) | refine Zbw rfl (Z12y i) ?_ | refine Z8v rfl (Zbw rfl (Z12y i) ?_))
    (repeat (first | refine st_q rfl rfl rfl ?_ | (refine Z8y ?_; (repeat (first | refine Z9v rfl ?_ | refine Z9w ?_)); refine Z9u ?_)))
    (refine Z8d ?_; exact Kar rfl ⟨(by simp [numI, Z8m]), rfl⟩)
  by_cases k15 : k = 15
  · subst k15
    (repeat (first | refine st_q rfl rfl rfl ?_ | (refine Z8y ?_; (repeat (first | refine Z9v rfl ?_ | refine Z9w ?_)); refine Z9u ?_) | refine awp_seq ?_ | refine Zbm (fun _ _ => rfl) ?_ | refine Z8h ?_ | refine Kc1 rfl ?_ | refine Kc2 rfl ?_))
    (first | refine Z9t rfl ((Z12y i) _) ?_ | refine Z8v rfl (Z9t rfl ((Z12y i) _) ?_) | refine Zbw rfl (Z12y i) ?_ | refine Z8v rfl (Zbw rfl (Z12y i) ?_))
    (repeat (first | refine st_q rfl rfl rfl ?_ | (refine Z8y ?_; (repeat (first | refine Z9v rfl ?_ | refine Z9w ?_)); refine Z9u ?_)))
    (refine Z8d ?_; exact Kar rfl ⟨(by simp [numI, Z8m]), rfl⟩)
  by_cases k4 : k = 4
  · subst k4
    (repeat (first | refine st_q rfl rfl rfl ?_ | (refine Z8y ?_; (repeat (first | refine Z9v rfl ?_ | refine Z9w ?_)); refine Z9u ?_) | refine awp_seq ?_ | refine Zbm (fun _ _ => rfl) ?_ | refine Z8h ?_ | refine Kc1 rfl ?_ | refine Kc2 rfl ?_))
    (refine Z8d ?_; exact Kar rfl ⟨(by simp [numI, Z8m]), rfl⟩)
  by_cases k14 : k = 14
  · subst k14
    (repeat (first | refine st_q rfl rfl rfl ?_ | (refine Z8y ?_; (repeat (first | refine Z9v rfl ?_ | refine Z9w ?_)); refine Z9u ?_) | refine awp_seq ?_ | refine Zbm (fun _ _ => rfl) ?_ | refine Z8h ?_ | refine Kc1 rfl ?_ | refine Kc2 rfl ?_))
    (first | refine Z9t rfl ((Z12t i h0.1 h0.2) _) ?_ | refine Z8v rfl (Z9t rfl ((Z12t i h0.1 h0.2) _) ?_) | refine Zbw rfl (Z12t i h0.1 h0.2) ?_ | refine Z8v rfl (Zbw rfl (Z12t i h0.1 h0.2) ?_))
    (repeat (first | refine st_q rfl rfl rfl ?_ | (refine Z8y ?_; (repeat (first | refine Z9v rfl ?_ | refine Z9w ?_)); refine Z9u ?_)))
    (refine Z8d ?_; exact Kar rfl ⟨(by simp [numI, Z8m]), rfl⟩)
  by_cases k9 : k = 9
  · subst k9
    (repeat (first | refine st_q rfl rfl rfl ?_ | (refine Z8y ?_; (repeat (first | refine Z9v rfl ?_ | refine Z9w ?_)); refine Z9u ?_) | refine awp_seq ?_ | refine Zbm (fun _ _ => rfl) ?_ | refine Z8h ?_ | refine Kc1 rfl ?_ | refine Kc2 rfl ?_))
    (first | refine Z9t rfl ((Z12q i n) _) ?_ | refine Z8v rfl (Z9t rfl ((Z12q i n) _) ?_) | refine Zbw rfl (Z12q i n) ?_ | refine Z8v rfl (Zbw rfl (Z12q i n) ?_))
    (repeat (first | refine st_q rfl rfl rfl ?_ | (refine Z8y ?_; (repeat (first | refine Z9v rfl ?_ | refine Z9w ?_)); refine Z9u ?_)))
    (refine Z8d ?_; exact Kar rfl ⟨(by simp [numI, Z8m]), rfl⟩)
  by_cases k13 : k = 13
  · subst k13
    (repeat (first | refine st_q rfl rfl rfl ?_ | (refine Z8y ?_; (repeat (first | refine Z9v rfl ?_ | refine Z9w ?_)); refine Z9u ?_) | refine awp_seq ?_ | refine Zbm (fun _ _ => rfl) ?_ | refine Z8h ?_ | refine Kc1 rfl ?_ | refine Kc2 rfl ?_))
    by_cases q : 0 ≤ i
    · (rw [decide_eq_true (p := 0 ≤ i) (by omega)])
      (repeat (first | refine st_q rfl rfl rfl ?_ | refine Z8v rfl (st_q rfl rfl rfl ?_) | (refine Z8y ?_; (repeat (first | refine Z9v rfl ?_ | refine Z9w ?_)); refine Z9u ?_)))
      rw [Zlr]
      (refine Z8d ?_; exact Kar rfl ⟨(by simp [numI, q, Z8m]), rfl⟩)
    · (rw [decide_eq_false (p := 0 ≤ i) (by omega)])
      (repeat (first | refine st_q rfl rfl rfl ?_ | refine Z8w rfl ?_ | (refine Z8y ?_; (repeat (first | refine Z9v rfl ?_ | refine Z9w ?_)); refine Z9u ?_)))
      (refine Z8d ?_; exact Kar rfl ⟨(by simp [numI, q, Z8m]), rfl⟩)
  (repeat (first | refine st_q rfl rfl rfl ?_ | (refine Z8y ?_; (repeat (first | refine Z9v rfl ?_ | refine Z9w ?_)); refine Z9u ?_) | refine awp_seq ?_ | refine Zbm (fun _ _ => rfl) ?_ | refine Z8h ?_))
  (rw [decide_eq_false (p := k = 0) (by omega)])
  (repeat (first | refine st_q rfl rfl rfl ?_ | (refine Z8y ?_; (repeat (first | refine Z9v rfl ?_ | refine Z9w ?_)); refine Z9u ?_) | refine awp_seq ?_ | refine Zbm (fun _ _ => rfl) ?_ | refine Kc2 rfl ?_))
  (rw [decide_eq_false (p := k = 1) (by omega)])
  (repeat (first | refine st_q rfl rfl rfl ?_ | (refine Z8y ?_; (repeat (first | refine Z9v rfl ?_ | refine Z9w ?_)); refine Z9u ?_) | refine awp_seq ?_ | refine Zbm (fun _ _ => rfl) ?_ | refine Kc2 rfl ?_))
  (rw [decide_eq_false (p := k = 2) (by omega)])
  (repeat (first | refine st_q rfl rfl rfl ?_ | (refine Z8y ?_; (repeat (first | refine Z9v rfl ?_ | refine Z9w ?_)); refine Z9u ?_) | refine awp_seq ?_ | refine Zbm (fun _ _ => rfl) ?_ | refine Kc2 rfl ?_))
  (rw [decide_eq_false (p := k = 3) (by omega)])
  (repeat (first | refine st_q rfl rfl rfl ?_ | (refine Z8y ?_; (repeat (first | refine Z9v rfl ?_ | refine Z9w ?_)); refine Z9u ?_) | refine Zbm (fun _ _ => rfl) ?_ | refine Kc2 rfl ?_))
  (rw [decide_eq_false (p := k = 15) (by omega)])
  (repeat (first | refine st_q rfl rfl rfl ?_ | (refine Z8y ?_; (repeat (first | refine Z9v rfl ?_ | refine Z9w ?_)); refine Z9u ?_) | refine awp_seq ?_ | refine Zbm (fun _ _ => rfl) ?_ | refine Kc2 rfl ?_))
  (rw [decide_eq_false (p := k = 4) (by omega)])
  (repeat (first | refine st_q rfl rfl rfl ?_ | (refine Z8y ?_; (repeat (first | refine Z9v rfl ?_ | refine Z9w ?_)); refine Z9u ?_) | refine awp_seq ?_ | refine Zbm (fun _ _ => rfl) ?_ | refine Kc2 rfl ?_))
  (rw [decide_eq_false (p := k = 14) (by omega)])
  (repeat (first | refine st_q rfl rfl rfl ?_ | (refine Z8y ?_; (repeat (first | refine Z9v rfl ?_ | refine Z9w ?_)); refine Z9u ?_) | refine awp_seq ?_ | refine Zbm (fun _ _ => rfl) ?_ | refine Kc2 rfl ?_))
  (rw [decide_eq_false (p := k = 9) (by omega)])
  (repeat (first | refine st_q rfl rfl rfl ?_ | (refine Z8y ?_; (repeat (first | refine Z9v rfl ?_ | refine Z9w ?_)); refine Z9u ?_) | refine awp_seq ?_ | refine Zbm (fun _ _ => rfl) ?_ | refine Kc2 rfl ?_))
  (rw [decide_eq_false (p := k = 13) (by omega)])
  (repeat (first | refine st_q rfl rfl rfl ?_ | (refine Z8y ?_; (repeat (first | refine Z9v rfl ?_ | refine Z9w ?_)); refine Z9u ?_) | refine awp_seq ?_ | refine Zbm (fun _ _ => rfl) ?_ | refine Zbn (fun _ _ => rfl) ?_ | refine Kc2 rfl ?_))
  (refine Z8d ?_; exact Kar rfl ⟨(by simp [numI, Z8m, k0, k1, k2, k3, k15, k4, k14, k9, k13]), rfl⟩)
end Go.Abs
namespace Go.Abs
open Go Go.Proofs
set_option linter.unusedVariables false
set_option linter.unusedSimpArgs false
set_option maxHeartbeats 4000000
attribute [local irreducible] AWp aops KP
theorem quo2n (n : Nat) (h : n ≤ 9223372036854775807) : IntKind.wrap .i64 ((n : Int).tdiv 2) = ((n / 2 : Nat) : Int) := by
  have e : (n : Int).tdiv 2 = ((n / 2 : Nat) : Int) := by rw [Int.tdiv_eq_ediv_of_nonneg (by omega)]; omega
  rw [e, w64 _ (by omega) (by omega)]
def Z131 (k : Int) (nu : Bool) (i n : Int) (b : List UInt8) (ks : Nat) : Bool :=
  if nu = true then decide (i = 0 ∧ n = 0 ∧ b = [] ∧ ks = 0) else decide ((n = 0 ∨ k = 9) ∧ (b = [] ∨ Zmb k = true) ∧ (ks = 0 ∨ Zlt k = false))
theorem Z132 (t : Ty) (v : Vl) (σ : Zc) : Z1q Try.prog Zfs [encT t, encV v] σ fun r σ' => r = .bool (Z131 t.kind v.null v.i v.n v.b v.kids.length) ∧ σ' = σ := by
  obtain ⟨k, ns, ks, l, p, s⟩ := t
  obtain ⟨nu, i, n, b, vks⟩ := v
  simp only [encT, encV, Ty.kind, Vl.null, Vl.i, Vl.n, Vl.b, Vl.kids] at *
  refine Z8t rfl Z12g (Nat.le_of_ble_eq_true rfl) ?_
  refine Z9z ?_
  refine Z9j rfl (Kfi rfl) fun b1 hb1 => ?_
  refine Z9j rfl (Kfi rfl) fun b2 hb2 => ?_
  (repeat (refine st_q rfl rfl rfl ?_))
  (refine Z8y ?_; (repeat (first | refine Z9v rfl ?_ | refine Z9w ?_)); refine Z9u ?_)
  refine Zb3 (d := 3) (cs := [.bool nu, .int .i64 i, .int .i64 n, .slc 1 (bytes b) false, .slc 5 (Zm5 vks) false]) rfl ?_
  refine Zb3 (d := 2) (cs := [.int .i64 k, .slc 1 (ns.map .str) false, .slc 6 (Zln ks) false, .int .i64 l, .int .i64 p, .int .i64 s]) rfl ?_
  have eb : b = [] ↔ (b.length : Int) = 0 := by rw [← List.length_eq_zero_iff]; omega
  cases nu with
  | true =>
    (repeat (first | refine st_q rfl rfl rfl ?_ | (refine Z8y ?_; (repeat (first | refine Z9v rfl ?_ | refine Z9w ?_)); refine Z9u ?_) | refine awp_seq ?_ | refine Zbm (fun _ _ => rfl) ?_ | refine Kc1 rfl ?_))
    by_cases q1 : i = 0
    rotate_left
    · (rw [decide_eq_false (p := i = 0) (by omega)])
      (repeat (first | refine st_q rfl rfl rfl ?_ | refine Z8w rfl ?_ | (refine Z8y ?_; (repeat (first | refine Z9v rfl ?_ | refine Z9w ?_)); refine Z9u ?_)))
      (refine Z8d ?_; exact Kar rfl ⟨(by simp [Z131, q1, Z8m]), rfl⟩)
    (rw [decide_eq_true (p := i = 0) (by omega)])
    (repeat (first | refine st_q rfl rfl rfl ?_ | refine Z8v rfl (st_q rfl rfl rfl ?_)))
    by_cases q2 : n = 0
    rotate_left
    · (rw [decide_eq_false (p := n = 0) (by omega)])
      (repeat (first | refine st_q rfl rfl rfl ?_ | refine Z8w rfl ?_ | (refine Z8y ?_; (repeat (first | refine Z9v rfl ?_ | refine Z9w ?_)); refine Z9u ?_)))
      (refine Z8d ?_; exact Kar rfl ⟨(by simp [Z131, q2, Z8m]), rfl⟩)
    (rw [decide_eq_true (p := n = 0) (by omega)])
    (repeat (first | refine st_q rfl rfl rfl ?_ | refine Z8v rfl (st_q rfl rfl rfl ?_)))
    rw [Zam]
    by_cases q3 : (b.length : Int) = 0
    rotate_left
    · have q3' : ¬ b = [] := fun e => q3 (eb.1 e)
      (rw [decide_eq_false (p := (b.length : Int) = 0) (by omega)])
      (repeat (first | refine st_q rfl rfl rfl ?_ | refine Z8w rfl ?_ | (refine Z8y ?_; (repeat (first | refine Z9v rfl ?_ | refine Z9w ?_)); refine Z9u ?_)))
      (refine Z8d ?_; exact Kar rfl ⟨(by simp [Z131, q3', Z8m]), rfl⟩)
    have q3' : b = [] := eb.2 q3
    (rw [decide_eq_true (p := (b.length : Int) = 0) (by omega)])
    (repeat (first | refine st_q rfl rfl rfl ?_ | refine Z8v rfl (st_q rfl rfl rfl ?_) | (refine Z8y ?_; (repeat (first | refine Z9v rfl ?_ | refine Z9w ?_)); refine Z9u ?_)))
    rw [Zm9]
    refine Z8d ?_
    refine ares rfl (HSub.refl _) ⟨?_, rfl⟩
    simp only [Z131, Z8m, if_true, Z0.bool.injEq, decide_eq_decide, eb, q1, q2, q3, true_and]
    omega
  | false =>
    (repeat (first | refine st_q rfl rfl rfl ?_ | (refine Z8y ?_; (repeat (first | refine Z9v rfl ?_ | refine Z9w ?_)); refine Z9u ?_) | refine awp_seq ?_ | refine Zbm (fun _ _ => rfl) ?_ | refine Zbn (fun _ _ => rfl) ?_ | refine Kc2 rfl ?_))
    by_cases q1 : n = 0
    · (rw [decide_eq_true (p := n = 0) (by omega)])
      (repeat (first | refine st_q rfl rfl rfl ?_ | refine Z8v rfl (st_q rfl rfl rfl ?_) | refine Z8w rfl ?_))
      rw [Zam]
      by_cases q3 : (b.length : Int) = 0
      · have q3' : b = [] := eb.2 q3
        (rw [decide_eq_true (p := (b.length : Int) = 0) (by omega)])
        (repeat (first | refine st_q rfl rfl rfl ?_ | refine Z8v rfl (st_q rfl rfl rfl ?_) | refine Z8w rfl ?_))
        rw [Zm9]
        by_cases q4 : (vks.length : Int) = 0
        · (rw [decide_eq_true (p := (vks.length : Int) = 0) (by omega)])
          (repeat (first | refine st_q rfl rfl rfl ?_ | refine Z8v rfl (st_q rfl rfl rfl ?_) | refine Z8w rfl ?_ | (refine Z8y ?_; (repeat (first | refine Z9v rfl ?_ | refine Z9w ?_)); refine Z9u ?_)))
          (refine Z8d ?_; exact Kar rfl ⟨(by have q4' : vks.length = 0 := (by omega); simp [Z131, q1, q3', q4', Z8m]), rfl⟩)
        · (rw [decide_eq_false (p := (vks.length : Int) = 0) (by omega)])
          (repeat refine Z8v rfl (st_q rfl rfl rfl ?_))
          (first | refine Z9t rfl ((Zmw k) _) ?_ | refine Z8v rfl (Z9t rfl ((Zmw k) _) ?_) | refine Zbw rfl (Zmw k) ?_ | refine Z8v rfl (Zbw rfl (Zmw k) ?_))
          (repeat (first | refine st_q rfl rfl rfl ?_ | refine Z8v rfl (st_q rfl rfl rfl ?_) | (refine Z8y ?_; (repeat (first | refine Z9v rfl ?_ | refine Z9w ?_)); refine Z9u ?_)))
          (refine Z8d ?_; exact Kar rfl ⟨(by have q4' : ¬ vks.length = 0 := (by omega); cases hl : Zlt k <;> simp [Z131, q1, q3', q4', hl, Z8m]), rfl⟩)
      · have q3' : ¬ b = [] := fun e => q3 (eb.1 e)
        (rw [decide_eq_false (p := (b.length : Int) = 0) (by omega)])
        (repeat refine Z8v rfl (st_q rfl rfl rfl ?_))
        (first | refine Z9t rfl ((Zu8 k) _) ?_ | refine Z8v rfl (Z9t rfl ((Zu8 k) _) ?_) | refine Zbw rfl (Zu8 k) ?_ | refine Z8v rfl (Zbw rfl (Zu8 k) ?_))
        cases ht : Zmb k with
        | false =>
          (repeat (first | refine st_q rfl rfl rfl ?_ | refine Z8v rfl (st_q rfl rfl rfl ?_) | refine Z8w rfl ?_ | refine Z8x rfl ?_ | (refine Z8y ?_; (repeat (first | refine Z9v rfl ?_ | refine Z9w ?_)); refine Z9u ?_)))
          (refine Z8d ?_; exact Kar rfl ⟨(by simp [Z131, q1, q3', ht, Z8m]), rfl⟩)
        | true =>
          (repeat (first | refine st_q rfl rfl rfl ?_ | refine Z8v rfl (st_q rfl rfl rfl ?_)))
          rw [Zm9]
          by_cases q4 : (vks.length : Int) = 0
          · (rw [decide_eq_true (p := (vks.length : Int) = 0) (by omega)])
            (repeat (first | refine st_q rfl rfl rfl ?_ | refine Z8v rfl (st_q rfl rfl rfl ?_) | refine Z8w rfl ?_ | (refine Z8y ?_; (repeat (first | refine Z9v rfl ?_ | refine Z9w ?_)); refine Z9u ?_)))
            (refine Z8d ?_; exact Kar rfl ⟨(by have q4' : vks.length = 0 := (by omega); simp [Z131, q1, q3', q4', ht, Z8m]), rfl⟩)
          · (rw [decide_eq_false (p := (vks.length : Int) = 0) (by omega)])
            (repeat refine Z8v rfl (st_q rfl rfl rfl ?_))
            (first | refine Z9t rfl ((Zmw k) _) ?_ | refine Z8v rfl (Z9t rfl ((Zmw k) _) ?_) | refine Zbw rfl (Zmw k) ?_ | refine Z8v rfl (Zbw rfl (Zmw k) ?_))
            (repeat (first | refine st_q rfl rfl rfl ?_ | refine Z8v rfl (st_q rfl rfl rfl ?_) | (refine Z8y ?_; (repeat (first | refine Z9v rfl ?_ | refine Z9w ?_)); refine Z9u ?_)))
            (refine Z8d ?_; exact Kar rfl ⟨(by have q4' : ¬ vks.length = 0 := (by omega); cases hl : Zlt k <;> simp [Z131, q1, q3', q4', ht, hl, Z8m]), rfl⟩)
    · (rw [decide_eq_false (p := n = 0) (by omega)])
      (repeat (first | refine st_q rfl rfl rfl ?_ | refine Z8v rfl (st_q rfl rfl rfl ?_)))
      by_cases q9 : k = 9
      · (rw [decide_eq_true (p := k = 9) (by omega)])
        (repeat refine Z8v rfl (st_q rfl rfl rfl ?_))
        rw [Zam]
        by_cases q3 : (b.length : Int) = 0
        · have q3' : b = [] := eb.2 q3
          (rw [decide_eq_true (p := (b.length : Int) = 0) (by omega)])
          (repeat (first | refine st_q rfl rfl rfl ?_ | refine Z8v rfl (st_q rfl rfl rfl ?_) | refine Z8w rfl ?_))
          rw [Zm9]
          by_cases q4 : (vks.length : Int) = 0
          · (rw [decide_eq_true (p := (vks.length : Int) = 0) (by omega)])
            (repeat (first | refine st_q rfl rfl rfl ?_ | refine Z8v rfl (st_q rfl rfl rfl ?_) | refine Z8w rfl ?_ | (refine Z8y ?_; (repeat (first | refine Z9v rfl ?_ | refine Z9w ?_)); refine Z9u ?_)))
            (refine Z8d ?_; exact Kar rfl ⟨(by have q4' : vks.length = 0 := (by omega); simp [Z131, q1, q9, q3', q4', Z8m]), rfl⟩)
          · (rw [decide_eq_false (p := (vks.length : Int) = 0) (by omega)])
            (repeat refine Z8v rfl (st_q rfl rfl rfl ?_))
            (first | refine Z9t rfl ((Zmw k) _) ?_ | refine Z8v rfl (Z9t rfl ((Zmw k) _) ?_) | refine Zbw rfl (Zmw k) ?_ | refine Z8v rfl (Zbw rfl (Zmw k) ?_))
            (repeat (first | refine st_q rfl rfl rfl ?_ | refine Z8v rfl (st_q rfl rfl rfl ?_) | (refine Z8y ?_; (repeat (first | refine Z9v rfl ?_ | refine Z9w ?_)); refine Z9u ?_)))
            (refine Z8d ?_; exact Kar rfl ⟨(by have q4' : ¬ vks.length = 0 := (by omega); cases hl : Zlt k <;> rw [q9] at hl <;> simp [Z131, q1, q9, q3', q4', hl, Z8m]), rfl⟩)
        · have q3' : ¬ b = [] := fun e => q3 (eb.1 e)
          (rw [decide_eq_false (p := (b.length : Int) = 0) (by omega)])
          (repeat refine Z8v rfl (st_q rfl rfl rfl ?_))
          (first | refine Z9t rfl ((Zu8 k) _) ?_ | refine Z8v rfl (Z9t rfl ((Zu8 k) _) ?_) | refine Zbw rfl (Zu8 k) ?_ | refine Z8v rfl (Zbw rfl (Zu8 k) ?_))
          cases ht : Zmb k with
          | false =>
            (repeat (first | refine st_q rfl rfl rfl ?_ | refine Z8v rfl (st_q rfl rfl rfl ?_) | refine Z8w rfl ?_ | refine Z8x rfl ?_ | (refine Z8y ?_; (repeat (first | refine Z9v rfl ?_ | refine Z9w ?_)); refine Z9u ?_)))
            (refine Z8d ?_; exact Kar rfl ⟨(by rw [q9] at ht; simp [Z131, q1, q9, q3', ht, Z8m]), rfl⟩)
          | true =>
            (repeat (first | refine st_q rfl rfl rfl ?_ | refine Z8v rfl (st_q rfl rfl rfl ?_)))
            rw [Zm9]
            by_cases q4 : (vks.length : Int) = 0
            · (rw [decide_eq_true (p := (vks.length : Int) = 0) (by omega)])
              (repeat (first | refine st_q rfl rfl rfl ?_ | refine Z8v rfl (st_q rfl rfl rfl ?_) | refine Z8w rfl ?_ | (refine Z8y ?_; (repeat (first | refine Z9v rfl ?_ | refine Z9w ?_)); refine Z9u ?_)))
              (refine Z8d ?_; exact Kar rfl ⟨(by rw [q9] at ht; have q4' : vks.length = 0 := (by omega); simp [Z131, q1, q9, q3', q4', ht, Z8m]), rfl⟩)
            · (rw [decide_eq_false (p := (vks.length : Int) = 0) (by omega)])
              (repeat refine Z8v rfl (st_q rfl rfl rfl ?_))
              (first | refine Z9t rfl ((Zmw k) _) ?_ | refine Z8v rfl (Z9t rfl ((Zmw k) _) ?_) | refine Zbw rfl (Zmw k) ?_ | refine Z8v rfl (Zbw rfl (Zmw k) ?_))
              (repeat (first | refine st_q rfl rfl rfl ?_ | refine Z8v rfl (st_q rfl rfl rfl ?_) | (refine Z8y ?_; (repeat (first | refine Z9v rfl ?_ | refine Z9w ?_)); refine Z9u ?_)))
              (refine Z8d ?_; exact Kar rfl ⟨(by rw [q9] at ht; have q4' : ¬ vks.length = 0 := (by omega); cases hl : Zlt k <;> rw [q9] at hl <;> simp [Z131, q1, q9, q3', q4', ht, hl, Z8m]), rfl⟩)
      · (rw [decide_eq_false (p := k = 9) (by omega)])
        (repeat (first | refine st_q rfl rfl rfl ?_ | refine Z8w rfl ?_ | refine Z8x rfl ?_ | (refine Z8y ?_; (repeat (first | refine Z9v rfl ?_ | refine Z9w ?_)); refine Z9u ?_)))
        (refine Z8d ?_; exact Kar rfl ⟨(by simp [Z131, q1, q9, Z8m]), rfl⟩)
def longF (k l : Int) (b : List UInt8) : Bool := decide (((k = 16 ∨ k = 17) ∧ l < (Zmc b : Int)) ∨ ((k = 7 ∨ k = 8 ∨ k = 16 ∨ k = 17) ∧ 4096 < b.length))
theorem Z133 (t : Ty) (v : Vl) (hb : v.b.length ≤ 9223372036854775807) (σ : Zc) : Z1q Try.prog Zfu [encT t, encV v] σ fun r σ' => r = .bool (longF t.kind t.len v.b) ∧ σ' = σ := by
  obtain ⟨k, ns, ks, l, p, s⟩ := t
  obtain ⟨nu, i, n, b, vks⟩ := v
  simp only [encT, encV, Ty.kind, Ty.len, Vl.b] at *
  refine Z8t rfl Z12i (Nat.le_of_ble_eq_true rfl) ?_
  refine Z9z ?_
  refine Z9j rfl (Kfi rfl) fun b1 hb1 => ?_
  refine Z9j rfl (Kfi rfl) fun b2 hb2 => ?_
  (repeat (refine st_q rfl rfl rfl ?_))
  (refine Z8y ?_; (repeat (first | refine Z9v rfl ?_ | refine Z9w ?_)); refine Z9u ?_)
  refine Zb3 (d := 3) (cs := [.bool nu, .int .i64 i, .int .i64 n, .slc 1 (bytes b) false, .slc 5 (Zm5 vks) false]) rfl ?_
  refine Zb3 (d := 2) (cs := [.int .i64 k, .slc 1 (ns.map .str) false, .slc 6 (Zln ks) false, .int .i64 l, .int .i64 p, .int .i64 s]) rfl ?_
  by_cases k16 : k = 16
  · subst k16
    (repeat (first | refine st_q rfl rfl rfl ?_ | (refine Z8y ?_; (repeat (first | refine Z9v rfl ?_ | refine Z9w ?_)); refine Z9u ?_) | refine awp_seq ?_ | refine Zbm (fun _ _ => rfl) ?_ | refine Z8h ?_ | refine Zbn (fun _ _ => rfl) ?_ | refine Zbo (fun _ _ => rfl) ?_ | refine Kc1 rfl ?_))
    (first | refine Z9t rfl ((Z12u b false hb) _) ?_ | refine Z8v rfl (Z9t rfl ((Z12u b false hb) _) ?_) | refine Zbw rfl (Z12u b false hb) ?_ | refine Z8v rfl (Zbw rfl (Z12u b false hb) ?_))
    (repeat (first | refine st_q rfl rfl rfl ?_ | (refine Z8y ?_; (repeat (first | refine Z9v rfl ?_ | refine Z9w ?_)); refine Z9u ?_)))
    by_cases q : l < (Zmc b : Int)
    · (rw [decide_eq_true (p := l < (Zmc b : Int)) (by omega)])
      (repeat (first | refine st_q rfl rfl rfl ?_ | (refine Z8y ?_; (repeat (first | refine Z9v rfl ?_ | refine Z9w ?_)); refine Z9u ?_) | refine awp_seq ?_ | refine Zbm (fun _ _ => rfl) ?_ | refine Kc1 rfl ?_))
      (refine Z8d ?_; exact Kar rfl ⟨(by simp [longF, q, Z8m]), rfl⟩)
    · (rw [decide_eq_false (p := l < (Zmc b : Int)) (by omega)])
      (repeat (first | refine st_q rfl rfl rfl ?_ | (refine Z8y ?_; (repeat (first | refine Z9v rfl ?_ | refine Z9w ?_)); refine Z9u ?_) | refine awp_seq ?_ | refine Zbm (fun _ _ => rfl) ?_ | refine Zbn (fun _ _ => rfl) ?_ | refine Kc2 rfl ?_))
      rw [Zam]
      refine Z8d ?_
      refine ares rfl (HSub.refl _) ⟨?_, rfl⟩
      simp [longF, q, Z8m]
      try omega
  by_cases k17 : k = 17
  · subst k17
    (repeat (first | refine st_q rfl rfl rfl ?_ | (refine Z8y ?_; (repeat (first | refine Z9v rfl ?_ | refine Z9w ?_)); refine Z9u ?_) | refine awp_seq ?_ | refine Zbm (fun _ _ => rfl) ?_ | refine Z8h ?_ | refine Zbo (fun _ _ => rfl) ?_ | refine Kc1 rfl ?_ | refine Kc2 rfl ?_))
    (first | refine Z9t rfl ((Z12u b false hb) _) ?_ | refine Z8v rfl (Z9t rfl ((Z12u b false hb) _) ?_) | refine Zbw rfl (Z12u b false hb) ?_ | refine Z8v rfl (Zbw rfl (Z12u b false hb) ?_))
    (repeat (first | refine st_q rfl rfl rfl ?_ | (refine Z8y ?_; (repeat (first | refine Z9v rfl ?_ | refine Z9w ?_)); refine Z9u ?_)))
    by_cases q : l < (Zmc b : Int)
    · (rw [decide_eq_true (p := l < (Zmc b : Int)) (by omega)])
      (repeat (first | refine st_q rfl rfl rfl ?_ | (refine Z8y ?_; (repeat (first | refine Z9v rfl ?_ | refine Z9w ?_)); refine Z9u ?_) | refine awp_seq ?_ | refine Zbm (fun _ _ => rfl) ?_ | refine Kc1 rfl ?_))
      (refine Z8d ?_; exact Kar rfl ⟨(by simp [longF, q, Z8m]), rfl⟩)
    · (rw [decide_eq_false (p := l < (Zmc b : Int)) (by omega)])
      (repeat (first | refine st_q rfl rfl rfl ?_ | (refine Z8y ?_; (repeat (first | refine Z9v rfl ?_ | refine Z9w ?_)); refine Z9u ?_) | refine awp_seq ?_ | refine Zbm (fun _ _ => rfl) ?_ | refine Zbn (fun _ _ => rfl) ?_ | refine Kc2 rfl ?_))
      rw [Zam]
      refine Z8d ?_
      refine ares rfl (HSub.refl _) ⟨?_, rfl⟩
      simp [longF, q, Z8m]
      try omega
  by_cases k7 : k = 7
  · subst k7
    (repeat (first | refine st_q rfl rfl rfl ?_ | (refine Z8y ?_; (repeat (first | refine Z9v rfl ?_ | refine Z9w ?_)); refine Z9u ?_) | refine awp_seq ?_ | refine Zbm (fun _ _ => rfl) ?_ | refine Z8h ?_ | refine Zbn (fun _ _ => rfl) ?_ | refine Zbo (fun _ _ => rfl) ?_ | refine Kc1 rfl ?_ | refine Kc2 rfl ?_))
    rw [Zam]
    refine Z8d ?_
    refine ares rfl (HSub.refl _) ⟨?_, rfl⟩
    simp [longF, Z8m]
    try omega
  by_cases k8 : k = 8
  · subst k8
    (repeat (first | refine st_q rfl rfl rfl ?_ | (refine Z8y ?_; (repeat (first | refine Z9v rfl ?_ | refine Z9w ?_)); refine Z9u ?_) | refine awp_seq ?_ | refine Zbm (fun _ _ => rfl) ?_ | refine Z8h ?_ | refine Zbn (fun _ _ => rfl) ?_ | refine Zbo (fun _ _ => rfl) ?_ | refine Kc1 rfl ?_ | refine Kc2 rfl ?_))
    rw [Zam]
    refine Z8d ?_
    refine ares rfl (HSub.refl _) ⟨?_, rfl⟩
    simp [longF, Z8m]
    try omega
  (repeat (first | refine st_q rfl rfl rfl ?_ | (refine Z8y ?_; (repeat (first | refine Z9v rfl ?_ | refine Z9w ?_)); refine Z9u ?_) | refine awp_seq ?_ | refine Zbm (fun _ _ => rfl) ?_ | refine Z8h ?_))
  (rw [decide_eq_false (p := k = 16) (by omega)])
  (repeat (first | refine st_q rfl rfl rfl ?_ | (refine Z8y ?_; (repeat (first | refine Z9v rfl ?_ | refine Z9w ?_)); refine Z9u ?_) | refine Zbm (fun _ _ => rfl) ?_ | refine Kc2 rfl ?_))
  (rw [decide_eq_false (p := k = 17) (by omega)])
  (repeat (first | refine st_q rfl rfl rfl ?_ | (refine Z8y ?_; (repeat (first | refine Z9v rfl ?_ | refine Z9w ?_)); refine Z9u ?_) | refine awp_seq ?_ | refine Zbm (fun _ _ => rfl) ?_ | refine Zbn (fun _ _ => rfl) ?_ | refine Kc2 rfl ?_))
  (rw [decide_eq_false (p := k = 7) (by omega)])
  (repeat (first | refine st_q rfl rfl rfl ?_ | (refine Z8y ?_; (repeat (first | refine Z9v rfl ?_ | refine Z9w ?_)); refine Z9u ?_) | refine Zbm (fun _ _ => rfl) ?_ | refine Kc2 rfl ?_))
  (rw [decide_eq_false (p := k = 8) (by omega)])
  (repeat (first | refine st_q rfl rfl rfl ?_ | (refine Z8y ?_; (repeat (first | refine Z9v rfl ?_ | refine Z9w ?_)); refine Z9u ?_) | refine awp_seq ?_ | refine Zbm (fun _ _ => rfl) ?_ | refine Zbn (fun _ _ => rfl) ?_ | refine Zbo (fun _ _ => rfl) ?_ | refine Kc2 rfl ?_))
  (refine Z8d ?_; exact Kar rfl ⟨(by simp [longF, Z8m, k16, k17, k7, k8]), rfl⟩)
def Z134 (k : Int) (n kids : Nat) : Nat :=
  if k = 11 then (if n % 2 ≠ 0 then 1 else if 16384 < n / 2 then 4 else 0)
  else if k = 10 then (if 16384 < n then 4 else 0)
  else if k = 12 then (if n ≠ kids then 1 else 0)
  else if k = 13 then (if n ≠ 1 then 1 else 0)
  else 0
theorem Z135 (t : Ty) (v : Vl) (hk : v.kids.length ≤ 9223372036854775807) (σ : Zc) : Z1q Try.prog Zfv [encT t, encV v] σ fun r σ' => r = .int .i64 (Z134 t.kind v.kids.length t.kids.length : Int) ∧ σ' = σ := by
  obtain ⟨k, ns, ks, l, p, s⟩ := t
  obtain ⟨nu, i, n, b, vks⟩ := v
  simp only [encT, encV, Ty.kind, Ty.kids, Vl.kids] at *
  refine Z8t rfl Z12j (Nat.le_of_ble_eq_true rfl) ?_
  refine Z9z ?_
  refine Z9j rfl (Kfi rfl) fun b1 hb1 => ?_
  refine Z9j rfl (Kfi rfl) fun b2 hb2 => ?_
  (repeat (refine st_q rfl rfl rfl ?_))
  (refine Z8y ?_; (repeat (first | refine Z9v rfl ?_ | refine Z9w ?_)); refine Z9u ?_)
  refine Zb3 (d := 3) (cs := [.bool nu, .int .i64 i, .int .i64 n, .slc 1 (bytes b) false, .slc 5 (Zm5 vks) false]) rfl ?_
  refine Zb3 (d := 2) (cs := [.int .i64 k, .slc 1 (ns.map .str) false, .slc 6 (Zln ks) false, .int .i64 l, .int .i64 p, .int .i64 s]) rfl ?_
  by_cases k11 : k = 11
  · subst k11
    (repeat (first | refine st_q rfl rfl rfl ?_ | (refine Z8y ?_; (repeat (first | refine Z9v rfl ?_ | refine Z9w ?_)); refine Z9u ?_) | refine awp_seq ?_ | refine Zbm (fun _ _ => rfl) ?_ | refine Z8h ?_ | refine Zbo (fun _ _ => rfl) ?_ | refine Kc1 rfl ?_))
    rw [Zm9, quo2n _ hk, show (vks.length : Int).tmod 2 = ((vks.length % 2 : Nat) : Int) by rw [Int.tmod_eq_emod_of_nonneg (by omega)]; omega]
    by_cases q : vks.length % 2 = 0
    · (rw [decide_eq_true (p := ((vks.length % 2 : Nat) : Int) = 0) (by omega)])
      (repeat (first | refine st_q rfl rfl rfl ?_ | refine Z8v rfl (st_q rfl rfl rfl ?_) | (refine Z8y ?_; (repeat (first | refine Z9v rfl ?_ | refine Z9w ?_)); refine Z9u ?_)))
      by_cases q2 : 16384 < vks.length / 2
      · (rw [decide_eq_true (p := (16384 : Int) < ((vks.length / 2 : Nat) : Int)) (by omega)])
        (repeat (first | refine st_q rfl rfl rfl ?_ | (refine Z8y ?_; (repeat (first | refine Z9v rfl ?_ | refine Z9w ?_)); refine Z9u ?_) | refine awp_seq ?_ | refine Zbm (fun _ _ => rfl) ?_ | refine Kc1 rfl ?_))
        (refine Z8d ?_; exact Kar rfl ⟨(by simp [Z134, q, q2, Z8m]), rfl⟩)
      · (rw [decide_eq_false (p := (16384 : Int) < ((vks.length / 2 : Nat) : Int)) (by omega)])
        (repeat (first | refine st_q rfl rfl rfl ?_ | (refine Z8y ?_; (repeat (first | refine Z9v rfl ?_ | refine Z9w ?_)); refine Z9u ?_) | refine awp_seq ?_ | refine Zbm (fun _ _ => rfl) ?_ | refine Zbn (fun _ _ => rfl) ?_ | refine Zbo (fun _ _ => rfl) ?_ | refine Kc2 rfl ?_))
        (refine Z8d ?_; exact Kar rfl ⟨(by simp [Z134, q, q2, Z8m]), rfl⟩)
    · (rw [decide_eq_false (p := ((vks.length % 2 : Nat) : Int) = 0) (by omega)])
      (repeat (first | refine st_q rfl rfl rfl ?_ | refine Z8w rfl ?_ | (refine Z8y ?_; (repeat (first | refine Z9v rfl ?_ | refine Z9w ?_)); refine Z9u ?_) | refine awp_seq ?_ | refine Zbm (fun _ _ => rfl) ?_ | refine Zbn (fun _ _ => rfl) ?_ | refine Zbo (fun _ _ => rfl) ?_ | refine Kc1 rfl ?_ | refine Kc2 rfl ?_))
      (refine Z8d ?_; exact Kar rfl ⟨(by simp [Z134, q, Z8m]), rfl⟩)
  by_cases k10 : k = 10
  · subst k10
    (repeat (first | refine st_q rfl rfl rfl ?_ | refine Z8v rfl (st_q rfl rfl rfl ?_) | (refine Z8y ?_; (repeat (first | refine Z9v rfl ?_ | refine Z9w ?_)); refine Z9u ?_) | refine awp_seq ?_ | refine Zbm (fun _ _ => rfl) ?_ | refine Z8h ?_ | refine Zbn (fun _ _ => rfl) ?_ | refine Zbo (fun _ _ => rfl) ?_ | refine Kc1 rfl ?_ | refine Kc2 rfl ?_))
    rw [Zm9]
    by_cases q2 : 16384 < vks.length
    · (rw [decide_eq_true (p := (16384 : Int) < (vks.length : Int)) (by omega)])
      (repeat (first | refine st_q rfl rfl rfl ?_ | (refine Z8y ?_; (repeat (first | refine Z9v rfl ?_ | refine Z9w ?_)); refine Z9u ?_) | refine awp_seq ?_ | refine Zbm (fun _ _ => rfl) ?_ | refine Kc1 rfl ?_))
      (refine Z8d ?_; exact Kar rfl ⟨(by simp [Z134, q2, Z8m]), rfl⟩)
    · (rw [decide_eq_false (p := (16384 : Int) < (vks.length : Int)) (by omega)])
      (repeat (first | refine st_q rfl rfl rfl ?_ | (refine Z8y ?_; (repeat (first | refine Z9v rfl ?_ | refine Z9w ?_)); refine Z9u ?_) | refine awp_seq ?_ | refine Zbm (fun _ _ => rfl) ?_ | refine Zbn (fun _ _ => rfl) ?_ | refine Zbo (fun _ _ => rfl) ?_ | refine Kc2 rfl ?_))
      (refine Z8d ?_; exact Kar rfl ⟨(by simp [Z134, q2, Z8m]), rfl⟩)
  by_cases k12 : k = 12
  · subst k12
    (repeat (first | refine st_q rfl rfl rfl ?_ | (refine Z8y ?_; (repeat (first | refine Z9v rfl ?_ | refine Z9w ?_)); refine Z9u ?_) | refine awp_seq ?_ | refine Zbm (fun _ _ => rfl) ?_ | refine Z8h ?_ | refine Zbn (fun _ _ => rfl) ?_ | refine Zbo (fun _ _ => rfl) ?_ | refine Kc1 rfl ?_ | refine Kc2 rfl ?_))
    rw [Zm9, Zlr]
    by_cases q2 : vks.length = ks.length
    · (rw [decide_eq_true (p := (vks.length : Int) = (ks.length : Int)) (by omega)])
      (repeat (first | refine st_q rfl rfl rfl ?_ | (refine Z8y ?_; (repeat (first | refine Z9v rfl ?_ | refine Z9w ?_)); refine Z9u ?_) | refine awp_seq ?_ | refine Zbm (fun _ _ => rfl) ?_ | refine Zbn (fun _ _ => rfl) ?_ | refine Kc2 rfl ?_))
      (refine Z8d ?_; exact Kar rfl ⟨(by simp [Z134, q2, Z8m]), rfl⟩)
    · (rw [decide_eq_false (p := (vks.length : Int) = (ks.length : Int)) (by omega)])
      (repeat (first | refine st_q rfl rfl rfl ?_ | (refine Z8y ?_; (repeat (first | refine Z9v rfl ?_ | refine Z9w ?_)); refine Z9u ?_) | refine awp_seq ?_ | refine Zbm (fun _ _ => rfl) ?_ | refine Kc1 rfl ?_))
      (refine Z8d ?_; exact Kar rfl ⟨(by simp [Z134, q2, Z8m]), rfl⟩)
  by_cases k13 : k = 13
  · subst k13
    (repeat (first | refine st_q rfl rfl rfl ?_ | (refine Z8y ?_; (repeat (first | refine Z9v rfl ?_ | refine Z9w ?_)); refine Z9u ?_) | refine awp_seq ?_ | refine Zbm (fun _ _ => rfl) ?_ | refine Z8h ?_ | refine Zbn (fun _ _ => rfl) ?_ | refine Zbo (fun _ _ => rfl) ?_ | refine Kc1 rfl ?_ | refine Kc2 rfl ?_))
    rw [Zm9]
    by_cases q2 : vks.length = 1
    · (rw [decide_eq_true (p := (vks.length : Int) = 1) (by omega)])
      (repeat (first | refine st_q rfl rfl rfl ?_ | (refine Z8y ?_; (repeat (first | refine Z9v rfl ?_ | refine Z9w ?_)); refine Z9u ?_) | refine awp_seq ?_ | refine Zbm (fun _ _ => rfl) ?_ | refine Zbn (fun _ _ => rfl) ?_ | refine Kc2 rfl ?_))
      (refine Z8d ?_; exact Kar rfl ⟨(by simp [Z134, q2, Z8m]), rfl⟩)
    · (rw [decide_eq_false (p := (vks.length : Int) = 1) (by omega)])
      (repeat (first | refine st_q rfl rfl rfl ?_ | (refine Z8y ?_; (repeat (first | refine Z9v rfl ?_ | refine Z9w ?_)); refine Z9u ?_) | refine awp_seq ?_ | refine Zbm (fun _ _ => rfl) ?_ | refine Kc1 rfl ?_))
      (refine Z8d ?_; exact Kar rfl ⟨(by simp [Z134, q2, Z8m]), rfl⟩)
  (repeat (first | refine st_q rfl rfl rfl ?_ | (refine Z8y ?_; (repeat (first | refine Z9v rfl ?_ | refine Z9w ?_)); refine Z9u ?_) | refine awp_seq ?_ | refine Zbm (fun _ _ => rfl) ?_ | refine Z8h ?_))
  (rw [decide_eq_false (p := k = 11) (by omega)])
  (repeat (first | refine st_q rfl rfl rfl ?_ | (refine Z8y ?_; (repeat (first | refine Z9v rfl ?_ | refine Z9w ?_)); refine Z9u ?_) | refine awp_seq ?_ | refine Zbm (fun _ _ => rfl) ?_ | refine Zbn (fun _ _ => rfl) ?_ | refine Kc2 rfl ?_))
  (rw [decide_eq_false (p := k = 10) (by omega)])
  (repeat (first | refine st_q rfl rfl rfl ?_ | (refine Z8y ?_; (repeat (first | refine Z9v rfl ?_ | refine Z9w ?_)); refine Z9u ?_) | refine awp_seq ?_ | refine Zbm (fun _ _ => rfl) ?_ | refine Zbn (fun _ _ => rfl) ?_ | refine Kc2 rfl ?_))
  (rw [decide_eq_false (p := k = 12) (by omega)])
  (repeat (first | refine st_q rfl rfl rfl ?_ | (refine Z8y ?_; (repeat (first | refine Z9v rfl ?_ | refine Z9w ?_)); refine Z9u ?_) | refine awp_seq ?_ | refine Zbm (fun _ _ => rfl) ?_ | refine Zbn (fun _ _ => rfl) ?_ | refine Kc2 rfl ?_))
  (rw [decide_eq_false (p := k = 13) (by omega)])
  (repeat (first | refine st_q rfl rfl rfl ?_ | (refine Z8y ?_; (repeat (first | refine Z9v rfl ?_ | refine Z9w ?_)); refine Z9u ?_) | refine awp_seq ?_ | refine Zbm (fun _ _ => rfl) ?_ | refine Zbn (fun _ _ => rfl) ?_ | refine Zbo (fun _ _ => rfl) ?_ | refine Kc2 rfl ?_))
  (refine Z8d ?_; exact Kar rfl ⟨(by simp [Z134, Z8m, k10, k11, k12, k13]), rfl⟩)
end Go.Abs
namespace Go.Abs
open Go Go.Proofs
set_option linter.unusedVariables false
set_option linter.unusedSimpArgs false
set_option maxHeartbeats 4000000
attribute [local irreducible] AWp aops KP
theorem c_kid (t : Ty) (i n : Int) (nu : Bool) (bs : List UInt8) (vks : List Vl) (j : Nat) (hj : j ≤ 9223372036854775807) (hi : t.kind = 13 → 0 ≤ i) (hlt : Zmf t.kind i j < t.kids.length) (σ : Zc) :
    Z1q Try.prog Zfw [encT t, encV (.mk nu i n bs vks), .int .i64 (j : Int)] σ fun r σ' => r = .tup [encT (kidT t i j), .bool true] ∧ σ' = σ := by
  obtain ⟨k, ns, ks, l, p, s⟩ := t
  simp only [Ty.kind, Ty.kids] at hi hlt
  obtain ⟨t', ht'⟩ : ∃ t', ks[Zmf k i j]? = some t' := ⟨_, List.getElem?_eq_getElem hlt⟩
  have hkid : kidT (.mk k ns ks l p s) i j = t' := by simp only [kidT, Ty.kids, Ty.kind, List.getD_eq_getElem?_getD, ht', Option.getD_some]
  have hx := Zls ht'
  rw [hkid, Zlp t'] at *
  simp only [encT, encV]
  refine Z8t rfl Z12k (Nat.le_of_ble_eq_true rfl) ?_
  refine Z9z ?_
  refine Z9j rfl (Kfi rfl) fun b3 hb3 => ?_
  refine Z9j rfl (Kfi rfl) fun b4 hb4 => ?_
  refine Z9k (by simp [Z0.cells, Z0.one]) fun b6 hb6 => ?_
  (repeat (refine st_q rfl rfl rfl ?_))
  (refine Z8y ?_; (repeat (first | refine Z9v rfl ?_ | refine Z9w ?_)); refine Z9u ?_)
  refine Z8a (FSub.refl _) (HSub.swap _ _ _) ?_
  refine Zb3 (d := 4) (cs := [.bool nu, .int .i64 i, .int .i64 n, .slc 1 (bytes bs) false, .slc 5 (Zm5 vks) false]) rfl ?_
  refine Z8a (FSub.refl _) (HSub.swap _ _ _) ?_
  refine Zb3 (d := 3) (cs := [.int .i64 k, .slc 1 (ns.map .str) false, .slc 6 (Zln ks) false, .int .i64 l, .int .i64 p, .int .i64 s]) rfl ?_
  (refine Z9y (keep := [2, 3, 4, 6]) ?_; ((repeat (first | refine Z9v rfl ?_ | refine Z9w ?_)); refine Z9u ?_))
  have fin : ∀ (a : Nat), a = Zmf k i j → AWp Try.prog Z11d.n (Z11d.code.snd 2) (ARet Z11d.res fun r σ' => r = .tup [.agg (Zlo t'), .bool true] ∧ σ' = σ)
      (fset 2 (some (.int .i64 (a : Int))) (fset 3 (some (.iptr [.int .i64 k, .slc 1 (ns.map .str) false, .slc 6 (Zln ks) false, .int .i64 l, .int .i64 p, .int .i64 s])) (fset 6 (some (.ptr b6 0 0)) Z27)))
      ((b6, .cells 6 [.agg [.int .i64 0, .slc 0 [] true, .slc 0 [] true, .int .i64 0, .int .i64 0, .int .i64 0]]) :: σ) := by
    rintro a rfl
    (repeat (first | refine st_q rfl rfl rfl ?_ | (refine Z8y ?_; (repeat (first | refine Z9v rfl ?_ | refine Z9w ?_)); refine Z9u ?_) | refine awp_seq ?_ | refine Zbm (fun _ _ => rfl) ?_))
    rw [Zlr]
    (rw [decide_eq_false (p := (ks.length : Int) ≤ ((Zmf k i j : Nat) : Int)) (by omega)])
    (repeat (first | refine st_q rfl rfl rfl ?_ | refine awp_seq ?_ | refine Zbm (fun _ _ => rfl) ?_ | refine Zbn (fun _ _ => rfl) ?_ | refine Kc2 rfl ?_))
    refine Z93 rfl (by omega) (by rw [Int.toNat_natCast]; exact hx) ?_
    (repeat refine st_q rfl rfl rfl ?_)
    (first | refine Z9a rfl Z8z rfl (by decide) (Kfi rfl) (fun h => by cases h) Z9b ?_ | refine Z8v rfl (Z9a rfl Z8z rfl (by decide) (Kfi rfl) (fun h => by cases h) Z9b ?_))
    (repeat (first | refine st_q rfl rfl rfl ?_ | (refine Z8y ?_; (repeat (first | refine Z9v rfl ?_ | refine Z9w ?_)); refine Z9u ?_)))
    refine Z8d ?_
    exact ares (vs := [.agg (Zlo t'), .bool true]) (Zc2 (Zc3 rfl Z8z rfl) (Zc2 rfl rfl)) (HSub.tail _ _) ⟨rfl, rfl⟩
  refine awp_seq ?_
  refine awp_seq ?_
  refine Zbm (fun _ _ => rfl) ?_
  (repeat (refine st_q rfl rfl rfl ?_))
  (refine Z8y ?_; (repeat (first | refine Z9v rfl ?_ | refine Z9w ?_)); refine Z9u ?_)
  refine Z8h ?_
  refine awp_seq ?_
  refine Zbm (fun _ _ => rfl) ?_
  (repeat (refine st_q rfl rfl rfl ?_))
  (refine Z8y ?_; (repeat (first | refine Z9v rfl ?_ | refine Z9w ?_)); refine Z9u ?_)
  refine Za3 (p := k = 10) rfl (fun k10 => ?_) (fun k10 => ?_)
  · refine Zbm (fun _ _ => rfl) ?_
    (repeat (refine st_q rfl rfl rfl ?_))
    (refine Z8y ?_; (repeat (first | refine Z9v rfl ?_ | refine Z9w ?_)); refine Z9u ?_)
    exact fin 0 (by simp [Zmf, k10])
  refine awp_seq ?_
  refine Zbm (fun _ _ => rfl) ?_
  (repeat (refine st_q rfl rfl rfl ?_))
  (refine Z8y ?_; (repeat (first | refine Z9v rfl ?_ | refine Z9w ?_)); refine Z9u ?_)
  refine Za3 (p := k = 11) rfl (fun k11 => ?_) (fun k11 => ?_)
  · refine Zbm (fun _ _ => rfl) ?_
    (repeat (refine st_q rfl rfl rfl ?_))
    rw [show (j : Int).tmod 2 = ((j % 2 : Nat) : Int) by rw [Int.tmod_eq_emod_of_nonneg (by omega)]; omega]
    (repeat (refine st_q rfl rfl rfl ?_))
    (refine Z8y ?_; (repeat (first | refine Z9v rfl ?_ | refine Z9w ?_)); refine Z9u ?_)
    exact fin (j % 2) (by simp [Zmf, k11])
  refine awp_seq ?_
  refine Zbm (fun _ _ => rfl) ?_
  (repeat (refine st_q rfl rfl rfl ?_))
  (refine Z8y ?_; (repeat (first | refine Z9v rfl ?_ | refine Z9w ?_)); refine Z9u ?_)
  refine Za3 (p := k = 13) rfl (fun k13 => ?_) (fun k13 => ?_)
  · have h0 := hi k13
    have hki : Zmf k i j = i.toNat := by simp [Zmf, k13]
    rw [hki] at hlt
    refine awp_seq ?_
    refine awp_seq ?_
    refine Zbm (fun _ _ => rfl) ?_
    (repeat (refine st_q rfl rfl rfl ?_))
    (rw [decide_eq_false (p := i < 0) (by omega)])
    (repeat (first | refine st_q rfl rfl rfl ?_ | refine Z8v rfl (st_q rfl rfl rfl ?_)))
    rw [Zlr]
    (rw [decide_eq_false (p := (ks.length : Int) ≤ i) (by omega)])
    skip
    (refine Z8y ?_; (repeat (first | refine Z9v rfl ?_ | refine Z9w ?_)); refine Z9u ?_)
    refine Kc2 rfl ?_
    refine Zbn (fun _ _ => rfl) ?_
    (refine Z9y (keep := [3, 4, 6]) ?_; ((repeat (first | refine Z9v rfl ?_ | refine Z9w ?_)); refine Z9u ?_))
    refine Zbm (fun _ _ => rfl) ?_
    (repeat (refine st_q rfl rfl rfl ?_))
    rw [show i = ((i.toNat : Nat) : Int) by omega]
    (refine Z8y ?_; (repeat (first | refine Z9v rfl ?_ | refine Z9w ?_)); refine Z9u ?_)
    exact fin i.toNat hki.symm
  · refine Zbn (fun _ _ => rfl) ?_
    (refine Z9y (keep := [2, 3, 6]) ?_; ((repeat (first | refine Z9v rfl ?_ | refine Z9w ?_)); refine Z9u ?_))
    exact fin j (by simp [Zmf, k10, k11, k13])
theorem Z136 {k : Int} (h : Zmb k = true) : k = 7 ∨ k = 8 ∨ k = 16 ∨ k = 17 := by
  simp only [Zmb, Bool.or_eq_true, decide_eq_true_eq] at h
  omega
theorem Z137 (t : Ty) (i n : Int) (b : List UInt8) (m : Nat) : ownV t i n b m =
    if Z131 t.kind false i n b m = false ∨ numI t.kind t.kids.length t.prec i n = false then 1 else if longF t.kind t.len b = true then 4 else Z134 t.kind m t.kids.length := by
  have hc : Z134 t.kind m t.kids.length = (if t.kind = 10 then (if 16384 < m then 4 else 0)
      else if t.kind = 11 then (if m % 2 ≠ 0 then 1 else if 32768 < m then 4 else 0)
      else if t.kind = 12 then (if m ≠ t.kids.length then 1 else 0)
      else if t.kind = 13 then (if m ≠ 1 then 1 else 0)
      else 0) := by
    unfold Z134
    by_cases h11 : t.kind = 11
    · have h10 : ¬ t.kind = 10 := by omega
      rw [if_pos h11, if_neg h10, if_pos h11]
      by_cases hm : m % 2 ≠ 0
      · rw [if_pos hm, if_pos hm]
      · rw [if_neg hm, if_neg hm]
        by_cases h16 : 16384 < m / 2
        · rw [if_pos h16, if_pos (by omega)]
        · rw [if_neg h16, if_neg (by omega)]
    · rw [if_neg h11]
      by_cases h10 : t.kind = 10
      · rw [if_pos h10, if_pos h10]
      · rw [if_neg h10, if_neg h10, if_neg h11]
  have h1 : (Zme t.kind t.kids.length t.prec i n = false ∨ (b ≠ [] ∧ Zmb t.kind = false) ∨ (m ≠ 0 ∧ Zlt t.kind = true)) ↔ (Z131 t.kind false i n b m = false ∨ numI t.kind t.kids.length t.prec i n = false) := by
    rw [Z12z]
    simp only [Z131, Bool.false_eq_true, if_false, decide_eq_false_iff_not]
    cases hx : numI t.kind t.kids.length t.prec i n <;> cases Zmb t.kind <;> cases Zlt t.kind <;> by_cases hn : n = 0 <;> by_cases h9 : t.kind = 9 <;> by_cases hb : b = [] <;> by_cases hm : m = 0 <;> simp_all
  unfold ownV
  by_cases hA : Z131 t.kind false i n b m = false ∨ numI t.kind t.kids.length t.prec i n = false
  · rw [if_pos hA, if_pos (h1.2 hA)]
  · rw [if_neg hA, if_neg (fun h => hA (h1.1 h)), hc]
    have hB : b = [] ∨ Zmb t.kind = true := by
      simp only [not_or, Bool.not_eq_false] at hA
      have := hA.1
      simp only [Z131, Bool.false_eq_true, if_false, decide_eq_true_eq] at this
      exact this.2.1
    have h2 : (4096 < b.length ∨ ((t.kind = 16 ∨ t.kind = 17) ∧ t.len < (Zmc b : Int))) ↔ longF t.kind t.len b = true := by
      simp only [longF, decide_eq_true_eq]
      rcases hB with hb | hb
      · subst hb
        simp
      · have := Z136 hb
        constructor
        · rintro (h | h)
          · exact .inr ⟨this, h⟩
          · exact .inl h
        · rintro (h | h)
          · exact .inr h
          · exact .inl h.2
    by_cases hL : longF t.kind t.len b = true
    · rw [if_pos hL, if_pos (h2.2 hL)]
    · rw [if_neg hL, if_neg (fun h => hL (h2.1 h))]
theorem Z138 : ∀ (v : Vl), v.Fit → ∀ (t : Ty), t.Ok → ∀ σ, Z1q Try.prog Zet [encT t, encV v] σ fun r σ' => r = .int .i64 (vchk t v : Int) ∧ σ' = σ := by
  refine Vl.ind fun nu i n bs vks ih hfit t hok σ => ?_
  cases hfit with
  | mk hi hbl hkl hkids =>
  have hka := fun (j : Nat) (hj : j < vks.length) (ho : ownV t i n bs vks.length = 0) => Ztv hok ho hj
  have hko := fun (j : Nat) (hlt : Zmf t.kind i j < t.kids.length) => Ztw (i := i) (j := j) hok hlt
  have hkid := fun (j : Nat) (hj : j ≤ 9223372036854775807) => c_kid t i n nu bs vks j hj
  have hNa := Z132 t (.mk nu i n bs vks)
  have hNu := Z130 t (.mk nu i n bs vks) hi
  have hLo := Z133 t (.mk nu i n bs vks) hbl
  have hCo := Z135 t (.mk nu i n bs vks) hkl
  have hown := Z137 t i n bs vks.length
  have hvL := Ztx t i vks
  generalize hX : vchk t (.mk nu i n bs vks) = X
  have hX' := hX
  rw [vchk] at hX'
  simp only [Vl.null, Vl.i, Vl.n, Vl.b, Vl.kids] at hNa hNu hLo hCo hkl hkids
  have hkl : vks.length ≤ 9223372036854775807 := hkl
  simp only [Zlp, Zm7] at *
  refine Z8t rfl Z12f (Nat.le_of_ble_eq_true rfl) ?_
  refine Z9z ?_
  refine Z9j rfl (Kfi rfl) fun b1 hb1 => ?_
  refine Z9j rfl (Kfi rfl) fun b2 hb2 => ?_
  (repeat (refine st_q rfl rfl rfl ?_))
  (refine Z8y ?_; (repeat (first | refine Z9v rfl ?_ | refine Z9w ?_)); refine Z9u ?_)
  refine Zb3 (d := 3) (cs := Zm6 (.mk nu i n bs vks)) rfl ?_
  refine Zb3 (d := 2) (cs := Zlo t) rfl ?_
  (repeat (first | refine st_q rfl rfl rfl ?_ | refine awp_seq ?_ | refine Zbm (fun _ _ => rfl) ?_ | refine Z8h ?_))
  (first | refine Z9t rfl (hNa _) ?_ | refine Z8v rfl (Z9t rfl (hNa _) ?_) | refine Zbw rfl hNa ?_ | refine Z8v rfl (Zbw rfl hNa ?_))
  cases nu with
  | true =>
    rw [if_pos rfl] at hX'
    cases hq : Z131 t.kind true i n bs vks.length with
    | false =>
      (repeat (first | refine st_q rfl rfl rfl ?_ | refine Z8w rfl ?_ | refine Z8x rfl ?_ | (refine Z8y ?_; (repeat (first | refine Z9v rfl ?_ | refine Z9w ?_)); refine Z9u ?_) | refine awp_seq ?_ | refine Zbm (fun _ _ => rfl) ?_ | refine Kc1 rfl ?_))
      refine Z8d ?_
      refine ares rfl (HSub.refl _) ⟨?_, rfl⟩
      simp only [Z131, if_true, decide_eq_false_iff_not] at hq
      rw [← hX', if_pos (by
        by_cases a1 : i = 0
        · by_cases a2 : n = 0
          · by_cases a3 : bs = []
            · exact .inr (.inr (.inr fun a4 => hq ⟨a1, a2, a3, a4⟩))
            · exact .inr (.inr (.inl a3))
          · exact .inr (.inl a2)
        · exact .inl a1)]
      rfl
    | true =>
      (repeat (first | refine st_q rfl rfl rfl ?_ | refine Z8v rfl (st_q rfl rfl rfl ?_) | refine Z8w rfl ?_ | (refine Z8y ?_; (repeat (first | refine Z9v rfl ?_ | refine Z9w ?_)); refine Z9u ?_) | refine awp_seq ?_ | refine Zbm (fun _ _ => rfl) ?_ | refine Kc1 rfl ?_ | refine Kc2 rfl ?_))
      refine Z8d ?_
      refine ares rfl (HSub.refl _) ⟨?_, rfl⟩
      simp only [Z131, if_true, decide_eq_true_eq] at hq
      rw [← hX', if_neg (fun h => h.elim (fun h => h hq.1) fun h => h.elim (fun h => h hq.2.1) fun h => h.elim (fun h => h hq.2.2.1) fun h => h hq.2.2.2)]
      rfl
  | false =>
    rw [if_neg (by simp)] at hX'
    cases hq : Z131 t.kind false i n bs vks.length with
    | false =>
      rw [hq, if_pos (.inl rfl)] at hown
      rw [hown, if_pos (by decide)] at hX'
      (repeat (first | refine st_q rfl rfl rfl ?_ | refine Z8w rfl ?_ | refine Z8x rfl ?_ | (refine Z8y ?_; (repeat (first | refine Z9v rfl ?_ | refine Z9w ?_)); refine Z9u ?_) | refine awp_seq ?_ | refine Zbm (fun _ _ => rfl) ?_ | refine Kc1 rfl ?_))
      (refine Z8d ?_; exact Kar rfl ⟨(by rw [← hX']; rfl), rfl⟩)
    | true =>
    (repeat (first | refine st_q rfl rfl rfl ?_ | refine Z8v rfl (st_q rfl rfl rfl ?_)))
    (first | refine Z9t rfl (hNu _) ?_ | refine Z8v rfl (Z9t rfl (hNu _) ?_) | refine Zbw rfl hNu ?_ | refine Z8v rfl (Zbw rfl hNu ?_))
    cases hq2 : numI t.kind t.kids.length t.prec i n with
    | false =>
      rw [hq2, if_pos (.inr rfl)] at hown
      rw [hown, if_pos (by decide)] at hX'
      (repeat (first | refine st_q rfl rfl rfl ?_ | refine Z8v rfl (st_q rfl rfl rfl ?_) | (refine Z8y ?_; (repeat (first | refine Z9v rfl ?_ | refine Z9w ?_)); refine Z9u ?_) | refine awp_seq ?_ | refine Zbm (fun _ _ => rfl) ?_ | refine Kc1 rfl ?_))
      (refine Z8d ?_; exact Kar rfl ⟨(by rw [← hX']; rfl), rfl⟩)
    | true =>
    rw [hq, hq2, if_neg (by simp)] at hown
    (repeat (first | refine st_q rfl rfl rfl ?_ | refine Z8v rfl (st_q rfl rfl rfl ?_) | (refine Z8y ?_; (repeat (first | refine Z9v rfl ?_ | refine Z9w ?_)); refine Z9u ?_) | refine awp_seq ?_ | refine Zbm (fun _ _ => rfl) ?_ | refine Kc2 rfl ?_))
    (first | refine Z9t rfl (hLo _) ?_ | refine Z8v rfl (Z9t rfl (hLo _) ?_) | refine Zbw rfl hLo ?_ | refine Z8v rfl (Zbw rfl hLo ?_))
    cases hq3 : longF t.kind t.len bs with
    | true =>
      rw [hq3, if_pos rfl] at hown
      rw [hown, if_pos (by decide)] at hX'
      (repeat (first | refine st_q rfl rfl rfl ?_ | (refine Z8y ?_; (repeat (first | refine Z9v rfl ?_ | refine Z9w ?_)); refine Z9u ?_) | refine awp_seq ?_ | refine Zbm (fun _ _ => rfl) ?_ | refine Kc1 rfl ?_))
      (refine Z8d ?_; exact Kar rfl ⟨(by rw [← hX']; rfl), rfl⟩)
    | false =>
    rw [hq3, if_neg (by simp)] at hown
    rw [← hown] at hCo
    (repeat (first | refine st_q rfl rfl rfl ?_ | (refine Z8y ?_; (repeat (first | refine Z9v rfl ?_ | refine Z9w ?_)); refine Z9u ?_) | refine awp_seq ?_ | refine Zbm (fun _ _ => rfl) ?_ | refine Zbn (fun _ _ => rfl) ?_ | refine Kc2 rfl ?_))
    (first | refine Z9t rfl (hCo _) ?_ | refine Z8v rfl (Z9t rfl (hCo _) ?_) | refine Zbw rfl hCo ?_ | refine Z8v rfl (Zbw rfl hCo ?_))
    (repeat (first | refine st_q rfl rfl rfl ?_ | (refine Z8y ?_; (repeat (first | refine Z9v rfl ?_ | refine Z9w ?_)); refine Z9u ?_) | refine awp_seq ?_ | refine Zbm (fun _ _ => rfl) ?_))
    by_cases hq4 : ownV t i n bs vks.length = 0
    rotate_left
    · (rw [decide_eq_true (p := (ownV t i n bs vks.length : Int) ≠ 0) (by omega)])
      rw [if_pos hq4] at hX'
      (repeat (first | refine st_q rfl rfl rfl ?_ | (refine Z8y ?_; (repeat (first | refine Z9v rfl ?_ | refine Z9w ?_)); refine Z9u ?_) | refine awp_seq ?_ | refine Zbm (fun _ _ => rfl) ?_ | refine Kc1 rfl ?_))
      (refine Z8d ?_; exact Kar rfl ⟨(by rw [← hX']; rfl), rfl⟩)
    (rw [decide_eq_false (p := (ownV t i n bs vks.length : Int) ≠ 0) (by omega)])
    rw [if_neg (by simp [hq4])] at hX'
    (repeat (first | refine st_q rfl rfl rfl ?_ | (refine Z8y ?_; (repeat (first | refine Z9v rfl ?_ | refine Z9w ?_)); refine Z9u ?_) | refine awp_seq ?_ | refine Zbm (fun _ _ => rfl) ?_ | refine Z8h ?_ | refine Zbn (fun _ _ => rfl) ?_ | refine Kc2 rfl ?_))
    rw [Zm9]
    obtain ⟨I, hI⟩ : ∃ I : Nat → Z26 → Zc → Prop, I = fun m F σ' => ∃ (j : Nat), F = fset 2 (some (.iptr (Zlo t))) (fset 3 (some (.iptr (Zm6 (.mk false i n bs vks)))) (fset 41 (some (.slc 5 (Zm5 vks) false)) (fset 42 (some (.int .i64 (vks.length : Int))) (fset 43 (some (.int .i64 (j : Int))) Z27)))) ∧
      σ = σ' ∧ j ≤ vks.length ∧ Zmg t i j (vks.drop j) = X ∧ m = vks.length - j := ⟨_, rfl⟩
    refine Zaa I (n := vks.length) (by rw [hI]; exact ⟨0, rfl, rfl, by omega, hX', rfl⟩) ?_
    intro m F σ' hIm
    rw [hI] at hIm
    obtain ⟨j, rfl, rfl, hj, hXj, rfl⟩ := hIm
    (repeat (first | refine st_q rfl rfl rfl ?_ | (refine Z8y ?_; (repeat (first | refine Z9v rfl ?_ | refine Z9w ?_)); refine Z9u ?_) | refine awp_seq ?_ | refine Zbm (fun _ _ => rfl) ?_))
    refine Za3 (p := (j : Int) < (vks.length : Int)) rfl (fun h5 => ?_) (fun h5 => ?_)
    · have hjl : j < vks.length := by omega
      obtain ⟨hlt, hi0⟩ := hka j hjl hq4
      have hg : (Zm5 vks)[((j : Nat) : Int).toNat]? = some (.agg (Zm6 vks[j])) := by rw [← Zm7]; exact Zma (by rw [Int.toNat_natCast, List.getElem?_eq_getElem hjl])
      have hK := hkid j (by omega) hi0 hlt
      have hcv := ih vks[j] (List.getElem_mem hjl) (hkids _ (List.getElem_mem hjl)) (kidT t i j) (hko j hlt)
      rw [hvL j vks[j] (List.getElem?_eq_getElem hjl)] at hXj
      generalize vks[j] = w at hg hcv hXj
      generalize kidT t i j = u at hK hcv hXj
      have cont : ∀ (R : Z87), (∀ F σ', R .normal F σ' = AWp Try.prog Zzi.n (.region Zzf [2, 3, 41, 42, 43]) (Za9 I (vks.length - j) (Z8g 1 (Z8e Try.prog Zzi.n (Zzi.code.snd 4) (ARet Zzi.res fun r σ' => r = .int .i64 (X : Int) ∧ σ' = σ)))) F σ') →
          (∀ F σ', R .ret F σ' = ARet Zzi.res (fun r σ' => r = .int .i64 (X : Int) ∧ σ' = σ) .ret F σ') → ¬ (t.kind = 11 ∧ j % 2 = 0 ∧ w.null = true) →
          AWp Try.prog Zzi.n (.seq (.region Zzc [2, 3, 10, 41, 42, 43]) (.seq (.region Zzd [2, 3, 10, 41, 42, 43, 75]) (.cond (.t 75) (.seq (.region Zze [4]) .ret) .skip))) R
            (fset 2 (some (.iptr (Zlo t))) (fset 3 (some (.iptr (Zm6 (.mk false i n bs vks)))) (fset 7 (some (.iptr (Zm6 w))) (fset 8 (some (.iptr (Zlo u))) (fset 41 (some (.slc 5 (Zm5 vks) false)) (fset 42 (some (.int .i64 (vks.length : Int))) (fset 43 (some (.int .i64 (j : Int))) Z27))))))) σ := by
        intro R hR hRr hno
        rw [if_neg hno] at hXj
        refine awp_seq ?_
        refine Zbm (fun _ _ => rfl) ?_
        (repeat (refine st_q rfl rfl rfl ?_))
        (first | refine Z9t rfl (hcv _) ?_ | refine Z8v rfl (Z9t rfl (hcv _) ?_) | refine Zbw rfl hcv ?_ | refine Z8v rfl (Zbw rfl hcv ?_))
        (repeat (refine st_q rfl rfl rfl ?_))
        (refine Z8y ?_; (repeat (first | refine Z9v rfl ?_ | refine Z9w ?_)); refine Z9u ?_)
        refine awp_seq ?_
        refine Zbm (fun _ _ => rfl) ?_
        (repeat (refine st_q rfl rfl rfl ?_))
        (refine Z8y ?_; (repeat (first | refine Z9v rfl ?_ | refine Z9w ?_)); refine Z9u ?_)
        refine Za3 (p := (vchk u w : Int) ≠ 0) rfl (fun h6 => ?_) (fun h6 => ?_)
        · rw [if_pos (by omega)] at hXj
          refine awp_seq ?_
          refine Zbm (fun _ _ => rfl) ?_
          (repeat (refine st_q rfl rfl rfl ?_))
          (refine Z8y ?_; (repeat (first | refine Z9v rfl ?_ | refine Z9w ?_)); refine Z9u ?_)
          refine Z8d ?_
          rw [hRr]
          exact Kar rfl ⟨by rw [← hXj]; rfl, rfl⟩
        · rw [if_neg (by omega)] at hXj
          refine Zbn hR ?_
          (refine Z9y (keep := [2, 3, 41, 42, 43]) ?_; ((repeat (first | refine Z9v rfl ?_ | refine Z9w ?_)); refine Z9u ?_))
          refine Zbp ?_
          (repeat (refine st_q rfl rfl rfl ?_))
          rw [Kwr j (by omega)]
          (repeat (refine st_q rfl rfl rfl ?_))
          (refine Z8y ?_; (repeat (first | refine Z9v rfl ?_ | refine Z9w ?_)); refine Z9u ?_)
          exact ⟨_, vks.length - (j + 1), HSub.refl _, by rw [hI]; exact ⟨j + 1, rfl, rfl, by omega, hXj, rfl⟩, by omega⟩
      (repeat (first | refine st_q rfl rfl rfl ?_ | refine awp_seq ?_ | refine Zbm (fun _ _ => rfl) ?_ | refine Z8h ?_ | refine Zbn (fun _ _ => rfl) ?_))
      refine Z93 rfl (by omega) hg ?_
      (repeat (refine st_q rfl rfl rfl ?_))
      refine Z9k (by simp [Z0.cells, Z0.one]) fun b7 hb7 => ?_
      (repeat (refine st_q rfl rfl rfl ?_))
      (first | refine Z9a rfl Z8z rfl (by decide) (Kfi rfl) (fun h => by cases h) Z9b ?_ | refine Z8v rfl (Z9a rfl Z8z rfl (by decide) (Kfi rfl) (fun h => by cases h) Z9b ?_))
      (refine Z8y ?_; (repeat (first | refine Z9v rfl ?_ | refine Z9w ?_)); refine Z9u ?_)
      refine Zb3 (d := 7) (cs := Zm6 w) rfl ?_
      (repeat (first | refine st_q rfl rfl rfl ?_ | refine awp_seq ?_ | refine Zbm (fun _ _ => rfl) ?_))
      (first | refine Z9t rfl (hK _) ?_ | refine Z8v rfl (Z9t rfl (hK _) ?_) | refine Zbw rfl hK ?_ | refine Z8v rfl (Zbw rfl hK ?_))
      (repeat (refine st_q rfl rfl rfl ?_))
      refine Z9k (by simp [Z0.cells, Z0.one]) fun b8 hb8 => ?_
      (first | refine Z9a rfl Z8z rfl (by decide) (Kfi rfl) (fun h => by cases h) Z9b ?_ | refine Z8v rfl (Z9a rfl Z8z rfl (by decide) (Kfi rfl) (fun h => by cases h) Z9b ?_))
      (repeat (refine st_q rfl rfl rfl ?_))
      (refine Z8y ?_; (repeat (first | refine Z9v rfl ?_ | refine Z9w ?_)); refine Z9u ?_)
      refine Zb3 (d := 8) (cs := Zlo u) rfl ?_
      refine awp_seq ?_
      refine awp_seq ?_
      refine Zbm (fun _ _ => rfl) ?_
      (repeat (first | refine st_q rfl rfl rfl ?_ | refine Z8v rfl (st_q rfl rfl rfl ?_)))
      by_cases k11 : t.kind = 11
      · (rw [decide_eq_true (p := t.kind = 11) (by omega)])
        (repeat refine Z8v rfl (st_q rfl rfl rfl ?_))
        rw [show (j : Int).tmod 2 = ((j % 2 : Nat) : Int) by rw [Int.tmod_eq_emod_of_nonneg (by omega)]; omega]
        by_cases hp : j % 2 = 0
        · (rw [decide_eq_true (p := ((j % 2 : Nat) : Int) = 0) (by omega)])
          (repeat (first | refine st_q rfl rfl rfl ?_ | refine Z8v rfl (st_q rfl rfl rfl ?_)))
          cases hw : w.null with
          | true =>
            rw [if_pos ⟨k11, hp, hw⟩] at hXj
            skip
            (refine Z8y ?_; (repeat (first | refine Z9v rfl ?_ | refine Z9w ?_)); refine Z9u ?_)
            refine Kc1 rfl ?_
            (repeat (first | refine st_q rfl rfl rfl ?_ | (refine Z8y ?_; (repeat (first | refine Z9v rfl ?_ | refine Z9w ?_)); refine Z9u ?_) | refine awp_seq ?_ | refine Zbm (fun _ _ => rfl) ?_))
            (refine Z8d ?_; exact Kar rfl ⟨(by rw [← hXj]; rfl), rfl⟩)
          | false =>
            skip
            (refine Z8y ?_; (repeat (first | refine Z9v rfl ?_ | refine Z9w ?_)); refine Z9u ?_)
            refine Kc2 rfl ?_
            refine Zbn (fun _ _ => rfl) ?_
            (refine Z9y (keep := [2, 3, 7, 8, 41, 42, 43]) ?_; ((repeat (first | refine Z9v rfl ?_ | refine Z9w ?_)); refine Z9u ?_))
            exact cont _ (by intro _ _; rfl) (by intro _ _; rfl) (by simp [hw])
        · (rw [decide_eq_false (p := ((j % 2 : Nat) : Int) = 0) (by omega)])
          (repeat (first | refine st_q rfl rfl rfl ?_ | refine Z8v rfl (st_q rfl rfl rfl ?_) | refine Z8w rfl ?_))
          (refine Z8y ?_; (repeat (first | refine Z9v rfl ?_ | refine Z9w ?_)); refine Z9u ?_)
          refine Kc2 rfl ?_
          refine Zbn (fun _ _ => rfl) ?_
          (refine Z9y (keep := [2, 3, 7, 8, 41, 42, 43]) ?_; ((repeat (first | refine Z9v rfl ?_ | refine Z9w ?_)); refine Z9u ?_))
          exact cont _ (by intro _ _; rfl) (by intro _ _; rfl) (by simp [hp])
      · (rw [decide_eq_false (p := t.kind = 11) (by omega)])
        (repeat (first | refine st_q rfl rfl rfl ?_ | refine Z8v rfl (st_q rfl rfl rfl ?_) | refine Z8w rfl ?_))
        (refine Z8y ?_; (repeat (first | refine Z9v rfl ?_ | refine Z9w ?_)); refine Z9u ?_)
        refine Kc2 rfl ?_
        refine Zbn (fun _ _ => rfl) ?_
        (refine Z9y (keep := [2, 3, 7, 8, 41, 42, 43]) ?_; ((repeat (first | refine Z9v rfl ?_ | refine Z9w ?_)); refine Z9u ?_))
        exact cont _ (by intro _ _; rfl) (by intro _ _; rfl) (by simp [k11])
    · rw [List.drop_of_length_le (by omega), Zmg] at hXj
      (repeat (first | refine st_q rfl rfl rfl ?_ | (refine Z8y ?_; (repeat (first | refine Z9v rfl ?_ | refine Z9w ?_)); refine Z9u ?_) | refine awp_seq ?_ | refine Zbm (fun _ _ => rfl) ?_ | refine Zbo (fun _ _ => rfl) ?_))
      (refine Z8d ?_; exact Kar rfl ⟨(by rw [← hXj]; rfl), rfl⟩)
end Go.Abs
namespace Go.Abs
open Go Go.Proofs
set_option linter.unusedVariables false
set_option linter.unusedSimpArgs false
set_option maxHeartbeats 4000000
attribute [local irreducible] AWp aops KP
def nullV : Vl := .mk true 0 0 [] []
def stepG (v : Vl) (i : Int) : Vl := if v.null = false ∧ 0 ≤ i ∧ i < v.kids.length then v.kids.getD i.toNat vl0 else nullV
def getF (l : List Nd) : Nat → Int → Vl → Vl
  | 0, _, row => row
  | f + 1, col, row =>
    match l[col.toNat]? with
    | none => row
    | some n => if n.parent < 0 then row else
      match l[n.parent.toNat]? with
      | none => row
      | some q => stepG (getF l f n.parent row) (idxF q.kids col 0)
end Go.Abs
namespace Go.Abs
open Go Go.Proofs
set_option linter.unusedVariables false
set_option linter.unusedSimpArgs false
set_option maxHeartbeats 4000000
attribute [local irreducible] AWp aops KP
def Z17z (k op : Int) (v lo hi : Vl) : Bool :=
  if op = 1 then decide ((cmpV k v lo).1 < 0 ∨ (cmpV k v hi).1 > 0) else if op = 2 then decide ((cmpV k v lo).1 = 0 ∧ (cmpV k v hi).1 = 0)
  else if op = 3 then decide ((cmpV k v lo).1 ≤ 0) else if op = 4 then decide ((cmpV k v lo).1 < 0) else if op = 5 then decide ((cmpV k v hi).1 ≥ 0) else decide ((cmpV k v hi).1 > 0)
def GetF (l : List Nd) (col : Int) (row : Vl) : Vl × Bool := if goodF l col = true then (getF l (col.toNat + 1) col row, true) else (vl0, false)
def mayF (l : List Nd) (t : Tm) (ss : List Stt) : Bool :=
  match l[t.col.toNat]?, ss[t.col.toNat]?, ss[0]? with
  | some n, some x, some z =>
    if t.op = 7 then x.null || decide (x.count ≠ z.count) else if x.count = 0 then false else if t.op = 8 then true
    else if x.has = true then !Z17z n.t.kind t.op t.v x.min x.max
    else if n.t.kind = 0 ∧ x.sums = true then !Z17z n.t.kind t.op t.v (.mk false (if x.sum = x.count then 1 else 0) 0 [] []) (.mk false (if x.sum = 0 then 0 else 1) 0 [] [])
    else true
  | _, _, _ => true
end Go.Abs
namespace Go.Abs
open Go Go.Proofs
set_option linter.unusedVariables false
set_option linter.unusedSimpArgs false
set_option maxHeartbeats 4000000
attribute [local irreducible] AWp aops KP
def MayF (l : List Nd) (ss : List Stt) : List Tm → Bool
  | [] => true
  | t :: ts => if goodF l t.col = true ∧ t.col < ss.length ∧ mayF l t ss = false then false else MayF l ss ts
end Go.Abs
namespace Go.Abs
open Go Go.Proofs
set_option linter.unusedVariables false
set_option linter.unusedSimpArgs false
set_option maxHeartbeats 4000000
attribute [local irreducible] AWp aops KP
def Z189 (l : List Nd) (row : Vl) : List Tm → Int → Int
  | [], out => out
  | t :: ts, out =>
    if goodF l t.col = false then 0 else
    if t.op = 7 then (if (getF l (t.col.toNat + 1) t.col row).null = true then Z189 l row ts out else 0)
    else if t.op = 8 then (if (getF l (t.col.toNat + 1) t.col row).null = true then 0 else Z189 l row ts out)
    else if (getF l (t.col.toNat + 1) t.col row).null = true then Z189 l row ts 2
    else match l[t.col.toNat]? with
      | none => 0
      | some n => if Z17x t.op (cmpV n.t.kind (getF l (t.col.toNat + 1) t.col row) t.v).1 = true then Z189 l row ts out else 0
end Go.Abs
namespace Go.Abs
open Go Go.Proofs
set_option linter.unusedVariables false
set_option linter.unusedSimpArgs false
set_option maxHeartbeats 4000000
attribute [local irreducible] AWp aops KP
def okM (l : List Nd) (t : Tm) : Bool :=
  goodF l t.col && (if t.op = 7 ∨ t.op = 8 then Z17r t.v else if 1 ≤ t.op ∧ t.op ≤ 6 then !t.v.null && (match l[t.col.toNat]? with | none => false | some n => decide (vchk (tyN n) t.v = 0)) else false)
def Z18b (l : List Nd) (p : List Tm) : Nat := if 16 < p.length then 1 else if p.all (okM l) = true then 0 else 1
end Go.Abs
namespace Go.Abs
open Go Go.Proofs
set_option linter.unusedVariables false
set_option linter.unusedSimpArgs false
theorem Z1ye {n : Nd} (h : n.t.Ok) (hl : Zlt n.t.kind = true) : (tyN n).Ok := by
  have hk := h.kinds.1
  cases h with
  | mk h1 _ =>
    obtain ⟨t, kids, parent, deep⟩ := n
    obtain ⟨k, ns, ks, l, p, s⟩ := t
    simp only [Ty.kind, Ty.names, Ty.kids, Ty.len, Ty.prec, Ty.scale] at *
    have h0 : ns = [] ∧ ks = [] := by
      have hk4 : ¬ k = 10 ∧ ¬ k = 11 ∧ ¬ k = 12 ∧ ¬ k = 13 := by
        simp only [Zlt, Bool.not_eq_true', Bool.or_eq_false_iff, decide_eq_false_iff_not] at hl
        omega
      rw [Zlv, if_neg hk4.1, if_neg hk4.2.1, if_neg hk4.2.2.1, if_neg hk4.2.2.2] at hk
      have hr : Zlw k ns ks.length l p s = true := by
        cases hx : Zlw k ns ks.length l p s with
        | true => rfl
        | false =>
          rw [ownF] at h1
          split at h1
          · cases h1
          · rw [if_pos (.inr (.inr hx))] at h1; cases h1
      rw [Zlw] at hr
      simp only [Bool.and_eq_true, Bool.or_eq_true, decide_eq_true_eq] at hr
      refine ⟨?_, ?_⟩
      · rcases hr.1.1.1.2 with h | h
        · exact absurd h hk4.2.2.1
        · simpa using h
      · simpa using hk
    obtain ⟨rfl, rfl⟩ := h0
    exact .mk h1 (by simp [tyN, Ty.kids])
end Go.Abs

