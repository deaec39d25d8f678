/- Part L of a proof: merged by program. -/
import Derived.Test.YtgmefkhincnajaaPkK
import Derived.Test.YtgmefkhincnajaaProg
import Derived.KernelRfl
set_option linter.unusedVariables false
set_option linter.unusedSimpArgs false
set_option maxHeartbeats 4000000
namespace Go.Abs
open Go
def Z13o : List Z2b := [
 ⟨some 4,(.box 8),[.t 0],none⟩,⟨some 5,(.box 5),[.t 1],none⟩,⟨some 8,.mov,[.c (.int .i64 0)],none⟩]
def Z13p : List Z2b := [
 ⟨some 20,(.load true 5),[.t 5],none⟩,⟨some 21,(.call Zf9),[.t 20],none⟩,⟨some 9,(.alloc (.int .i64 0)),[],none⟩,⟨none,(.store 1),[.t 9,.t 21],none⟩]
def Z13q : List Z2b := [
 ⟨some 22,(.fad 0),[.t 4],none⟩,⟨some 23,(.load false 1),[.t 22],none⟩,⟨some 24,(.callp Zf7),[.t 23],none⟩,⟨some 25,(.load true 8),[.t 4],none⟩,⟨some 26,(.callp Zfc),[.t 25],none⟩,⟨some 10,(.alloc (.agg [(.bool false),(.bool false),(.bool false),(.bool false)])),[],none⟩,⟨some 11,(.alloc (.agg [(.int .i64 0),(.slc 0 [] true),(.slc 0 [] true),(.int .i64 0),(.int .i64 0),(.int .i64 0)])),[],none⟩,⟨none,(.store 4),[.t 10,.t 24],none⟩,⟨none,(.store 6),[.t 11,.t 26],none⟩]
def Z13r : List Z2b := [
 ⟨some 27,(.mkf Zfd 0),[.t 9],none⟩,⟨some 12,.mov,[.t 27],none⟩]
def Z13s : List Z2b := [
 ⟨some 28,(.fad 0),[.t 5],none⟩,⟨some 29,(.load false 1),[.t 28],none⟩,⟨some 30,.lens,[.t 29],none⟩,⟨some 31,.mov,[.t 2],none⟩,⟨some 32,(.bin .neq),[.t 30,.t 31],none⟩,⟨some 33,.mov,[.t 32],none⟩,⟨some 34,(.fad 1),[.t 5],some (33,false)⟩,⟨some 35,(.loadp false 1),[.t 34],some (33,false)⟩,⟨some 36,.lens,[.t 35],some (33,false)⟩,⟨some 37,.mov,[.t 12],some (33,false)⟩,⟨some 38,(.fad 0),[.t 10],some (33,false)⟩,⟨some 39,(.load false 1),[.t 38],some (33,false)⟩,⟨some 40,.callv,[.t 37,.t 39],some (33,false)⟩,⟨some 41,(.bin .neq),[.t 36,.t 40],some (33,false)⟩,⟨some 42,.pick,[.t 33,.c (.bool true),.t 41],none⟩,⟨some 43,.mov,[.t 42],none⟩,⟨some 44,(.fad 2),[.t 5],some (43,false)⟩,⟨some 45,(.loadp false 1),[.t 44],some (43,false)⟩,⟨some 46,.lens,[.t 45],some (43,false)⟩,⟨some 47,.mov,[.t 12],some (43,false)⟩,⟨some 48,(.fad 1),[.t 10],some (43,false)⟩,⟨some 49,(.load false 1),[.t 48],some (43,false)⟩,⟨some 50,.callv,[.t 47,.t 49],some (43,false)⟩,⟨some 51,(.bin .neq),[.t 46,.t 50],some (43,false)⟩,⟨some 52,.pick,[.t 43,.c (.bool true),.t 51],none⟩,⟨some 53,.mov,[.t 52],none⟩,⟨some 54,(.fad 3),[.t 5],some (53,false)⟩,⟨some 55,(.loadp false 1),[.t 54],some (53,false)⟩,⟨some 56,.lens,[.t 55],some (53,false)⟩,⟨some 57,.mov,[.t 12],some (53,false)⟩,⟨some 58,(.fad 2),[.t 10],some (53,false)⟩,⟨some 59,(.load false 1),[.t 58],some (53,false)⟩,⟨some 60,.callv,[.t 57,.t 59],some (53,false)⟩,⟨some 61,(.bin .neq),[.t 56,.t 60],some (53,false)⟩,⟨some 62,.pick,[.t 53,.c (.bool true),.t 61],none⟩,⟨some 63,.mov,[.t 62],none⟩,⟨some 64,(.fad 4),[.t 5],some (63,false)⟩,⟨some 65,(.loadp false 1),[.t 64],some (63,false)⟩,⟨some 66,.lens,[.t 65],some (63,false)⟩,⟨some 67,.mov,[.t 12],some (63,false)⟩,⟨some 68,(.fad 3),[.t 10],some (63,false)⟩,⟨some 69,(.load false 1),[.t 68],some (63,false)⟩,⟨some 70,.callv,[.t 67,.t 69],some (63,false)⟩,⟨some 71,(.bin .neq),[.t 66,.t 70],some (63,false)⟩,⟨some 72,.pick,[.t 63,.c (.bool true),.t 71],none⟩]
def Z13t : List Z2b := [
 ⟨some 8,.mov,[.c (.int .i64 2)],none⟩]
def Z13u : List Z2b := [
 ⟨some 73,(.fad 1),[.t 5],none⟩,⟨some 74,(.load false 1),[.t 73],none⟩,⟨some 75,.lens,[.t 74],none⟩,⟨some 76,.mov,[.c (.int .i64 0)],none⟩]
def Z13v : List Z2b := [
 ⟨some 77,(.bin .lss),[.t 76,.t 75],none⟩]
def Z13w : List Z2b := [
 ⟨some 78,.mov,[.t 76],none⟩,⟨some 79,(.iad 1),[.t 74,.t 76],none⟩,⟨some 80,(.load false 1),[.t 79],none⟩,⟨some 13,.mov,[.t 78],none⟩,⟨some 14,.mov,[.t 80],none⟩]
def Z13x : List Z2b := [
 ⟨some 15,.mov,[.c (.int .i64 0)],none⟩]
def Z13y : List Z2b := [
 ⟨some 81,(.fad 1),[.t 10],none⟩,⟨some 82,(.load false 1),[.t 81],none⟩]
def Z13z : List Z2b := [
 ⟨some 83,(.fad 2),[.t 5],none⟩,⟨some 84,(.load false 1),[.t 83],none⟩,⟨some 85,.mov,[.t 13],none⟩,⟨some 86,(.iad 1),[.t 84,.t 85],none⟩,⟨some 87,(.load false 1),[.t 86],none⟩,⟨some 15,.mov,[.t 87],none⟩]
def Z140 : List Z2b := [
 ⟨some 88,(.load true 6),[.t 11],none⟩,⟨some 89,.mov,[.t 14],none⟩,⟨some 90,.mov,[.t 15],none⟩,⟨some 91,(.call Zfe),[.t 88,.t 89,.t 90],none⟩,⟨some 92,.unot,[.t 91],none⟩]
def Z141 : List Z2b := [
 ⟨some 8,.mov,[.c (.int .i64 2)],none⟩]
def Z142 : List Z2b := [
 ⟨some 93,(.bin .add),[.t 76,.c (.int .i64 1)],none⟩,⟨some 76,.mov,[.t 93],none⟩]
def Z143 : Z2c := (.seq (.region Z13v [2,3,4,5,9,10,11,74,75,76,77]) (.seq (.cond (.t 77) .skip (.exit 0)) (.seq (.block 1 (.seq (.region Z13w [2,3,4,5,9,10,11,13,14,74,75,76]) (.seq (.region Z13x [2,3,4,5,9,10,11,13,14,15,74,75,76]) (.seq (.seq (.region Z13y [2,3,4,5,9,10,11,13,14,15,74,75,76,82]) (.cond (.t 82) (.region Z13z [2,3,4,5,9,10,11,14,15,74,75,76]) .skip)) (.seq (.region Z140 [2,3,4,5,9,10,11,74,75,76,92]) (.cond (.t 92) (.seq (.region Z141 [8]) .ret) .skip)))))) (.region Z142 [2,3,4,5,9,10,11,74,75,76]))))
def Z144 : List Z2b := [
 ⟨some 94,(.fad 3),[.t 5],none⟩,⟨some 95,(.load false 1),[.t 94],none⟩,⟨some 96,.lens,[.t 95],none⟩,⟨some 97,.mov,[.c (.int .i64 0)],none⟩]
def Z145 : List Z2b := [
 ⟨some 98,(.bin .lss),[.t 97,.t 96],none⟩]
def Z146 : List Z2b := [
 ⟨some 99,(.iad 1),[.t 95,.t 97],none⟩,⟨some 100,(.load false 1),[.t 99],none⟩,⟨some 17,.mov,[.t 100],none⟩]
def Z147 : List Z2b := [
 ⟨some 101,(.load true 6),[.t 11],none⟩,⟨some 102,.mov,[.t 17],none⟩,⟨some 103,(.bld [(.bool false),(.int .i64 0),(.int .i64 0),(.slc 0 [] true),(.slc 0 [] true)] [(3,1)]),[.t 102],none⟩,⟨some 104,(.call Ze3),[.t 101,.t 103],none⟩,⟨some 105,(.bin .neq),[.t 104,.c (.int .i64 0)],none⟩]
def Z148 : List Z2b := [
 ⟨some 8,.mov,[.c (.int .i64 2)],none⟩]
def Z149 : List Z2b := [
 ⟨some 106,(.bin .add),[.t 97,.c (.int .i64 1)],none⟩,⟨some 97,.mov,[.t 106],none⟩]
def Z14a : Z2c := (.seq (.region Z145 [2,3,4,5,9,10,11,95,96,97,98]) (.seq (.cond (.t 98) .skip (.exit 2)) (.seq (.block 3 (.seq (.region Z146 [2,3,4,5,9,10,11,17,95,96,97]) (.seq (.region Z147 [2,3,4,5,9,10,11,95,96,97,105]) (.cond (.t 105) (.seq (.region Z148 [8]) .ret) .skip)))) (.region Z149 [2,3,4,5,9,10,11,95,96,97]))))
def Z14b : List Z2b := [
 ⟨some 107,(.fad 4),[.t 5],none⟩,⟨some 108,(.load false 1),[.t 107],none⟩,⟨some 109,.lens,[.t 108],none⟩,⟨some 110,.mov,[.c (.int .i64 0)],none⟩]
def Z14c : List Z2b := [
 ⟨some 111,(.bin .lss),[.t 110,.t 109],none⟩]
def Z14d : List Z2b := [
 ⟨some 112,(.iad 1),[.t 108,.t 110],none⟩,⟨some 113,(.load false 1),[.t 112],none⟩,⟨some 19,.mov,[.t 113],none⟩]
def Z14e : List Z2b := [
 ⟨some 114,.mov,[.t 19],none⟩,⟨some 115,(.bin .lss),[.t 114,.c (.int .i64 0)],none⟩]
def Z14f : List Z2b := [
 ⟨some 8,.mov,[.c (.int .i64 2)],none⟩]
def Z14g : List Z2b := [
 ⟨some 116,(.bin .add),[.t 110,.c (.int .i64 1)],none⟩,⟨some 110,.mov,[.t 116],none⟩]
def Z14h : Z2c := (.seq (.region Z14c [2,3,4,5,9,10,108,109,110,111]) (.seq (.cond (.t 111) .skip (.exit 4)) (.seq (.block 5 (.seq (.region Z14d [2,3,4,5,9,10,19,108,109,110]) (.seq (.region Z14e [2,3,4,5,9,10,108,109,110,115]) (.cond (.t 115) (.seq (.region Z14f [8]) .ret) .skip)))) (.region Z14g [2,3,4,5,9,10,108,109,110]))))
def Z14i : List Z2b := [
 ⟨some 118,.mov,[.t 3],none⟩,⟨some 119,.unot,[.t 118],none⟩,⟨some 120,.mov,[.t 119],none⟩,⟨some 121,(.load false 1),[.t 9],some (120,true)⟩,⟨some 122,.mov,[.t 2],some (120,true)⟩,⟨some 123,(.bin .neq),[.t 121,.t 122],some (120,true)⟩,⟨some 124,.pick,[.t 120,.t 123,.c (.bool false)],none⟩,⟨some 117,.mov,[.t 124],none⟩]
def Z14j : List Z2b := [
 ⟨some 8,.mov,[.c (.int .i64 2)],none⟩]
def Z14k : List Z2b := [
 ⟨some 126,(.fad 3),[.t 10],none⟩,⟨some 127,(.load false 1),[.t 126],none⟩,⟨some 128,.mov,[.t 127],none⟩,⟨some 129,(.load true 8),[.t 4],some (128,true)⟩,⟨some 130,(.load true 5),[.t 5],some (128,true)⟩,⟨some 131,(.call Ze7),[.t 129,.t 130,.c (.int .i64 0)],some (128,true)⟩,⟨some 132,(.bin .gtr),[.t 131,.c (.int .i64 16384)],some (128,true)⟩,⟨some 133,.pick,[.t 128,.t 132,.c (.bool false)],none⟩,⟨some 125,.mov,[.t 133],none⟩]
def Z14l : List Z2b := [
 ⟨some 8,.mov,[.c (.int .i64 4)],none⟩]
def Z14m : List Z2b := [
 ⟨some 8,.mov,[.c (.int .i64 0)],none⟩]
def Z14n : Z2z := ⟨134,(.seq (.region Z13o [2,3,4,5]) (.seq (.region Z13p [2,3,4,5,9]) (.seq (.region Z13q [2,3,4,5,9,10,11]) (.seq (.region Z13r [2,3,4,5,9,10,11,12]) (.seq (.seq (.region Z13s [2,3,4,5,9,10,11,72]) (.cond (.t 72) (.seq (.region Z13t [8]) .ret) .skip)) (.seq (.seq (.region Z13u [2,3,4,5,9,10,11,74,75,76]) (.block 0 (.loop Z143))) (.seq (.seq (.region Z144 [2,3,4,5,9,10,11,95,96,97]) (.block 2 (.loop Z14a))) (.seq (.seq (.region Z14b [2,3,4,5,9,10,108,109,110]) (.block 4 (.loop Z14h))) (.seq (.block 6 (.seq (.region Z14i [4,5,10,117]) (.cond (.t 117) (.seq (.region Z14j [8]) .ret) (.seq (.region Z14k [125]) (.cond (.t 125) (.seq (.region Z14l [8]) .ret) .skip))))) (.seq (.region Z14m [8]) .ret)))))))))),[.t 8]⟩
def Z14o : List Z2b := [
 ⟨some 4,.mov,[.c (.bool false)],none⟩]
def Z14p : List Z2b := [
 ⟨some 8,.mov,[.t 0],none⟩,⟨some 9,.lens,[.t 8],none⟩,⟨some 10,.mov,[.c (.int .i64 0)],none⟩]
def Z14q : List Z2b := [
 ⟨some 11,(.bin .lss),[.t 10,.t 9],none⟩]
def Z14r : List Z2b := [
 ⟨some 12,.mov,[.t 10],none⟩,⟨some 5,.mov,[.t 12],none⟩]
def Z14s : List Z2b := [
 ⟨some 13,.mov,[.t 0],none⟩,⟨some 14,.mov,[.t 5],none⟩,⟨some 15,(.iad 8),[.t 13,.t 14],none⟩,⟨some 16,(.fad 1),[.t 15],none⟩,⟨some 17,(.load false 1),[.t 16],none⟩,⟨some 18,.lens,[.t 17],none⟩,⟨some 19,.mov,[.c (.int .i64 0)],none⟩]
def Z14t : List Z2b := [
 ⟨some 20,(.bin .lss),[.t 19,.t 18],none⟩]
def Z14u : List Z2b := [
 ⟨some 21,(.iad 1),[.t 17,.t 19],none⟩,⟨some 22,(.load false 1),[.t 21],none⟩,⟨some 7,.mov,[.t 22],none⟩]
def Z14v : List Z2b := [
 ⟨some 23,.mov,[.t 1],none⟩,⟨some 24,.mov,[.t 7],none⟩,⟨some 25,(.iad 1),[.t 23,.t 24],none⟩,⟨some 26,(.load false 1),[.t 25],none⟩,⟨some 27,.mov,[.t 26],none⟩,⟨some 28,.mov,[.t 1],some (27,true)⟩,⟨some 29,.mov,[.t 5],some (27,true)⟩,⟨some 30,(.iad 1),[.t 28,.t 29],some (27,true)⟩,⟨some 31,(.load false 1),[.t 30],some (27,true)⟩,⟨some 32,.unot,[.t 31],some (27,true)⟩,⟨some 33,.pick,[.t 27,.t 32,.c (.bool false)],none⟩,⟨some 34,.mov,[.t 33],none⟩,⟨some 35,.mov,[.t 1],some (34,false)⟩,⟨some 36,.mov,[.t 5],some (34,false)⟩,⟨some 37,(.iad 1),[.t 35,.t 36],some (34,false)⟩,⟨some 38,(.load false 1),[.t 37],some (34,false)⟩,⟨some 39,.mov,[.t 38],some (34,false)⟩,⟨some 40,.mov,[.t 1],some (39,true)⟩,⟨some 41,.mov,[.t 7],some (39,true)⟩,⟨some 42,(.iad 1),[.t 40,.t 41],some (39,true)⟩,⟨some 43,(.load false 1),[.t 42],some (39,true)⟩,⟨some 44,.unot,[.t 43],some (39,true)⟩,⟨some 45,.pick,[.t 39,.t 44,.c (.bool false)],some (34,false)⟩,⟨some 46,.mov,[.t 45],some (34,false)⟩,⟨some 47,.mov,[.t 0],some (46,true)⟩,⟨some 48,.mov,[.t 5],some (46,true)⟩,⟨some 49,(.iad 8),[.t 47,.t 48],some (46,true)⟩,⟨some 50,(.fad 0),[.t 49],some (46,true)⟩,⟨some 51,(.load false 1),[.t 50],some (46,true)⟩,⟨some 52,(.bin .neq),[.t 51,.c (.int .i64 12)],some (46,true)⟩,⟨some 53,.pick,[.t 46,.t 52,.c (.bool false)],some (34,false)⟩,⟨some 54,.pick,[.t 34,.c (.bool true),.t 53],none⟩]
def Z14w : List Z2b := [
 ⟨some 4,.mov,[.c (.bool false)],none⟩]
def Z14x : List Z2b := [
 ⟨some 55,(.bin .add),[.t 19,.c (.int .i64 1)],none⟩,⟨some 19,.mov,[.t 55],none⟩]
def Z14y : Z2c := (.seq (.region Z14t [0,1,5,9,10,17,18,19,20]) (.seq (.cond (.t 20) .skip (.exit 2)) (.seq (.block 3 (.seq (.region Z14u [0,1,5,7,9,10,17,18,19]) (.seq (.region Z14v [0,1,5,9,10,17,18,19,54]) (.cond (.t 54) (.seq (.region Z14w [4]) .ret) .skip)))) (.region Z14x [0,1,5,9,10,17,18,19]))))
def Z14z : List Z2b := [
 ⟨some 56,(.bin .add),[.t 10,.c (.int .i64 1)],none⟩,⟨some 10,.mov,[.t 56],none⟩]
def Z150 : Z2c := (.seq (.region Z14q [0,1,9,10,11]) (.seq (.cond (.t 11) .skip (.exit 0)) (.seq (.block 1 (.seq (.region Z14r [0,1,5,9,10]) (.seq (.region Z14s [0,1,5,9,10,17,18,19]) (.block 2 (.loop Z14y))))) (.region Z14z [0,1,9,10]))))
def Z151 : List Z2b := [
 ⟨some 4,.mov,[.c (.bool true)],none⟩]
def Z152 : Z2z := ⟨57,(.seq (.region Z14o [0,1]) (.seq (.seq (.region Z14p [0,1,9,10]) (.block 0 (.loop Z150))) (.seq (.region Z151 [4]) .ret))),[.t 4]⟩
def Z153 : List Z2b := [
 ⟨some 4,(.alloc (.agg [(.bool false),(.int .i64 0),(.int .i64 0),(.slc 0 [] true),(.slc 0 [] true)])),[],none⟩]
def Z154 : List Z2b := [
 ⟨some 14,.mov,[.t 0],none⟩,⟨some 15,.nilc,[.t 14],none⟩,⟨some 16,(.fad 1),[.t 15],none⟩,⟨some 17,(.load false 1),[.t 16],none⟩,⟨some 18,.mov,[.t 1],none⟩,⟨some 19,(.iad 5),[.t 17,.t 18],none⟩,⟨some 20,(.load true 5),[.t 19],none⟩,⟨some 21,.mov,[.t 0],none⟩,⟨some 22,.nilc,[.t 21],none⟩,⟨some 23,(.fad 0),[.t 22],none⟩,⟨some 24,(.loadp false 1),[.t 23],none⟩,⟨some 25,.mov,[.t 1],none⟩,⟨some 26,(.iad 8),[.t 24,.t 25],none⟩,⟨some 27,(.loadp true 8),[.t 26],none⟩,⟨some 5,(.alloc (.agg [(.slc 0 [] true),(.slc 0 [] true),(.slc 0 [] true),(.slc 0 [] true),(.slc 0 [] true)])),[],none⟩,⟨some 6,(.alloc (.agg [(.int .i64 0),(.slc 0 [] true),(.slc 0 [] true),(.int .i64 0),(.int .i64 0),(.int .i64 0),(.int .i64 0),(.int .i64 0)])),[],none⟩,⟨none,(.store 5),[.t 5,.t 20],none⟩,⟨none,(.store 8),[.t 6,.t 27],none⟩]
def Z155 : List Z2b := [
 ⟨some 28,.mov,[.t 0],none⟩,⟨some 29,.nilc,[.t 28],none⟩,⟨some 30,(.fad 3),[.t 29],none⟩,⟨some 31,(.load false 1),[.t 30],none⟩,⟨some 32,.mov,[.t 1],none⟩,⟨some 33,(.iad 1),[.t 31,.t 32],none⟩,⟨some 34,(.load false 1),[.t 33],none⟩,⟨some 7,.mov,[.t 34],none⟩]
def Z156 : List Z2b := [
 ⟨some 35,.mov,[.t 0],none⟩,⟨some 36,.nilc,[.t 35],none⟩,⟨some 37,(.fad 3),[.t 36],none⟩,⟨some 38,(.load false 1),[.t 37],none⟩,⟨some 39,.mov,[.t 1],none⟩,⟨some 40,(.iad 1),[.t 38,.t 39],none⟩,⟨some 41,(.load false 1),[.t 40],none⟩,⟨some 42,(.bin .add),[.t 41,.c (.int .i64 1)],none⟩,⟨some 43,(.iad 1),[.t 38,.t 39],none⟩,⟨none,(.store 1),[.t 43,.t 42],none⟩]
def Z157 : List Z2b := [
 ⟨some 44,(.fad 0),[.t 5],none⟩,⟨some 45,(.load false 1),[.t 44],none⟩,⟨some 46,.mov,[.t 7],none⟩,⟨some 47,(.iad 1),[.t 45,.t 46],none⟩,⟨some 48,(.load false 1),[.t 47],none⟩,⟨some 49,.unot,[.t 48],none⟩]
def Z158 : List Z2b := [
 ⟨some 50,(.bld [(.bool false),(.int .i64 0),(.int .i64 0),(.slc 0 [] true),(.slc 0 [] true)] [(0,1)]),[.c (.bool true)],none⟩,⟨none,(.store 5),[.t 4,.t 50],none⟩]
def Z159 : List Z2b := [
 ⟨some 51,.mov,[.t 0],none⟩,⟨some 52,.nilc,[.t 51],none⟩,⟨some 53,(.fad 4),[.t 52],none⟩,⟨some 54,(.load false 1),[.t 53],none⟩,⟨some 55,.mov,[.t 1],none⟩,⟨some 56,(.iad 1),[.t 54,.t 55],none⟩,⟨some 57,(.load false 1),[.t 56],none⟩,⟨some 8,.mov,[.t 57],none⟩]
def Z15a : List Z2b := [
 ⟨some 58,.mov,[.t 0],none⟩,⟨some 59,.nilc,[.t 58],none⟩,⟨some 60,(.fad 4),[.t 59],none⟩,⟨some 61,(.load false 1),[.t 60],none⟩,⟨some 62,.mov,[.t 1],none⟩,⟨some 63,(.iad 1),[.t 61,.t 62],none⟩,⟨some 64,(.load false 1),[.t 63],none⟩,⟨some 65,(.bin .add),[.t 64,.c (.int .i64 1)],none⟩,⟨some 66,(.iad 1),[.t 61,.t 62],none⟩,⟨none,(.store 1),[.t 66,.t 65],none⟩]
def Z15b : List Z2b := [
 ⟨some 9,(.alloc (.agg [(.bool false),(.int .i64 0),(.int .i64 0),(.slc 0 [] true),(.slc 0 [] true)])),[],none⟩]
def Z15c : List Z2b := [
 ⟨some 67,(.fad 0),[.t 6],none⟩,⟨some 68,(.load false 1),[.t 67],none⟩]
def Z15d : List Z2b := [
 ⟨some 70,(.bin .eql),[.t 68,.c (.int .i64 10)],none⟩,⟨some 69,.mov,[.t 70],none⟩]
def Z15e : List Z2b := [
 ⟨some 71,(.bin .eql),[.t 68,.c (.int .i64 11)],none⟩,⟨some 69,.mov,[.t 71],none⟩]
def Z15f : List Z2b := [
 ⟨some 73,(.bin .eql),[.t 68,.c (.int .i64 12)],none⟩,⟨some 72,.mov,[.t 73],none⟩]
def Z15g : List Z2b := [
 ⟨some 75,(.bin .eql),[.t 68,.c (.int .i64 13)],none⟩,⟨some 74,.mov,[.t 75],none⟩]
def Z15h : List Z2b := [
 ⟨some 77,(.bin .eql),[.t 68,.c (.int .i64 7)],none⟩,⟨some 76,.mov,[.t 77],none⟩]
def Z15i : List Z2b := [
 ⟨some 78,(.bin .eql),[.t 68,.c (.int .i64 8)],none⟩,⟨some 76,.mov,[.t 78],none⟩]
def Z15j : List Z2b := [
 ⟨some 79,(.bin .eql),[.t 68,.c (.int .i64 16)],none⟩,⟨some 76,.mov,[.t 79],none⟩]
def Z15k : List Z2b := [
 ⟨some 80,(.bin .eql),[.t 68,.c (.int .i64 17)],none⟩,⟨some 76,.mov,[.t 80],none⟩]
def Z15l : List Z2b := [
 ⟨some 82,(.bin .eql),[.t 68,.c (.int .i64 9)],none⟩,⟨some 81,.mov,[.t 82],none⟩]
def Z15m : List Z2b := [
 ⟨some 83,(.fad 4),[.t 5],none⟩,⟨some 84,(.load false 1),[.t 83],none⟩,⟨some 85,.mov,[.t 8],none⟩,⟨some 86,(.iad 1),[.t 84,.t 85],none⟩,⟨some 87,(.load false 1),[.t 86],none⟩,⟨some 88,.mov,[.c (.int .i64 0)],none⟩]
def Z15n : List Z2b := [
 ⟨some 89,(.bin .lss),[.t 88,.t 87],none⟩]
def Z15o : List Z2b := [
 ⟨some 90,(.fad 1),[.t 6],none⟩,⟨some 91,(.load false 1),[.t 90],none⟩,⟨some 92,.lens,[.t 91],none⟩,⟨some 93,.mov,[.c (.int .i64 0)],none⟩]
def Z15p : List Z2b := [
 ⟨some 94,(.bin .lss),[.t 93,.t 92],none⟩]
def Z15q : List Z2b := [
 ⟨some 95,(.iad 1),[.t 91,.t 93],none⟩,⟨some 96,(.load false 1),[.t 95],none⟩,⟨some 11,.mov,[.t 96],none⟩]
def Z15r : List Z2b := [
 ⟨some 97,(.fad 4),[.t 9],none⟩,⟨some 98,(.loadg false 1),[.t 97,.t 9],none⟩,⟨some 99,.mov,[.t 0],none⟩,⟨some 100,.mov,[.t 11],none⟩,⟨some 101,(.callk Zec 2),[.t 99,.t 100,.t 9],none⟩,⟨some 102,(.bsl 5),[.t 101],none⟩,⟨some 103,(.app 5 72),[.t 98,.t 102],none⟩,⟨some 104,(.fad 4),[.t 9],none⟩,⟨none,(.store 1),[.t 104,.t 103],none⟩]
def Z15s : List Z2b := [
 ⟨some 105,(.bin .add),[.t 93,.c (.int .i64 1)],none⟩,⟨some 93,.mov,[.t 105],none⟩]
def Z15t : Z2c := (.seq (.region Z15p [0,4,6,9,87,88,91,92,93,94]) (.seq (.cond (.t 94) .skip (.exit 9)) (.seq (.block 10 (.seq (.region Z15q [0,4,6,9,11,87,88,91,92,93]) (.region Z15r [0,4,6,9,87,88,91,92,93]))) (.region Z15s [0,4,6,9,87,88,91,92,93]))))
def Z15u : List Z2b := [
 ⟨some 106,(.bin .add),[.t 88,.c (.int .i64 1)],none⟩,⟨some 88,.mov,[.t 106],none⟩]
def Z15v : Z2c := (.seq (.region Z15n [0,4,6,9,87,88,89]) (.seq (.cond (.t 89) .skip (.exit 7)) (.seq (.block 8 (.seq (.region Z15o [0,4,6,9,87,88,91,92,93]) (.block 9 (.loop Z15t)))) (.region Z15u [0,4,6,9,87,88]))))
def Z15w : List Z2b := [
 ⟨some 107,(.fad 1),[.t 6],none⟩,⟨some 108,(.load false 1),[.t 107],none⟩,⟨some 109,.lens,[.t 108],none⟩,⟨some 110,.mov,[.c (.int .i64 0)],none⟩]
def Z15x : List Z2b := [
 ⟨some 111,(.bin .lss),[.t 110,.t 109],none⟩]
def Z15y : List Z2b := [
 ⟨some 112,(.iad 1),[.t 108,.t 110],none⟩,⟨some 113,(.load false 1),[.t 112],none⟩,⟨some 13,.mov,[.t 113],none⟩]
def Z15z : List Z2b := [
 ⟨some 114,.mov,[.t 0],none⟩,⟨some 115,.nilc,[.t 114],none⟩,⟨some 116,(.fad 2),[.t 115],none⟩,⟨some 117,(.load false 1),[.t 116],none⟩,⟨some 118,.mov,[.t 13],none⟩,⟨some 119,(.iad 1),[.t 117,.t 118],none⟩,⟨some 120,(.load false 1),[.t 119],none⟩]
def Z160 : List Z2b := [
 ⟨some 121,(.fad 4),[.t 9],none⟩,⟨some 122,(.loadg false 1),[.t 121,.t 9],none⟩,⟨some 123,.mov,[.t 0],none⟩,⟨some 124,.mov,[.t 13],none⟩,⟨some 125,(.callk Zec 2),[.t 123,.t 124,.t 9],none⟩,⟨some 126,(.bsl 5),[.t 125],none⟩,⟨some 127,(.app 5 72),[.t 122,.t 126],none⟩,⟨some 128,(.fad 4),[.t 9],none⟩,⟨none,(.store 1),[.t 128,.t 127],none⟩]
def Z161 : List Z2b := [
 ⟨some 129,(.bin .add),[.t 110,.c (.int .i64 1)],none⟩,⟨some 110,.mov,[.t 129],none⟩]
def Z162 : Z2c := (.seq (.region Z15x [0,4,9,108,109,110,111]) (.seq (.cond (.t 111) .skip (.exit 11)) (.seq (.block 12 (.seq (.region Z15y [0,4,9,13,108,109,110]) (.seq (.region Z15z [0,4,9,13,108,109,110,120]) (.cond (.t 120) (.region Z160 [0,4,9,108,109,110]) .skip)))) (.region Z161 [0,4,9,108,109,110]))))
def Z163 : List Z2b := [
 ⟨some 130,(.fad 1),[.t 5],none⟩,⟨some 131,(.load false 1),[.t 130],none⟩,⟨some 132,.mov,[.t 8],none⟩,⟨some 133,(.iad 1),[.t 131,.t 132],none⟩,⟨some 134,(.load false 1),[.t 133],none⟩,⟨some 135,(.fad 1),[.t 9],none⟩,⟨none,(.store 1),[.t 135,.t 134],none⟩]
def Z164 : List Z2b := [
 ⟨some 136,(.fad 4),[.t 9],none⟩,⟨some 137,(.loadg false 1),[.t 136,.t 9],none⟩,⟨some 138,.mov,[.t 0],none⟩,⟨some 139,(.fad 1),[.t 6],none⟩,⟨some 140,(.load false 1),[.t 139],none⟩,⟨some 141,(.fad 1),[.t 9],none⟩,⟨some 142,(.load false 1),[.t 141],none⟩,⟨some 143,(.iad 1),[.t 140,.t 142],none⟩,⟨some 144,(.load false 1),[.t 143],none⟩,⟨some 145,(.callk Zec 2),[.t 138,.t 144,.t 9],none⟩,⟨some 146,(.bsl 5),[.t 145],none⟩,⟨some 147,(.app 5 72),[.t 137,.t 146],none⟩,⟨some 148,(.fad 4),[.t 9],none⟩,⟨none,(.store 1),[.t 148,.t 147],none⟩]
def Z165 : List Z2b := [
 ⟨some 149,(.fad 3),[.t 5],none⟩,⟨some 150,(.load false 1),[.t 149],none⟩,⟨some 151,.mov,[.t 8],none⟩,⟨some 152,(.iad 1),[.t 150,.t 151],none⟩,⟨some 153,(.load false 1),[.t 152],none⟩,⟨some 154,(.call Zf0),[.t 153],none⟩,⟨some 155,(.call Zez),[.t 154],none⟩,⟨some 156,(.fad 3),[.t 9],none⟩,⟨none,(.store 1),[.t 156,.t 155],none⟩]
def Z166 : List Z2b := [
 ⟨some 157,(.fad 2),[.t 5],none⟩,⟨some 158,(.load false 1),[.t 157],none⟩,⟨some 159,.mov,[.t 8],none⟩,⟨some 160,(.iad 1),[.t 158,.t 159],none⟩,⟨some 161,(.load false 1),[.t 160],none⟩,⟨some 162,(.fad 2),[.t 9],none⟩,⟨none,(.store 1),[.t 162,.t 161],none⟩]
def Z167 : List Z2b := [
 ⟨some 163,(.fad 1),[.t 5],none⟩,⟨some 164,(.load false 1),[.t 163],none⟩,⟨some 165,.mov,[.t 8],none⟩,⟨some 166,(.iad 1),[.t 164,.t 165],none⟩,⟨some 167,(.load false 1),[.t 166],none⟩,⟨some 168,(.fad 1),[.t 9],none⟩,⟨none,(.store 1),[.t 168,.t 167],none⟩]
def Z168 : List Z2b := [
 ⟨some 169,(.fad 4),[.t 9],none⟩,⟨some 170,(.load false 1),[.t 169],none⟩,⟨some 171,(.call Zf1),[.t 170],none⟩,⟨some 172,(.fad 4),[.t 9],none⟩,⟨none,(.store 1),[.t 172,.t 171],none⟩]
def Z169 : List Z2b := [
 ⟨some 173,(.load true 5),[.t 9],none⟩,⟨none,(.store 5),[.t 4,.t 173],none⟩]
def Z16a : Z2z := ⟨174,(.seq (.region Z153 [0,1,4]) (.seq (.region Z154 [0,1,4,5,6]) (.seq (.region Z155 [0,1,4,5,6,7]) (.seq (.region Z156 [0,1,4,5,6,7]) (.seq (.seq (.region Z157 [0,1,4,5,6,49]) (.cond (.t 49) (.seq (.region Z158 [4]) .ret) .skip)) (.seq (.region Z159 [0,1,4,5,6,8]) (.seq (.region Z15a [0,4,5,6,8]) (.seq (.region Z15b [0,4,5,6,8,9]) (.seq (.seq (.region Z15c [0,4,5,6,8,9,68]) (.block 0 (.seq (.block 6 (.seq (.block 5 (.seq (.block 4 (.seq (.block 3 (.seq (.block 2 (.seq (.block 1 (.seq (.seq (.seq (.seq (.region Z15d [0,4,5,6,8,9,68,69]) (.cond (.t 69) .skip (.region Z15e [0,4,5,6,8,9,68,69]))) (.cond (.t 69) (.exit 1) .skip)) (.seq (.seq (.region Z15f [0,4,5,6,8,9,68,72]) (.cond (.t 72) (.exit 2) .skip)) (.seq (.seq (.region Z15g [0,4,5,6,8,9,68,74]) (.cond (.t 74) (.exit 3) .skip)) (.seq (.seq (.seq (.region Z15h [4,5,8,9,68,76]) (.cond (.t 76) .skip (.seq (.region Z15i [4,5,8,9,68,76]) (.cond (.t 76) .skip (.seq (.region Z15j [4,5,8,9,68,76]) (.cond (.t 76) .skip (.region Z15k [4,5,8,9,68,76]))))))) (.cond (.t 76) (.exit 4) .skip)) (.seq (.region Z15l [4,5,8,9,81]) (.cond (.t 81) (.exit 5) .skip)))))) (.exit 6))) (.seq (.seq (.region Z15m [0,4,6,9,87,88]) (.block 7 (.loop Z15v))) (.exit 0)))) (.seq (.seq (.region Z15w [0,4,9,108,109,110]) (.block 11 (.loop Z162))) (.exit 0)))) (.seq (.seq (.region Z163 [0,4,6,9]) (.region Z164 [4,9])) (.exit 0)))) (.seq (.region Z165 [4,9]) (.exit 0)))) (.region Z166 [4,5,8,9]))) (.seq (.region Z167 [4,9]) (.exit 0))))) (.seq (.region Z168 [4,9]) (.seq (.region Z169 [4]) .ret))))))))))),[.cell 4 true 5]⟩
def Z16b : List Z2b := [
 ⟨some 4,.mov,[.c (.slc 0 [] true)],none⟩]
def Z16c : List Z2b := [
 ⟨some 9,.mov,[.t 1],none⟩,⟨some 10,(.bin .lss),[.t 9,.c (.int .i64 0)],none⟩]
def Z16d : List Z2b := [
 ⟨some 11,(.mki 9),[.c (.str [99,97,110,110,111,116,32,98,101,32,110,101,103,97,116,105,118,101])],none⟩,⟨none,.bad,[],none⟩]
def Z16e : List Z2b := [
 ⟨some 13,.mov,[.t 0],none⟩,⟨some 14,.lens,[.t 13],none⟩,⟨some 15,(.conv .u64),[.t 14],none⟩,⟨some 16,.mov,[.t 1],none⟩,⟨some 17,(.conv .u64),[.t 16],none⟩,⟨some 18,(.call Zfb),[.t 15,.t 17],none⟩,⟨some 12,.mov,[.t 18],none⟩,⟨some 19,(.ext 0),[.t 12],none⟩,⟨some 20,(.ext 1),[.t 12],none⟩,⟨some 5,.mov,[.t 19],none⟩,⟨some 6,.mov,[.t 20],none⟩]
def Z16f : List Z2b := [
 ⟨some 21,.mov,[.t 5],none⟩,⟨some 22,(.bin .gtr),[.t 21,.c (.int .u64 0)],none⟩,⟨some 23,.mov,[.t 22],none⟩,⟨some 24,.mov,[.t 6],some (23,false)⟩,⟨some 25,(.bin .gtr),[.t 24,.c (.int .u64 9223372036854775807)],some (23,false)⟩,⟨some 26,.pick,[.t 23,.c (.bool true),.t 25],none⟩]
def Z16g : List Z2b := [
 ⟨some 27,(.mki 9),[.c (.str [116,104,101,32,114,101,115,117,108,116,32,111,102,32,40,108,101,110,40,120,41,32,42,32,99,111,117,110,116,41,32,111,118,101,114,102,108,111,119,115])],none⟩,⟨none,.bad,[],none⟩]
def Z16h : List Z2b := [
 ⟨some 28,.mov,[.t 6],none⟩,⟨some 29,(.conv .i64),[.t 28],none⟩,⟨some 30,(.mks 1 1 (.bool false)),[.t 29,.t 29],none⟩,⟨some 7,.mov,[.t 30],none⟩]
def Z16i : List Z2b := [
 ⟨some 31,.mov,[.t 7],none⟩,⟨some 32,.mov,[.t 0],none⟩,⟨some 33,(.cpy 1),[.t 31,.t 32],none⟩,⟨some 8,.mov,[.t 33],none⟩]
def Z16j : List Z2b := [
 ⟨some 34,.mov,[.t 8],none⟩,⟨some 35,.mov,[.t 7],none⟩,⟨some 36,.lens,[.t 35],none⟩,⟨some 37,(.bin .lss),[.t 34,.t 36],none⟩]
def Z16k : List Z2b := [
 ⟨some 38,.mov,[.t 8],none⟩,⟨some 39,.mov,[.t 7],none⟩,⟨some 40,.mov,[.t 8],none⟩,⟨some 41,(.slc 1 true false false),[.t 39,.t 40],none⟩,⟨some 42,.mov,[.t 7],none⟩,⟨some 43,.mov,[.t 8],none⟩,⟨some 44,(.slc 1 false true false),[.t 42,.t 43],none⟩,⟨some 45,(.cpy 1),[.t 41,.t 44],none⟩,⟨some 46,(.bin .add),[.t 38,.t 45],none⟩,⟨some 8,.mov,[.t 46],none⟩]
def Z16l : Z2c := (.seq (.seq (.region Z16j [7,8,37]) (.cond (.t 37) .skip (.exit 0))) (.block 1 (.region Z16k [7,8])))
def Z16m : List Z2b := [
 ⟨some 47,.mov,[.t 7],none⟩,⟨some 4,.mov,[.t 47],none⟩]
def Z16n : Z2z := ⟨48,(.seq (.region Z16b [0,1]) (.seq (.seq (.region Z16c [0,1,10]) (.cond (.t 10) (.region Z16d [0,1]) .skip)) (.seq (.region Z16e [0,5,6]) (.seq (.seq (.region Z16f [0,6,26]) (.cond (.t 26) (.region Z16g [0,6]) .skip)) (.seq (.region Z16h [0,7]) (.seq (.region Z16i [7,8]) (.seq (.block 0 (.loop Z16l)) (.seq (.region Z16m [4]) .ret)))))))),[.t 4]⟩
def Z16o : List Z2b := [
 ⟨some 4,.mov,[.c (.int .u64 0)],none⟩,⟨some 5,.mov,[.c (.int .u64 0)],none⟩]
def Z16p : List Z2b := [
 ⟨some 11,.mov,[.t 0],none⟩,⟨some 12,(.conv .u32),[.t 11],none⟩,⟨some 13,.mov,[.t 1],none⟩,⟨some 14,(.conv .u32),[.t 13],none⟩,⟨some 15,(.call Zfp),[.t 12,.t 14],none⟩,⟨some 10,.mov,[.t 15],none⟩,⟨some 16,(.ext 0),[.t 10],none⟩,⟨some 17,(.ext 1),[.t 10],none⟩,⟨some 6,.mov,[.t 16],none⟩,⟨some 7,.mov,[.t 17],none⟩]
def Z16q : List Z2b := [
 ⟨some 18,.mov,[.t 6],none⟩,⟨some 19,(.conv .u64),[.t 18],none⟩,⟨some 20,.mov,[.t 7],none⟩,⟨some 21,(.conv .u64),[.t 20],none⟩,⟨some 4,.mov,[.t 19],none⟩,⟨some 5,.mov,[.t 21],none⟩]
def Z16r : List Z2b := [
 ⟨some 23,.mov,[.t 0],none⟩,⟨some 24,.mov,[.t 1],none⟩,⟨some 25,(.call Zfq),[.t 23,.t 24],none⟩,⟨some 22,.mov,[.t 25],none⟩,⟨some 26,(.ext 0),[.t 22],none⟩,⟨some 27,(.ext 1),[.t 22],none⟩,⟨some 8,.mov,[.t 26],none⟩,⟨some 9,.mov,[.t 27],none⟩]
def Z16s : List Z2b := [
 ⟨some 28,.mov,[.t 8],none⟩,⟨some 29,.mov,[.t 9],none⟩,⟨some 4,.mov,[.t 28],none⟩,⟨some 5,.mov,[.t 29],none⟩]
def Z16t : Z2z := ⟨30,(.seq (.region Z16o [0,1]) (.seq (.cond (.c (.bool false)) (.seq (.region Z16p [6,7]) (.seq (.region Z16q [4,5]) .ret)) .skip) (.seq (.region Z16r [8,9]) (.seq (.region Z16s [4,5]) .ret)))),[.t 4,.t 5]⟩
def Z16u : List Z2b := [
 ⟨some 1,(.box 8),[.t 0],none⟩,⟨some 2,(.alloc (.agg [(.int .i64 0),(.slc 0 [] true),(.slc 0 [] true),(.int .i64 0),(.int .i64 0),(.int .i64 0)])),[],none⟩]
def Z16v : List Z2b := [
 ⟨some 3,(.fad 0),[.t 1],none⟩,⟨some 4,(.load false 1),[.t 3],none⟩,⟨some 5,(.fad 1),[.t 1],none⟩,⟨some 6,(.load false 1),[.t 5],none⟩,⟨some 7,.lens,[.t 6],none⟩,⟨some 8,(.mks 6 80 (.agg [(.int .i64 0),(.slc 0 [] true),(.slc 0 [] true),(.int .i64 0),(.int .i64 0),(.int .i64 0)])),[.t 7,.t 7],none⟩,⟨some 9,(.fad 3),[.t 1],none⟩,⟨some 10,(.load false 1),[.t 9],none⟩,⟨some 11,(.fad 4),[.t 1],none⟩,⟨some 12,(.load false 1),[.t 11],none⟩,⟨some 13,(.fad 5),[.t 1],none⟩,⟨some 14,(.load false 1),[.t 13],none⟩,⟨some 15,(.bld [(.int .i64 0),(.slc 0 [] true),(.slc 0 [] true),(.int .i64 0),(.int .i64 0),(.int .i64 0)] [(0,1),(2,1),(3,1),(4,1),(5,1)]),[.t 4,.t 8,.t 10,.t 12,.t 14],none⟩,⟨none,(.store 6),[.t 2,.t 15],none⟩]
def Z16w : Z2z := ⟨16,(.seq (.region Z16u [1,2]) (.seq (.region Z16v [2]) .ret)),[.cell 2 true 6]⟩
def Z16x : List Z2b := [
 ⟨some 3,.mov,[.c (.int .i64 0)],none⟩]
def Z16y : List Z2b := [
 ⟨some 4,.mov,[.t 0],none⟩]
def Z16z : List Z2b := [
 ⟨some 5,(.load false 1),[.t 1],none⟩,⟨some 3,.mov,[.t 5],none⟩]
def Z170 : List Z2b := [
 ⟨some 3,.mov,[.c (.int .i64 0)],none⟩]
def Z171 : Z2z := ⟨6,(.seq (.region Z16x [0,1]) (.seq (.seq (.region Z16y [1,4]) (.cond (.t 4) (.seq (.region Z16z [3]) .ret) .skip)) (.seq (.region Z170 [3]) .ret))),[.t 3]⟩
def Z172 : List Z2b := [
 ⟨some 3,(.box 6),[.t 0],none⟩,⟨some 6,.mov,[.c (.bool false)],none⟩]
def Z173 : List Z2b := [
 ⟨some 7,(.fad 0),[.t 3],none⟩,⟨some 8,(.load false 1),[.t 7],none⟩,⟨some 9,(.bin .eql),[.t 8,.c (.int .i64 13)],none⟩]
def Z174 : List Z2b := [
 ⟨some 10,.mov,[.t 1],none⟩,⟨some 11,(.bin .geq),[.t 10,.c (.int .i64 0)],none⟩,⟨some 12,.mov,[.t 11],none⟩,⟨some 13,.mov,[.t 1],some (12,true)⟩,⟨some 14,(.fad 2),[.t 3],some (12,true)⟩,⟨some 15,(.load false 1),[.t 14],some (12,true)⟩,⟨some 16,.lens,[.t 15],some (12,true)⟩,⟨some 17,(.bin .lss),[.t 13,.t 16],some (12,true)⟩,⟨some 18,.pick,[.t 12,.t 17,.c (.bool false)],none⟩,⟨some 6,.mov,[.t 18],none⟩]
def Z175 : List Z2b := [
 ⟨some 19,(.load true 6),[.t 3],none⟩,⟨some 20,.mov,[.t 1],none⟩,⟨some 21,.mov,[.t 2],none⟩,⟨some 22,(.bld [(.bool false),(.int .i64 0),(.int .i64 0),(.slc 0 [] true),(.slc 0 [] true)] [(1,1),(2,1)]),[.t 20,.t 21],none⟩,⟨some 23,(.call Ze3),[.t 19,.t 22],none⟩,⟨some 24,(.bin .eql),[.t 23,.c (.int .i64 0)],none⟩,⟨some 6,.mov,[.t 24],none⟩]
def Z176 : Z2z := ⟨25,(.seq (.region Z172 [1,2,3]) (.seq (.seq (.region Z173 [1,2,3,9]) (.cond (.t 9) (.seq (.region Z174 [6]) .ret) .skip)) (.seq (.region Z175 [6]) .ret))),[.t 6]⟩
def Z177 : List Z2b := [
 ⟨some 4,.mov,[.c (.int .u64 0)],none⟩,⟨some 5,.mov,[.c (.int .u64 0)],none⟩]
def Z178 : List Z2b := [
 ⟨some 14,.mov,[.t 0],none⟩,⟨some 15,(.bin .and),[.t 14,.c (.int .u64 4294967295)],none⟩,⟨some 6,.mov,[.t 15],none⟩]
def Z179 : List Z2b := [
 ⟨some 16,.mov,[.t 0],none⟩,⟨some 17,(.bin .shr),[.t 16,.c (.int .u64 32)],none⟩,⟨some 7,.mov,[.t 17],none⟩]
def Z17a : List Z2b := [
 ⟨some 18,.mov,[.t 1],none⟩,⟨some 19,(.bin .and),[.t 18,.c (.int .u64 4294967295)],none⟩,⟨some 8,.mov,[.t 19],none⟩]
def Z17b : List Z2b := [
 ⟨some 20,.mov,[.t 1],none⟩,⟨some 21,(.bin .shr),[.t 20,.c (.int .u64 32)],none⟩,⟨some 9,.mov,[.t 21],none⟩]
def Z17c : List Z2b := [
 ⟨some 22,.mov,[.t 6],none⟩,⟨some 23,.mov,[.t 8],none⟩,⟨some 24,(.bin .mul),[.t 22,.t 23],none⟩,⟨some 10,.mov,[.t 24],none⟩]
def Z17d : List Z2b := [
 ⟨some 25,.mov,[.t 7],none⟩,⟨some 26,.mov,[.t 8],none⟩,⟨some 27,(.bin .mul),[.t 25,.t 26],none⟩,⟨some 28,.mov,[.t 10],none⟩,⟨some 29,(.bin .shr),[.t 28,.c (.int .u64 32)],none⟩,⟨some 30,(.bin .add),[.t 27,.t 29],none⟩,⟨some 11,.mov,[.t 30],none⟩]
def Z17e : List Z2b := [
 ⟨some 31,.mov,[.t 11],none⟩,⟨some 32,(.bin .and),[.t 31,.c (.int .u64 4294967295)],none⟩,⟨some 12,.mov,[.t 32],none⟩]
def Z17f : List Z2b := [
 ⟨some 33,.mov,[.t 11],none⟩,⟨some 34,(.bin .shr),[.t 33,.c (.int .u64 32)],none⟩,⟨some 13,.mov,[.t 34],none⟩]
def Z17g : List Z2b := [
 ⟨some 35,.mov,[.t 12],none⟩,⟨some 36,.mov,[.t 6],none⟩,⟨some 37,.mov,[.t 9],none⟩,⟨some 38,(.bin .mul),[.t 36,.t 37],none⟩,⟨some 39,(.bin .add),[.t 35,.t 38],none⟩,⟨some 12,.mov,[.t 39],none⟩]
def Z17h : List Z2b := [
 ⟨some 40,.mov,[.t 7],none⟩,⟨some 41,.mov,[.t 9],none⟩,⟨some 42,(.bin .mul),[.t 40,.t 41],none⟩,⟨some 43,.mov,[.t 13],none⟩,⟨some 44,(.bin .add),[.t 42,.t 43],none⟩,⟨some 45,.mov,[.t 12],none⟩,⟨some 46,(.bin .shr),[.t 45,.c (.int .u64 32)],none⟩,⟨some 47,(.bin .add),[.t 44,.t 46],none⟩,⟨some 4,.mov,[.t 47],none⟩]
def Z17i : List Z2b := [
 ⟨some 48,.mov,[.t 0],none⟩,⟨some 49,.mov,[.t 1],none⟩,⟨some 50,(.bin .mul),[.t 48,.t 49],none⟩,⟨some 5,.mov,[.t 50],none⟩]
def Z17j : Z2z := ⟨51,(.seq (.region Z177 [0,1]) (.seq (.region Z178 [0,1,6]) (.seq (.region Z179 [0,1,6,7]) (.seq (.region Z17a [0,1,6,7,8]) (.seq (.region Z17b [0,1,6,7,8,9]) (.seq (.region Z17c [0,1,6,7,8,9,10]) (.seq (.region Z17d [0,1,6,7,9,11]) (.seq (.region Z17e [0,1,6,7,9,11,12]) (.seq (.region Z17f [0,1,6,7,9,12,13]) (.seq (.region Z17g [0,1,7,9,12,13]) (.seq (.region Z17h [0,1,4]) (.seq (.region Z17i [4,5]) .ret)))))))))))),[.t 4,.t 5]⟩
end Go.Abs
namespace Go.Abs
open Go Go.Proofs
theorem Z17k : Z30 Try.prog [(4, 37), (4, 27), (4, 17), (4, 7), (2, 4), (2, 2)] Zea = some Z14n.erase := by kernel_rfl
theorem Z17l : Z30 Try.prog [] Zeb = some Z152.erase := by kernel_rfl
theorem Z17m : Z30 Try.prog [(1, 13), (1, 10), (24, 100004), (24, 100001), (31, 100004), (31, 100001), (34, 100009), (34, 100001)] Zec = some Z16a.erase := by kernel_rfl
theorem Z17n : Z30 Try.prog [] Ze9 = some Z16n.erase := by kernel_rfl
theorem Z17o : Z30 Try.prog [] Zfb = some Z16t.erase := by kernel_rfl
theorem Z17p : Z30 Try.prog [] Zfc = some Z16w.erase := by kernel_rfl
theorem Z17q : Z30 Try.prog [] Zfd = some Z171.erase := by kernel_rfl
theorem Z17r : Z30 Try.prog [] Zfe = some Z176.erase := by kernel_rfl
theorem Z17s : Z30 Try.prog [] Zfq = some Z17j.erase := by kernel_rfl
end Go.Abs
namespace Go.Abs
open Go Go.Proofs
theorem Z17t {P : Program} {l : List Z2b} {F : Z27} {σ τ : Zc} {Q : Z27 → Zc → Prop} {d : Nat} {args : List Zw} {f : FuncId} {first caps ws : List Z0} {v : Z0} (h1 : evs F args = some (.fn f first caps :: ws)) (hg : Z21 P f = true)
  (hc : Z1s P f (first ++ ws ++ caps) σ fun r σ' => r = v ∧ σ' = τ) (h : aops P l (fset d (some v) F) τ Q) : aops P (⟨some d, .callv, args, none⟩ :: l) F σ Q := by
 refine ⟨_, h1, hg, ⟨v, τ, h⟩, hc.mono fun r σ' ⟨e1, e2⟩ => ?_⟩
 subst e1 e2
 exact h
theorem Z17u {P : Program} {N : Nat} {a : Z2c} {Q : Z8i} {F : Z27} {b sz d : Nat} {x : Z0} {τ : Zc} (hF : F d = some (.ptr b 0 0)) (h : AWp P N a Q (fset d (some (.iptr x.cells)) F) τ) : AWp P N a Q F ((b, .cells sz [x]) :: τ) := by
 refine awp_vs (fun K w tmps hr hfr => ?_) h
 have h1 := hfr.at_ d _ hF
 have hmem : (b, Zb.cells sz [x]) ∈ (b, Zb.cells sz [x]) :: τ := by simp
 have hown := hr.own b _ hmem
 unfold VR at h1
 generalize hv : tmps.getD d undef = v at h1
 cases h1 with
 | @ptr _ _ _ cb sz' pcap _ _ hl r =>
  obtain rfl : sz' = sz := by
   rcases hown.2 with ⟨p, k1, _⟩ | ⟨cb', p, cs', ty, k1, _⟩ <;> rw [hl] at k1 <;> simp at k1
   exact k1.2.1
  obtain ⟨vs0, g1, g2, g3⟩ := hr.freeze hmem hl
  rw [Z9l] at g3
  refine ⟨K.addImm cb vs0, g2, g3, hfr.size, fun i y e => ?_⟩
  simp only [fset] at e
  split at e
  ·rename_i hi
   subst hi
   simp only [Option.some.injEq] at e
   subst e
   rw [hv]
   refine Z1.iptr (vs := vs0) rfl ?_ ?_ ?_ .nil
   ·exact (hown.1 x (by simp)).2
   ·intro j v hj
    simp only [Kr.addImm, Nat.zero_mul, Nat.zero_add, if_true]
    exact hj
   ·have := Z1.mono g2 g1
    simpa [Z0.cells] using this
  ·exact (hfr.at_ i y e).mono g2
attribute [local irreducible] AWp aops KP
def tyK (n : Nd) : Ty := .mk n.t.kind [] (List.replicate n.kids.length default) n.t.len n.t.prec n.t.scale
theorem HShift.cellS {b sz s : Nat} {A B p q : List Z0} {v : Z0} {ks : List Z0} {β σ : Zc} (hg : Zb5 s v ks β) (he : ∀ y ∈ A ++ .agg (p ++ .slc s ks false :: q) :: B, y.elem sz) :
  HShift ((b, .cells sz (A ++ .agg (p ++ v :: q) :: B)) :: (β ++ σ)) ((b, .cells sz (A ++ .agg (p ++ .slc s ks false :: q) :: B)) :: σ) := by
 rcases hg with ⟨⟨z, rfl⟩, rfl, rfl⟩ | ⟨bk, rfl, rfl⟩
 ·refine HShift.content (by simp) he ?_
  simp only [Z4, Z3, Z0.cells]
  exact VRle.app (VRle.refl _) (VRle.app (VRle.app (VRle.refl _) (VRle.cons (VRle.nilF _ _) (VRle.refl _))) (VRle.refl _))
 ·refine HShift.inner (bk := bk) (s := s) (ks := ks) (by simp) he fun K hK vs hv => ?_
  simp only [Z4, Z3, Z0.cells] at hv ⊢
  obtain ⟨m1, m2, rfl, g1, g2⟩ := hv.split
  obtain ⟨m3, m4, rfl, g3, g4⟩ := g2.split
  obtain ⟨m5, m6, rfl, g5, g6⟩ := g3.split
  refine g1.append ((g5.append ?_).append g4)
  have h2 : (Z0.arr s bk 0 ks.length :: q) = [Z0.arr s bk 0 ks.length] ++ q := rfl
  rw [h2] at g6
  obtain ⟨m7, m8, rfl, g7, g8⟩ := g6.split
  have h3 : (Z0.slc s ks false :: q) = [Z0.slc s ks false] ++ q := rfl
  rw [h3]
  refine Z1.append ?_ g8
  have hl := g7.length
  match m7, g7, hl with
  | [x], g7, _ => exact hK x g7
theorem Z17v (n : Nd) (hk : n.kids.length ≤ 1000) (σ : Zc) : Z1s Try.prog Zfc [encN n] σ fun r σ' => r = encT (tyK n) ∧ σ' = σ := by
 have hkn : (ints n.kids).length = n.kids.length := List.length_map ..
 have hz : VRle [.agg [.int .i64 0, .slc 0 [] true, .slc 0 [] true, .int .i64 0, .int .i64 0, .int .i64 0]] [encT default] := by
  rw [show (default : Ty) = .mk 0 [] [] 0 0 0 from rfl, encT]
  (repeat(first|exact VRle.refl _ | exact Zbf|refine Zbg rfl rfl ?_|refine Zbh rfl ?_|refine Zbe ?_ ?_))
 have hzs : ∀ m, VRle (flat (List.replicate m (.agg [.int .i64 0, .slc 0 [] true, .slc 0 [] true, .int .i64 0, .int .i64 0, .int .i64 0]))) (flat (Zly (List.replicate m default))) := by
  intro m
  induction m with
  | zero => exact VRle.refl _
  | succ m ih =>
   rw [List.replicate_succ, List.replicate_succ, Zly, Z3, Z3]
   refine VRle.app ?_ ih
   rw [show (default : Ty) = .mk 0 [] [] 0 0 0 from rfl, encT]
   simp only [Z0.cells]
   (repeat(first|exact VRle.refl _ | exact Zbf|refine Zbg rfl rfl ?_|refine Zbh rfl ?_|refine Zbe ?_ ?_))
 have hel : ∀ m, ∀ y ∈ Zly (List.replicate m default), y.elem 6 := by
  intro m y hy
  rw [Zm1, List.map_replicate] at hy
  rw [List.eq_of_mem_replicate hy]
  exact Z0.fit_iff.1 rfl
 have hv : VRle [.agg [.int .i64 n.t.kind, .slc 0 [] true, .slc 6 (List.replicate n.kids.length (.agg [.int .i64 0, .slc 0 [] true, .slc 0 [] true, .int .i64 0, .int .i64 0, .int .i64 0])) false, .int .i64 n.t.len, .int .i64 n.t.prec, .int .i64 n.t.scale]] [encT (tyK n)] := by
  rw [tyK, encT]
  refine VRle.agg (by simp [Z0.one]) ?_
  refine VRle.cons (VRle.refl _) ?_
  refine VRle.cons (VRle.nilF _ _) ?_
  refine VRle.cons (VRle.cells (by simp [Zm2]) (hel _) (hzs _)) (VRle.refl _)
 refine Z23.le ?_ hv
 refine Z94 rfl Z17p (Nat.le_of_ble_eq_true rfl) ?_
 refine Za1 ?_
 refine Z9n rfl (Kfi rfl) fun b1 hb1 => ?_
 refine Z9o (by simp [Z0.cells, Z0.one]) fun b2 hb2 => ?_
 repeat refine Kq rfl rfl rfl ?_
 (refine Z99 ?_; (repeat(first|refine Z9x rfl ?_|refine Z9y ?_)); refine Z9w ?_)
 refine Z8l (FSub.refl _) (HSub.swap _ _ _) ?_
 refine Zaj (d := 1) (cs := Zmd n) rfl ?_
 refine Za1 ?_
 repeat refine Kq rfl rfl rfl ?_
 rw [hkn]
 refine Z9p rfl (Kfi rfl) (by omega) (by omega) (by omega) (by omega) fun b3 hb3 => ?_
 have hne : b3 ≠ b2 := fun e => hb3 (by rw [e]; simp [Zh])
 rw [Int.toNat_natCast]
 repeat refine Kq rfl rfl rfl ?_
 refine Z9g rfl (Z9b hne Z9a) rfl (by decide) (Kfi rfl) (fun h => by cases h) (Z9i hne Z9h) ?_
 (refine Z99 ?_; (repeat(first|refine Z9x rfl ?_|refine Z9y ?_)); refine Z9w ?_)
 refine Z8l (FSub.refl _) (HSub.swap _ _ _) ?_
 refine Zba (HShift.cellS (A := []) (B := []) (p := [.int .i64 n.t.kind, .slc 0 [] true]) (q := [.int .i64 n.t.len, .int .i64 n.t.prec, .int .i64 n.t.scale]) (β := [(b3, .cells 6 (List.replicate n.kids.length (.agg [.int .i64 0, .slc 0 [] true, .slc 0 [] true, .int .i64 0, .int .i64 0, .int .i64 0])))])
  (.inr ⟨b3, by rw [List.length_replicate], rfl⟩) (by intro y hy; simp only [List.nil_append, List.mem_singleton] at hy; subst hy; exact Z0.fit_iff.1 rfl)) ?_
 refine Z8o ?_
 exact ares (vs := [.agg [.int .i64 n.t.kind, .slc 0 [] true, .slc 6 (List.replicate n.kids.length (.agg [.int .i64 0, .slc 0 [] true, .slc 0 [] true, .int .i64 0, .int .i64 0, .int .i64 0])) false, .int .i64 n.t.len, .int .i64 n.t.prec, .int .i64 n.t.scale]]) (Zsj rfl Z9a rfl) (HSub.tail _ _) ⟨rfl, rfl⟩
theorem Z17w (b : Bool) (n : Int) (σ : Zc) : Z1s Try.prog Zfd [.bool b, .iptr [.int .i64 n]] σ fun r σ' => r = .int .i64 (if b = true then n else 0) ∧ σ' = σ := by
 refine Z94 rfl Z17q (Nat.le_of_ble_eq_true rfl) ?_
 cases b with
 | true =>
  (repeat(first|refine Kq rfl rfl rfl ?_|(refine Z99 ?_; (repeat(first|refine Z9x rfl ?_|refine Z9y ?_)); refine Z9w ?_)|refine Ks ?_|refine Zb1 (fun _ _ => rfl) ?_|refine Kc1 rfl ?_))
  refine Z8o ?_
  exact Kar rfl ⟨rfl, rfl⟩
 | false =>
  (repeat(first|refine Kq rfl rfl rfl ?_|(refine Z99 ?_; (repeat(first|refine Z9x rfl ?_|refine Z9y ?_)); refine Z9w ?_)|refine Ks ?_|refine Zb1 (fun _ _ => rfl) ?_|refine Zb2 (fun _ _ => rfl) ?_|refine Kc2 rfl ?_))
  refine Z8o ?_
  exact Kar rfl ⟨rfl, rfl⟩
def Z17x (t : Ty) (v m : Int) : Bool := if t.kind = 13 then decide (0 ≤ v ∧ v < t.kids.length) else decide (vchk t (.mk false v m [] []) = 0)
theorem Z17y (t : Ty) (ht : t.kind = 13 ∨ t.Ok) (v m : Int) (hv : -9223372036854775808 ≤ v ∧ v ≤ 9223372036854775807) (σ : Zc) : Z1s Try.prog Zfe [encT t, .int .i64 v, .int .i64 m] σ fun r σ' => r = .bool (Z17x t v m) ∧ σ' = σ := by
 have hkl := Zm2 t.kids
 have hVC := fun h => Z13h (.mk false v m [] []) (.mk hv (by simp [Vl.b]) (by simp [Vl.kids]) (by simp [Vl.kids])) t h
 rw [Zm0] at hVC ⊢
 refine Z94 rfl Z17r (Nat.le_of_ble_eq_true rfl) ?_
 refine Za1 ?_
 refine Z9n rfl (Kfi rfl) fun b1 hb1 => ?_
 repeat refine Kq rfl rfl rfl ?_
 (refine Z99 ?_; (repeat(first|refine Z9x rfl ?_|refine Z9y ?_)); refine Z9w ?_)
 refine Zaj (d := 3) (cs := Zlz t) rfl ?_
 (repeat(first|refine Kq rfl rfl rfl ?_|(refine Z99 ?_; (repeat(first|refine Z9x rfl ?_|refine Z9y ?_)); refine Z9w ?_)|refine Ks ?_|refine Zb1 (fun _ _ => rfl) ?_))
 by_cases k13 : t.kind = 13
 ·rw [Z17x, if_pos k13]
  (rw [decide_eq_true (p := t.kind = 13) (by omega)])
  by_cases h0 : 0 ≤ v
  ·(repeat(first|refine Kq rfl rfl rfl ?_|refine Ks ?_|refine Zb1 (fun _ _ => rfl) ?_|refine Kc1 rfl ?_))
   (rw [decide_eq_true (p := v ≥ 0) (by omega)])
   (repeat(first|refine Kq rfl rfl rfl ?_|refine Z96 rfl (Kq rfl rfl rfl ?_)|(refine Z99 ?_; (repeat(first|refine Z9x rfl ?_|refine Z9y ?_)); refine Z9w ?_)))
   rw [hkl]
   refine Z8o ?_
   refine ares rfl (HSub.refl _) ⟨?_, rfl⟩
   show Z0.bool _ = _
   congr 1
   simp [h0]
  ·(repeat(first|refine Kq rfl rfl rfl ?_|refine Ks ?_|refine Zb1 (fun _ _ => rfl) ?_|refine Kc1 rfl ?_))
   (rw [decide_eq_false (p := v ≥ 0) (by omega)])
   (repeat(first|refine Kq rfl rfl rfl ?_|refine Z97 rfl ?_|(refine Z99 ?_; (repeat(first|refine Z9x rfl ?_|refine Z9y ?_)); refine Z9w ?_)))
   refine Z8o ?_
   exact Kar rfl ⟨by rw [decide_eq_false (by omega)]; rfl, rfl⟩
 ·rw [Z17x, if_neg k13]
  have hVC := hVC (by rcases ht with h | h; exact absurd h k13; exact h)
  rw [Zmi] at hVC
  (rw [decide_eq_false (p := t.kind = 13) (by omega)])
  (repeat(first|refine Kq rfl rfl rfl ?_|refine Ks ?_|refine Zb1 (fun _ _ => rfl) ?_|refine Zb2 (fun _ _ => rfl) ?_|refine Kc2 rfl ?_))
  refine Z9v rfl (Z1s.args (by
   simp only [Zmh, Vl.null, Vl.i, Vl.n, Vl.b, Vl.kids, bytes, Zmg, List.map_nil]
   (repeat(first|exact VRle.refl _ | exact Zbf|refine Zbg rfl rfl ?_|refine Zbh rfl ?_|refine Zbe ?_ ?_))) (hVC _)) ?_
  (repeat(first|refine Kq rfl rfl rfl ?_|(refine Z99 ?_; (repeat(first|refine Z9x rfl ?_|refine Z9y ?_)); refine Z9w ?_)))
  refine Z8o ?_
  refine ares rfl (HSub.refl _) ⟨?_, rfl⟩
  show Z0.bool _ = _
  congr 1
  exact decide_eq_decide.2 (by omega)
structure Right (n : Nd) (c : Col) (count : Nat) (nulls : Bool) : Prop where
 sm : c.Sm
 rng : c.Rng
 good : c.Good n.t.kind
 here : c.here.length = count
 kids : n.kids.length ≤ 1000
 tOk : n.t.Ok
 kidl : n.kids.length = n.t.kids.length
 ints : ∀ i v, c.ints[i]? = some v → Z17x (tyK n) v (if n.t.kind = 9 then c.ns.getD i 0 else 0) = true
 texts : ∀ b ∈ c.texts, vchk (tyK n) (.mk false 0 0 b []) = 0
 lens : ∀ v ∈ c.lens, 0 ≤ v
 null : nulls = false → Zxn c = count
 sum : lenF n.t.kind = true → askF n.t.kind c 0 ≤ 16384
theorem Z17z {n : Nd} (h : n.t.Ok) (hk : n.kids.length = n.t.kids.length) (hl : Zm4 n.t.kind = true) : (tyK n).Ok := by
 have h0 : n.t.kids = [] := by
  have := h.kinds.1
  simp only [Zm4, Bool.not_eq_true', Bool.or_eq_false_iff, decide_eq_false_iff_not] at hl
  rw [Zm6, if_neg hl.1.1.1, if_neg hl.1.1.2, if_neg hl.1.2, if_neg hl.2] at this
  exact List.length_eq_zero_iff.1 (by simpa using this)
 have e : tyK n = tyN n := by
  rw [tyK, tyN, hk, h0]; rfl
 rw [e]
 exact Z13n h hl
end Go.Abs
namespace Go.Abs
open Go Go.Proofs
attribute [local irreducible] AWp aops KP
structure Z180 (n : Nd) (c : Col) (count : Nat) : Prop where
 here : c.here.length = count
 ints : (c.ints.length : Int) = if intF n.t.kind = true then ((Zxn c : Nat) : Int) else 0
 ns : (c.ns.length : Int) = if decide (n.t.kind = 9) = true then ((Zxn c : Nat) : Int) else 0
 texts : (c.texts.length : Int) = if Zmm n.t.kind = true then ((Zxn c : Nat) : Int) else 0
 lens : (c.lens.length : Int) = if lenF n.t.kind = true then ((Zxn c : Nat) : Int) else 0
def nanoF (n : Nd) (c : Col) (i : Nat) : Int := if n.t.kind = 9 then c.ns.getD i 0 else 0
open Classical in
noncomputable def wrongF (n : Nd) (c : Col) (count : Nat) (nulls : Bool) : Nat :=
 if ¬ Z180 n c count then 2
 else if ¬ ∀ (i : Nat) v, c.ints[i]? = some v → Z17x (tyK n) v (nanoF n c i) = true then 2
 else if ¬ ∀ b ∈ c.texts, vchk (tyK n) (.mk false 0 0 b []) = 0 then 2
 else if ¬ ∀ v ∈ c.lens, 0 ≤ v then 2
 else if nulls = false ∧ Zxn c ≠ count then 2
 else if lenF n.t.kind = true ∧ 16384 < askF n.t.kind c 0 then 4 else 0
theorem Z181 {n : Nd} {c : Col} {count : Nat} {nulls : Bool} (h : ¬ Z180 n c count) : wrongF n c count nulls = 2 := by rw [wrongF, if_pos h]
theorem Z182 {n : Nd} {c : Col} {count : Nat} {nulls : Bool} (h0 : Z180 n c count) (h : ¬ ∀ (i : Nat) v, c.ints[i]? = some v → Z17x (tyK n) v (nanoF n c i) = true) : wrongF n c count nulls = 2 := by
 rw [wrongF, if_neg (fun e => e h0), if_pos h]
theorem Z183 {n : Nd} {c : Col} {count : Nat} {nulls : Bool} (h0 : Z180 n c count) (h1 : ∀ (i : Nat) v, c.ints[i]? = some v → Z17x (tyK n) v (nanoF n c i) = true) (h : ¬ ∀ b ∈ c.texts, vchk (tyK n) (.mk false 0 0 b []) = 0) : wrongF n c count nulls = 2 := by
 rw [wrongF, if_neg (fun e => e h0), if_neg (fun e => e h1), if_pos h]
theorem Z184 {n : Nd} {c : Col} {count : Nat} {nulls : Bool} (h0 : Z180 n c count) (h1 : ∀ (i : Nat) v, c.ints[i]? = some v → Z17x (tyK n) v (nanoF n c i) = true) (h2 : ∀ b ∈ c.texts, vchk (tyK n) (.mk false 0 0 b []) = 0) (h : ¬ ∀ v ∈ c.lens, 0 ≤ v) : wrongF n c count nulls = 2 := by
 rw [wrongF, if_neg (fun e => e h0), if_neg (fun e => e h1), if_neg (fun e => e h2), if_pos h]
theorem Z185 {n : Nd} {c : Col} {count : Nat} {nulls : Bool} (h0 : Z180 n c count) (h1 : ∀ (i : Nat) v, c.ints[i]? = some v → Z17x (tyK n) v (nanoF n c i) = true) (h2 : ∀ b ∈ c.texts, vchk (tyK n) (.mk false 0 0 b []) = 0) (h3 : ∀ v ∈ c.lens, 0 ≤ v) :
  wrongF n c count nulls = if nulls = false ∧ Zxn c ≠ count then 2 else if lenF n.t.kind = true ∧ 16384 < askF n.t.kind c 0 then 4 else 0 := by
 rw [wrongF, if_neg (fun e => e h0), if_neg (fun e => e h1), if_neg (fun e => e h2), if_neg (fun e => e h3)]
theorem Z180.sm {n : Nd} {c : Col} {count : Nat} (h : Z180 n c count) (hl : c.here.length ≤ 16384) : c.Sm := by
 obtain ⟨h0, h1, h2, h3, h4⟩ := h
 have hle : Zxn c ≤ c.here.length := List.count_le_length
 refine ⟨hl, ?_, ?_, ?_, ?_⟩
 ·split at h1 <;> omega
 ·split at h2 <;> omega
 ·split at h3 <;> omega
 ·split at h4 <;> omega
end Go.Abs
namespace Go.Abs
open Go Go.Proofs
attribute [local irreducible] AWp aops KP
theorem Z186 (n : Nd) (c : Col) (count : Nat) (nulls : Bool) (hkids : n.kids.length ≤ 1000) (htok : n.t.Ok) (hkidl : n.kids.length = n.t.kids.length) (hsm0 : c.here.length ≤ 16384)
  (hint : ∀ v ∈ c.ints, -9223372036854775808 ≤ v ∧ v ≤ 9223372036854775807) (htx : ∀ b ∈ c.texts, b.length ≤ 9223372036854775807) (σ : Zc) : Z1s Try.prog Zea [encN n, Kc c, .int .i64 count, .bool nulls] σ fun r σ' => r = .int .i64 (wrongF n c count nulls : Nat) ∧ σ' = σ := by
 have hTy := Z17z htok hkidl
 have hkind : (tyK n).kind = n.t.kind := rfl
 have hle : Zxn c ≤ 16384 := Nat.le_trans List.count_le_length hsm0
 have hHere := Zxp c (by omega)
 have hTyp := Z17v n hkids
 rw [Zm0] at hTyp
 have el : ∀ {α : Type} (f : α → Z0) (l : List α), (l.map f).length = l.length := fun f l => List.length_map ..
 refine Z94 rfl Z17k (Nat.le_of_ble_eq_true rfl) ?_
 refine Za1 ?_
 refine Z9n rfl (Kfi rfl) fun b4 hb4 => ?_
 refine Z9n rfl (Kfi rfl) fun b5 hb5 => ?_
 repeat refine Kq rfl rfl rfl ?_
 (refine Z99 ?_; (repeat(first|refine Z9x rfl ?_|refine Z9y ?_)); refine Z9w ?_)
 refine Zaj (d := 5) (cs := Zrl c) rfl ?_
 refine Zaj (d := 4) (cs := Zmd n) rfl ?_
 refine Za1 ?_
 repeat refine Kq rfl rfl rfl ?_
 refine Z9v rfl (hHere _) ?_
 refine Z9o (by simp [Z0.cells, Z0.one]) fun b9 hb9 => ?_
 refine Z9g rfl Z9a rfl (by decide) (Kfi rfl) (fun _ => ⟨rfl, rfl⟩) Z9h ?_
 (refine Z99 ?_; (repeat(first|refine Z9x rfl ?_|refine Z9y ?_)); refine Z9w ?_)
 refine Z17u (d := 9) (x := .int .i64 (Zxn c : Nat)) rfl ?_
 refine Za1 ?_
 repeat refine Kq rfl rfl rfl ?_
 refine Zb9 rfl (c_of n.t.kind) ?_
 repeat refine Kq rfl rfl rfl ?_
 refine Zb9 rfl hTyp ?_
 refine Z9o (by simp [Z0.cells, Z0.one]) fun b10 hb10 => ?_
 refine Z9o (by simp [Z0.cells, Z0.one]) fun b11 hb11 => ?_
 have hne : b11 ≠ b10 := fun e => hb11 (by rw [e]; simp [Zh])
 refine Z9g rfl (Z9b hne Z9a) rfl (by decide) (Kfi rfl) (fun h => by cases h) (Z9i hne Z9h) ?_
 refine Z9g rfl Z9a rfl (by decide) (Kfi rfl) (fun h => by cases h) Z9h ?_
 (refine Z99 ?_; (repeat(first|refine Z9x rfl ?_|refine Z9y ?_)); refine Z9w ?_)
 refine Zaj (d := 11) (cs := Zlz (tyK n)) rfl ?_
 refine Zaj (d := 10) (cs := Zxm n.t.kind) rfl ?_
 (refine Za0 (keep := [2, 3, 4, 5, 9, 10, 11]) ?_; ((repeat(first|refine Z9x rfl ?_|refine Z9y ?_)); refine Z9w ?_))
 (repeat(first|refine Kq rfl rfl rfl ?_|(refine Z99 ?_; (repeat(first|refine Z9x rfl ?_|refine Z9y ?_)); refine Z9w ?_)|refine Ks ?_|refine Zb1 (fun _ _ => rfl) ?_))
 rw [el]
 by_cases s0 : c.here.length = count
 rotate_left
 ·(rw [decide_eq_true (p := (c.here.length : Int) ≠ (count : Int)) (by omega)])
  (repeat(first|refine Kq rfl rfl rfl ?_|refine Z97 rfl ?_|(refine Z99 ?_; (repeat(first|refine Z9x rfl ?_|refine Z9y ?_)); refine Z9w ?_)|refine Ks ?_|refine Zb1 (fun _ _ => rfl) ?_|refine Kc1 rfl ?_))
  refine Z8o ?_
  rw [Z181 (fun h => s0 h.here)]
  exact Kar rfl ⟨rfl, rfl⟩
 (rw [decide_eq_false (p := (c.here.length : Int) ≠ (count : Int)) (by omega)])
 (repeat refine Z96 rfl (Kq rfl rfl rfl ?_))
 refine Z96 rfl (Z17t rfl (by kernel_rfl) (Z17w _ _ _) ?_)
 (repeat(first|refine Kq rfl rfl rfl ?_|refine Z96 rfl (Kq rfl rfl rfl ?_)))
 by_cases s_ints : (c.ints.length : Int) = if intF n.t.kind = true then ((Zxn c : Nat) : Int) else 0
 rotate_left
 ·rw [show decide (((c.ints.map (Z0.int .i64)).length : Int) ≠ (if intF n.t.kind = true then ((Zxn c : Nat) : Int) else 0)) = true from decide_eq_true (fun h => s_ints (by rw [el] at h; exact h))]
  (repeat(first|refine Kq rfl rfl rfl ?_|refine Z97 rfl ?_|(refine Z99 ?_; (repeat(first|refine Z9x rfl ?_|refine Z9y ?_)); refine Z9w ?_)|refine Ks ?_|refine Zb1 (fun _ _ => rfl) ?_|refine Kc1 rfl ?_))
  refine Z8o ?_
  rw [Z181 (fun h => s_ints h.ints)]
  exact Kar rfl ⟨rfl, rfl⟩
 rw [show decide (((c.ints.map (Z0.int .i64)).length : Int) ≠ (if intF n.t.kind = true then ((Zxn c : Nat) : Int) else 0)) = false from decide_eq_false (fun h => h (by rw [el]; exact s_ints))]
 (repeat refine Z96 rfl (Kq rfl rfl rfl ?_))
 refine Z96 rfl (Z17t rfl (by kernel_rfl) (Z17w _ _ _) ?_)
 (repeat(first|refine Kq rfl rfl rfl ?_|refine Z96 rfl (Kq rfl rfl rfl ?_)))
 by_cases s_ns : (c.ns.length : Int) = if decide (n.t.kind = 9) = true then ((Zxn c : Nat) : Int) else 0
 rotate_left
 ·rw [show decide (((c.ns.map (Z0.int .i64)).length : Int) ≠ (if decide (n.t.kind = 9) = true then ((Zxn c : Nat) : Int) else 0)) = true from decide_eq_true (fun h => s_ns (by rw [el] at h; exact h))]
  (repeat(first|refine Kq rfl rfl rfl ?_|refine Z97 rfl ?_|(refine Z99 ?_; (repeat(first|refine Z9x rfl ?_|refine Z9y ?_)); refine Z9w ?_)|refine Ks ?_|refine Zb1 (fun _ _ => rfl) ?_|refine Kc1 rfl ?_))
  refine Z8o ?_
  rw [Z181 (fun h => s_ns h.ns)]
  exact Kar rfl ⟨rfl, rfl⟩
 rw [show decide (((c.ns.map (Z0.int .i64)).length : Int) ≠ (if decide (n.t.kind = 9) = true then ((Zxn c : Nat) : Int) else 0)) = false from decide_eq_false (fun h => h (by rw [el]; exact s_ns))]
 (repeat refine Z96 rfl (Kq rfl rfl rfl ?_))
 refine Z96 rfl (Z17t rfl (by kernel_rfl) (Z17w _ _ _) ?_)
 (repeat(first|refine Kq rfl rfl rfl ?_|refine Z96 rfl (Kq rfl rfl rfl ?_)))
 by_cases s_texts : (c.texts.length : Int) = if Zmm n.t.kind = true then ((Zxn c : Nat) : Int) else 0
 rotate_left
 ·rw [show decide (((c.texts.map fun b => Z0.slc 1 (bytes b) false).length : Int) ≠ (if Zmm n.t.kind = true then ((Zxn c : Nat) : Int) else 0)) = true from decide_eq_true (fun h => s_texts (by rw [el] at h; exact h))]
  (repeat(first|refine Kq rfl rfl rfl ?_|refine Z97 rfl ?_|(refine Z99 ?_; (repeat(first|refine Z9x rfl ?_|refine Z9y ?_)); refine Z9w ?_)|refine Ks ?_|refine Zb1 (fun _ _ => rfl) ?_|refine Kc1 rfl ?_))
  refine Z8o ?_
  rw [Z181 (fun h => s_texts h.texts)]
  exact Kar rfl ⟨rfl, rfl⟩
 rw [show decide (((c.texts.map fun b => Z0.slc 1 (bytes b) false).length : Int) ≠ (if Zmm n.t.kind = true then ((Zxn c : Nat) : Int) else 0)) = false from decide_eq_false (fun h => h (by rw [el]; exact s_texts))]
 (repeat refine Z96 rfl (Kq rfl rfl rfl ?_))
 refine Z96 rfl (Z17t rfl (by kernel_rfl) (Z17w _ _ _) ?_)
 (repeat(first|refine Kq rfl rfl rfl ?_|refine Z96 rfl (Kq rfl rfl rfl ?_)))
 by_cases s_lens : (c.lens.length : Int) = if lenF n.t.kind = true then ((Zxn c : Nat) : Int) else 0
 rotate_left
 ·rw [show decide (((c.lens.map (Z0.int .i64)).length : Int) ≠ (if lenF n.t.kind = true then ((Zxn c : Nat) : Int) else 0)) = true from decide_eq_true (fun h => s_lens (by rw [el] at h; exact h))]
  (repeat(first|refine Kq rfl rfl rfl ?_|(refine Z99 ?_; (repeat(first|refine Z9x rfl ?_|refine Z9y ?_)); refine Z9w ?_)|refine Ks ?_|refine Zb1 (fun _ _ => rfl) ?_|refine Kc1 rfl ?_))
  refine Z8o ?_
  rw [Z181 (fun h => s_lens h.lens)]
  exact Kar rfl ⟨rfl, rfl⟩
 rw [show decide (((c.lens.map (Z0.int .i64)).length : Int) ≠ (if lenF n.t.kind = true then ((Zxn c : Nat) : Int) else 0)) = false from decide_eq_false (fun h => h (by rw [el]; exact s_lens))]
 have hSz : Z180 n c count := ⟨s0, s_ints, s_ns, s_texts, s_lens⟩
 have hsm := hSz.sm hsm0
 have hAsk := fun σ => Zxs n.t.kind 0 (Zmd n) rfl rfl (Zxk n) c hsm σ
 obtain ⟨l1, l2, l3, l4, l5⟩ := hsm
 have hTx : ∀ b ∈ c.texts, ∀ σ, Z1s Try.prog Ze3 [.agg (Zlz (tyK n)), .agg (Zmh (.mk false 0 0 b []))] σ fun r σ' => r = .int .i64 (vchk (tyK n) (.mk false 0 0 b []) : Nat) ∧ σ' = σ := by
  intro b hb
  have hk : Zmm n.t.kind = true := by
   cases e : Zmm n.t.kind with
   | true => rfl
   | false =>
    rw [e, if_neg (by simp)] at s_texts
    have e0 : c.texts = [] := List.length_eq_zero_iff.1 (by omega)
    rw [e0] at hb
    cases hb
  have := Z13h (.mk false 0 0 b []) (.mk (by simp [Vl.i]) (by have := htx b hb; simp only [Vl.b]; omega) (by simp [Vl.kids]) (by simp [Vl.kids])) (tyK n) (hTy (Zta hk))
  rw [Zm0, Zmi] at this
  exact this
 have hNu : ∀ (i : Nat) v, c.ints[i]? = some v → ∀ σ, Z1s Try.prog Zfe [.agg (Zlz (tyK n)), .int .i64 v, .int .i64 (nanoF n c i)] σ fun r σ' => r = .bool (Z17x (tyK n) v (nanoF n c i)) ∧ σ' = σ := by
  intro i v hv
  have hk : (tyK n).kind = 13 ∨ (tyK n).Ok := by
   by_cases e13 : n.t.kind = 13
   ·exact .inl e13
   ·refine .inr (hTy ?_)
    have hn : intF n.t.kind = true := by
     cases e : intF n.t.kind with
     | true => rfl
     | false =>
      rw [e, if_neg (by simp)] at s_ints
      have e0 : c.ints = [] := List.length_eq_zero_iff.1 (by omega)
      rw [e0] at hv
      simp at hv
    simp only [intF, Bool.not_eq_true', Bool.or_eq_false_iff, decide_eq_false_iff_not] at hn
    simp [Zm4, hn, e13]
  have := Z17y (tyK n) hk v (nanoF n c i) (hint v (List.mem_of_getElem? hv))
  rw [Zm0] at this
  exact this
 (repeat(first|refine Kq rfl rfl rfl ?_|(refine Z99 ?_; (repeat(first|refine Z9x rfl ?_|refine Z9y ?_)); refine Z9w ?_)|refine Ks ?_|refine Zb1 (fun _ _ => rfl) ?_|refine Z8s ?_|refine Zb2 (fun _ _ => rfl) ?_|refine Kc2 rfl ?_))
 rw [el]
 refine Za6 (fun m F σ' => ∃ i : Nat, F = fset 2 (some (.int .i64 (count : Nat))) (fset 3 (some (.bool nulls)) (fset 4 (some (.iptr (Zmd n))) (fset 5 (some (.iptr (Zrl c))) (fset 9 (some (.iptr [.int .i64 (Zxn c : Nat)])) (fset 10 (some (.iptr (Zxm n.t.kind))) (fset 11 (some (.iptr (Zlz (tyK n)))) (fset 74 (some (.slc 1 (c.ints.map (.int .i64)) false)) (fset 75 (some (.int .i64 (c.ints.length : Nat))) (fset 76 (some (.int .i64 i)) Z28))))))))) ∧ σ = σ' ∧ i ≤ c.ints.length ∧ (∀ (j : Nat) v, j < i → c.ints[j]? = some v → Z17x (tyK n) v (nanoF n c j) = true) ∧ m = c.ints.length - i) (n := c.ints.length)
  ⟨0, rfl, rfl, by omega, fun j v h => by omega, by omega⟩ ?_
 rintro m F σ' ⟨i, rfl, rfl, hi, hgd, rfl⟩
 (repeat(first|refine Kq rfl rfl rfl ?_|(refine Z99 ?_; (repeat(first|refine Z9x rfl ?_|refine Z9y ?_)); refine Z9w ?_)|refine Ks ?_|refine Zb1 (fun _ _ => rfl) ?_))
 refine Za2 (p := (i : Int) < (c.ints.length : Nat)) rfl (fun h3 => ?_) (fun h3 => ?_)
 ·have hil : i < c.ints.length := by omega
  have hx := Zrn (f := Z0.int .i64) hil
  have hvi := List.getElem?_eq_getElem hil
  have hn := hNu i c.ints[i] hvi
  have hnx : Z17x (tyK n) c.ints[i] (nanoF n c i) = true → ∀ (j : Nat) v, j < i + 1 → c.ints[j]? = some v → Z17x (tyK n) v (nanoF n c j) = true := fun h j v hj hv => by
   by_cases e : j = i
   ·subst e
    rw [hvi] at hv
    cases hv
    exact h
   ·exact hgd j v (by omega) hv
  have hbad : Z17x (tyK n) c.ints[i] (nanoF n c i) = false → wrongF n c count nulls = 2 := fun h => Z182 hSz fun hh => by rw [hh i _ hvi] at h; cases h
  generalize c.ints[i] = v at hx hn hnx hbad
  (repeat(first|refine Kq rfl rfl rfl ?_|refine Ks ?_|refine Zb1 (fun _ _ => rfl) ?_|refine Z8s ?_|refine Zb2 (fun _ _ => rfl) ?_))
  refine Z9d rfl (by omega) hx ?_
  (repeat(first|refine Kq rfl rfl rfl ?_|(refine Z99 ?_; (repeat(first|refine Z9x rfl ?_|refine Z9y ?_)); refine Z9w ?_)|refine Ks ?_|refine Zb1 (fun _ _ => rfl) ?_))
  refine Za2 (p := n.t.kind = 9) rfl (fun k9 => ?_) (fun k9 => ?_)
  ·have hin : i < c.ns.length := by
    rw [k9] at s_ints s_ns
    simp [intF, Zmm] at s_ints s_ns
    omega
   have hy := Zrn (f := Z0.int .i64) hin
   have e9 : nanoF n c i = c.ns[i] := by rw [nanoF, if_pos k9, List.getD_eq_getElem?_getD, List.getElem?_eq_getElem hin, Option.getD_some]
   rw [e9] at hn hnx hbad
   generalize c.ns[i] = y at hy hn hnx hbad
   generalize Z17x (tyK n) v y = z at hn hnx hbad
   (repeat(first|refine Kq rfl rfl rfl ?_|refine Zb1 (fun _ _ => rfl) ?_))
   refine Z9d rfl (by omega) hy ?_
   (repeat(first|refine Kq rfl rfl rfl ?_|(refine Z99 ?_; (repeat(first|refine Z9x rfl ?_|refine Z9y ?_)); refine Z9w ?_)|refine Ks ?_|refine Zb1 (fun _ _ => rfl) ?_))
   refine Z9v rfl (hn _) ?_
   cases z with
   | false =>
    (repeat(first|refine Kq rfl rfl rfl ?_|(refine Z99 ?_; (repeat(first|refine Z9x rfl ?_|refine Z9y ?_)); refine Z9w ?_)|refine Ks ?_|refine Zb1 (fun _ _ => rfl) ?_|refine Kc1 rfl ?_))
    refine Z8o ?_
    rw [hbad rfl]
    exact Kar rfl ⟨rfl, rfl⟩
   | true =>
    (repeat(first|refine Kq rfl rfl rfl ?_|(refine Z99 ?_; (repeat(first|refine Z9x rfl ?_|refine Z9y ?_)); refine Z9w ?_)|refine Zb2 (fun _ _ => rfl) ?_|refine Kc2 rfl ?_))
    refine Zb4 ?_
    repeat refine Kq rfl rfl rfl ?_
    rw [Kwr i (by omega)]
    (refine Z99 ?_; (repeat(first|refine Z9x rfl ?_|refine Z9y ?_)); refine Z9w ?_)
    exact ⟨_, c.ints.length - (i + 1), HSub.refl _, ⟨i + 1, rfl, rfl, by omega, hnx rfl, rfl⟩, by omega⟩
  ·have e9 : nanoF n c i = 0 := by rw [nanoF, if_neg k9]
   rw [e9] at hn hnx hbad
   generalize Z17x (tyK n) v 0 = z at hn hnx hbad
   (repeat(first|refine Kq rfl rfl rfl ?_|refine Ks ?_|refine Zb1 (fun _ _ => rfl) ?_|refine Zb2 (fun _ _ => rfl) ?_))
   refine Z9v rfl (hn _) ?_
   cases z with
   | false =>
    (repeat(first|refine Kq rfl rfl rfl ?_|(refine Z99 ?_; (repeat(first|refine Z9x rfl ?_|refine Z9y ?_)); refine Z9w ?_)|refine Ks ?_|refine Zb1 (fun _ _ => rfl) ?_|refine Kc1 rfl ?_))
    refine Z8o ?_
    rw [hbad rfl]
    exact Kar rfl ⟨rfl, rfl⟩
   | true =>
    (repeat(first|refine Kq rfl rfl rfl ?_|(refine Z99 ?_; (repeat(first|refine Z9x rfl ?_|refine Z9y ?_)); refine Z9w ?_)|refine Zb2 (fun _ _ => rfl) ?_|refine Kc2 rfl ?_))
    refine Zb4 ?_
    repeat refine Kq rfl rfl rfl ?_
    rw [Kwr i (by omega)]
    (refine Z99 ?_; (repeat(first|refine Z9x rfl ?_|refine Z9y ?_)); refine Z9w ?_)
    exact ⟨_, c.ints.length - (i + 1), HSub.refl _, ⟨i + 1, rfl, rfl, by omega, hnx rfl, rfl⟩, by omega⟩
 have hI : ∀ (j : Nat) v, c.ints[j]? = some v → Z17x (tyK n) v (nanoF n c j) = true := fun j v hv => hgd j v (by have := (List.getElem?_eq_some_iff.1 hv).1; omega) hv
 (repeat(first|refine Kq rfl rfl rfl ?_|(refine Z99 ?_; (repeat(first|refine Z9x rfl ?_|refine Z9y ?_)); refine Z9w ?_)|refine Ks ?_|refine Zb1 (fun _ _ => rfl) ?_|refine Z8s ?_|refine Zb3 (fun _ _ => rfl) ?_))
 rw [el]
 refine Za6 (fun m F σ' => ∃ i : Nat, F = fset 2 (some (.int .i64 (count : Nat))) (fset 3 (some (.bool nulls)) (fset 4 (some (.iptr (Zmd n))) (fset 5 (some (.iptr (Zrl c))) (fset 9 (some (.iptr [.int .i64 (Zxn c : Nat)])) (fset 10 (some (.iptr (Zxm n.t.kind))) (fset 11 (some (.iptr (Zlz (tyK n)))) (fset 95 (some (.slc 1 (c.texts.map fun b => Z0.slc 1 (bytes b) false) false)) (fset 96 (some (.int .i64 (c.texts.length : Nat))) (fset 97 (some (.int .i64 i)) Z28))))))))) ∧ σ = σ' ∧ i ≤ c.texts.length ∧ (∀ (j : Nat) b, j < i → c.texts[j]? = some b → vchk (tyK n) (.mk false 0 0 b []) = 0) ∧ m = c.texts.length - i) (n := c.texts.length)
  ⟨0, rfl, rfl, by omega, fun j v h => by omega, by omega⟩ ?_
 rintro m F σ' ⟨i, rfl, rfl, hi, hgd, rfl⟩
 (repeat(first|refine Kq rfl rfl rfl ?_|(refine Z99 ?_; (repeat(first|refine Z9x rfl ?_|refine Z9y ?_)); refine Z9w ?_)|refine Ks ?_|refine Zb1 (fun _ _ => rfl) ?_))
 refine Za2 (p := (i : Int) < (c.texts.length : Nat)) rfl (fun h3 => ?_) (fun h3 => ?_)
 ·have hil : i < c.texts.length := by omega
  have hx := Zrn (f := fun b => Z0.slc 1 (bytes b) false) hil
  have hvi := List.getElem?_eq_getElem hil
  have hn := hTx c.texts[i] (List.getElem_mem hil)
  have hnx : vchk (tyK n) (.mk false 0 0 c.texts[i] []) = 0 → ∀ (j : Nat) b, j < i + 1 → c.texts[j]? = some b → vchk (tyK n) (.mk false 0 0 b []) = 0 := fun h j v hj hv => by
   by_cases e : j = i
   ·subst e
    rw [hvi] at hv
    cases hv
    exact h
   ·exact hgd j v (by omega) hv
  have hbad : vchk (tyK n) (.mk false 0 0 c.texts[i] []) ≠ 0 → wrongF n c count nulls = 2 := fun h => Z183 hSz hI fun hh => h (hh _ (List.getElem_mem hil))
  generalize c.texts[i] = v at hx hn hnx hbad
  generalize vchk (tyK n) (.mk false 0 0 v []) = z at hn hnx hbad
  (repeat(first|refine Ks ?_|refine Zb1 (fun _ _ => rfl) ?_|refine Z8s ?_|refine Zb2 (fun _ _ => rfl) ?_))
  refine Z9d rfl (by omega) hx ?_
  (repeat(first|refine Kq rfl rfl rfl ?_|(refine Z99 ?_; (repeat(first|refine Z9x rfl ?_|refine Z9y ?_)); refine Z9w ?_)|refine Ks ?_|refine Zb1 (fun _ _ => rfl) ?_))
  refine Z9v rfl (Z1s.args (by
   simp only [Zmh, Vl.null, Vl.i, Vl.n, Vl.b, Vl.kids, Zmg]
   (repeat(first|exact VRle.refl _ | exact Zbf|refine Zbg rfl rfl ?_|refine Zbh rfl ?_|refine Zbe ?_ ?_))) (hn _)) ?_
  (repeat(first|refine Kq rfl rfl rfl ?_|(refine Z99 ?_; (repeat(first|refine Z9x rfl ?_|refine Z9y ?_)); refine Z9w ?_)))
  by_cases hz : z = 0
  ·(rw [decide_eq_false (p := (z : Int) ≠ 0) (by omega)])
   (repeat(first|refine Zb2 (fun _ _ => rfl) ?_|refine Kc2 rfl ?_))
   refine Zb4 ?_
   repeat refine Kq rfl rfl rfl ?_
   rw [Kwr i (by omega)]
   (refine Z99 ?_; (repeat(first|refine Z9x rfl ?_|refine Z9y ?_)); refine Z9w ?_)
   exact ⟨_, c.texts.length - (i + 1), HSub.refl _, ⟨i + 1, rfl, rfl, by omega, hnx hz, rfl⟩, by omega⟩
  ·(rw [decide_eq_true (p := (z : Int) ≠ 0) (by omega)])
   (repeat(first|refine Kq rfl rfl rfl ?_|(refine Z99 ?_; (repeat(first|refine Z9x rfl ?_|refine Z9y ?_)); refine Z9w ?_)|refine Ks ?_|refine Zb1 (fun _ _ => rfl) ?_|refine Kc1 rfl ?_))
   refine Z8o ?_
   rw [hbad hz]
   exact Kar rfl ⟨rfl, rfl⟩
 have hTt : ∀ b ∈ c.texts, vchk (tyK n) (.mk false 0 0 b []) = 0 := fun b hb => by
  obtain ⟨j, hj⟩ := List.getElem?_of_mem hb
  exact hgd j b (by have := (List.getElem?_eq_some_iff.1 hj).1; omega) hj
 (repeat(first|refine Kq rfl rfl rfl ?_|(refine Z99 ?_; (repeat(first|refine Z9x rfl ?_|refine Z9y ?_)); refine Z9w ?_)|refine Ks ?_|refine Zb1 (fun _ _ => rfl) ?_|refine Z8s ?_|refine Zb3 (fun _ _ => rfl) ?_))
 rw [el]
 refine Za6 (fun m F σ' => ∃ i : Nat, F = fset 2 (some (.int .i64 (count : Nat))) (fset 3 (some (.bool nulls)) (fset 4 (some (.iptr (Zmd n))) (fset 5 (some (.iptr (Zrl c))) (fset 9 (some (.iptr [.int .i64 (Zxn c : Nat)])) (fset 10 (some (.iptr (Zxm n.t.kind))) (fset 108 (some (.slc 1 (c.lens.map (.int .i64)) false)) (fset 109 (some (.int .i64 (c.lens.length : Nat))) (fset 110 (some (.int .i64 i)) Z28)))))))) ∧ σ = σ' ∧ i ≤ c.lens.length ∧ (∀ (j : Nat) v, j < i → c.lens[j]? = some v → 0 ≤ v) ∧ m = c.lens.length - i) (n := c.lens.length)
  ⟨0, rfl, rfl, by omega, fun j v h => by omega, by omega⟩ ?_
 rintro m F σ' ⟨i, rfl, rfl, hi, hgd, rfl⟩
 (repeat(first|refine Kq rfl rfl rfl ?_|(refine Z99 ?_; (repeat(first|refine Z9x rfl ?_|refine Z9y ?_)); refine Z9w ?_)|refine Ks ?_|refine Zb1 (fun _ _ => rfl) ?_))
 refine Za2 (p := (i : Int) < (c.lens.length : Nat)) rfl (fun h3 => ?_) (fun h3 => ?_)
 ·have hil : i < c.lens.length := by omega
  have hx := Zrn (f := Z0.int .i64) hil
  have hvi := List.getElem?_eq_getElem hil
  have hnx : 0 ≤ c.lens[i] → ∀ (j : Nat) v, j < i + 1 → c.lens[j]? = some v → 0 ≤ v := fun h j v hj hv => by
   by_cases e : j = i
   ·subst e
    rw [hvi] at hv
    cases hv
    exact h
   ·exact hgd j v (by omega) hv
  have hbad : ¬ 0 ≤ c.lens[i] → wrongF n c count nulls = 2 := fun h => Z184 hSz hI hTt fun hh => h (hh _ (List.getElem_mem hil))
  generalize c.lens[i] = v at hx hnx hbad
  (repeat(first|refine Ks ?_|refine Zb1 (fun _ _ => rfl) ?_|refine Z8s ?_|refine Zb2 (fun _ _ => rfl) ?_))
  refine Z9d rfl (by omega) hx ?_
  (repeat(first|refine Kq rfl rfl rfl ?_|(refine Z99 ?_; (repeat(first|refine Z9x rfl ?_|refine Z9y ?_)); refine Z9w ?_)|refine Ks ?_|refine Zb1 (fun _ _ => rfl) ?_))
  by_cases hz : v < 0
  ·(rw [decide_eq_true (p := v < 0) (by omega)])
   (repeat(first|refine Kq rfl rfl rfl ?_|(refine Z99 ?_; (repeat(first|refine Z9x rfl ?_|refine Z9y ?_)); refine Z9w ?_)|refine Ks ?_|refine Zb1 (fun _ _ => rfl) ?_|refine Kc1 rfl ?_))
   refine Z8o ?_
   rw [hbad (by omega)]
   exact Kar rfl ⟨rfl, rfl⟩
  (rw [decide_eq_false (p := v < 0) (by omega)])
  (repeat(first|refine Zb2 (fun _ _ => rfl) ?_|refine Kc2 rfl ?_))
  refine Zb4 ?_
  repeat refine Kq rfl rfl rfl ?_
  rw [Kwr i (by omega)]
  (refine Z99 ?_; (repeat(first|refine Z9x rfl ?_|refine Z9y ?_)); refine Z9w ?_)
  exact ⟨_, c.lens.length - (i + 1), HSub.refl _, ⟨i + 1, rfl, rfl, by omega, hnx (by omega), rfl⟩, by omega⟩
 have hLt : ∀ v ∈ c.lens, 0 ≤ v := fun b hb => by
  obtain ⟨j, hj⟩ := List.getElem?_of_mem hb
  exact hgd j b (by have := (List.getElem?_eq_some_iff.1 hj).1; omega) hj
 rw [Z185 hSz hI hTt hLt]
 clear hI hTt hLt hTx hNu hgd
 cases nulls with
 | false =>
  by_cases hc : Zxn c = count
  rotate_left
  ·rw [if_pos ⟨rfl, hc⟩]
   (repeat(first|refine Kq rfl rfl rfl ?_|refine Z96 rfl (Kq rfl rfl rfl ?_)|(refine Z99 ?_; (repeat(first|refine Z9x rfl ?_|refine Z9y ?_)); refine Z9w ?_)|refine Ks ?_|refine Zb1 (fun _ _ => rfl) ?_|refine Z8s ?_|refine Zb3 (fun _ _ => rfl) ?_))
   (rw [decide_eq_true (p := ((Zxn c : Nat) : Int) ≠ (count : Nat)) (by omega)])
   (repeat(first|refine Kq rfl rfl rfl ?_|(refine Z99 ?_; (repeat(first|refine Z9x rfl ?_|refine Z9y ?_)); refine Z9w ?_)|refine Ks ?_|refine Zb1 (fun _ _ => rfl) ?_|refine Kc1 rfl ?_))
   refine Z8o ?_
   exact Kar rfl ⟨rfl, rfl⟩
  rw [if_neg (fun h => h.2 hc)]
  cases hl : lenF n.t.kind with
  | false =>
   rw [if_neg (by simp), Zxm, hl]
   (repeat(first|refine Kq rfl rfl rfl ?_|refine Z96 rfl (Kq rfl rfl rfl ?_)|(refine Z99 ?_; (repeat(first|refine Z9x rfl ?_|refine Z9y ?_)); refine Z9w ?_)|refine Ks ?_|refine Zb1 (fun _ _ => rfl) ?_|refine Z8s ?_|refine Zb3 (fun _ _ => rfl) ?_))
   (rw [decide_eq_false (p := ((Zxn c : Nat) : Int) ≠ (count : Nat)) (by omega)])
   (repeat(first|refine Kq rfl rfl rfl ?_|refine Z97 rfl ?_|(refine Z99 ?_; (repeat(first|refine Z9x rfl ?_|refine Z9y ?_)); refine Z9w ?_)|refine Ks ?_|refine Zb1 (fun _ _ => rfl) ?_|refine Zb2 (fun _ _ => rfl) ?_|refine Kc2 rfl ?_))
   refine Z8o ?_
   exact Kar rfl ⟨rfl, rfl⟩
  | true =>
   rw [Zxm, hl]
   (repeat(first|refine Kq rfl rfl rfl ?_|refine Z96 rfl (Kq rfl rfl rfl ?_)|(refine Z99 ?_; (repeat(first|refine Z9x rfl ?_|refine Z9y ?_)); refine Z9w ?_)|refine Ks ?_|refine Zb1 (fun _ _ => rfl) ?_|refine Z8s ?_|refine Zb3 (fun _ _ => rfl) ?_))
   (rw [decide_eq_false (p := ((Zxn c : Nat) : Int) ≠ (count : Nat)) (by omega)])
   (repeat(first|refine Kq rfl rfl rfl ?_|refine Z96 rfl (Kq rfl rfl rfl ?_)|refine Ks ?_|refine Zb1 (fun _ _ => rfl) ?_|refine Kc2 rfl ?_))
   refine Z96 rfl (Z9v rfl (hAsk _) ?_)
   (repeat(first|refine Kq rfl rfl rfl ?_|refine Z96 rfl (Kq rfl rfl rfl ?_)|(refine Z99 ?_; (repeat(first|refine Z9x rfl ?_|refine Z9y ?_)); refine Z9w ?_)))
   by_cases ha : 16384 < askF n.t.kind c 0
   ·rw [if_pos ⟨rfl, ha⟩]
    (rw [decide_eq_true (p := (16384 : Int) < (askF n.t.kind c 0 : Nat)) (by omega)])
    (repeat(first|refine Kq rfl rfl rfl ?_|(refine Z99 ?_; (repeat(first|refine Z9x rfl ?_|refine Z9y ?_)); refine Z9w ?_)|refine Ks ?_|refine Zb1 (fun _ _ => rfl) ?_|refine Kc1 rfl ?_))
    refine Z8o ?_
    exact Kar rfl ⟨rfl, rfl⟩
   ·rw [if_neg (fun h => ha h.2)]
    (rw [decide_eq_false (p := (16384 : Int) < (askF n.t.kind c 0 : Nat)) (by omega)])
    (repeat(first|refine Kq rfl rfl rfl ?_|(refine Z99 ?_; (repeat(first|refine Z9x rfl ?_|refine Z9y ?_)); refine Z9w ?_)|refine Ks ?_|refine Zb1 (fun _ _ => rfl) ?_|refine Zb2 (fun _ _ => rfl) ?_|refine Kc2 rfl ?_))
    refine Z8o ?_
    exact Kar rfl ⟨rfl, rfl⟩
 | true =>
  rw [if_neg (fun h => by cases h.1)]
  cases hl : lenF n.t.kind with
  | false =>
   rw [if_neg (by simp), Zxm, hl]
   (repeat(first|refine Kq rfl rfl rfl ?_|refine Z97 rfl ?_|(refine Z99 ?_; (repeat(first|refine Z9x rfl ?_|refine Z9y ?_)); refine Z9w ?_)|refine Ks ?_|refine Zb1 (fun _ _ => rfl) ?_|refine Z8s ?_|refine Zb2 (fun _ _ => rfl) ?_|refine Zb3 (fun _ _ => rfl) ?_|refine Kc2 rfl ?_))
   refine Z8o ?_
   exact Kar rfl ⟨rfl, rfl⟩
  | true =>
   rw [Zxm, hl]
   (repeat(first|refine Kq rfl rfl rfl ?_|refine Z96 rfl (Kq rfl rfl rfl ?_)|refine Z97 rfl ?_|(refine Z99 ?_; (repeat(first|refine Z9x rfl ?_|refine Z9y ?_)); refine Z9w ?_)|refine Ks ?_|refine Zb1 (fun _ _ => rfl) ?_|refine Z8s ?_|refine Zb3 (fun _ _ => rfl) ?_|refine Kc2 rfl ?_))
   refine Z96 rfl (Z9v rfl (hAsk _) ?_)
   (repeat(first|refine Kq rfl rfl rfl ?_|refine Z96 rfl (Kq rfl rfl rfl ?_)|(refine Z99 ?_; (repeat(first|refine Z9x rfl ?_|refine Z9y ?_)); refine Z9w ?_)))
   by_cases ha : 16384 < askF n.t.kind c 0
   ·rw [if_pos ⟨rfl, ha⟩]
    (rw [decide_eq_true (p := (16384 : Int) < (askF n.t.kind c 0 : Nat)) (by omega)])
    (repeat(first|refine Kq rfl rfl rfl ?_|(refine Z99 ?_; (repeat(first|refine Z9x rfl ?_|refine Z9y ?_)); refine Z9w ?_)|refine Ks ?_|refine Zb1 (fun _ _ => rfl) ?_|refine Kc1 rfl ?_))
    refine Z8o ?_
    exact Kar rfl ⟨rfl, rfl⟩
   ·rw [if_neg (fun h => ha h.2)]
    (rw [decide_eq_false (p := (16384 : Int) < (askF n.t.kind c 0 : Nat)) (by omega)])
    (repeat(first|refine Kq rfl rfl rfl ?_|(refine Z99 ?_; (repeat(first|refine Z9x rfl ?_|refine Z9y ?_)); refine Z9w ?_)|refine Ks ?_|refine Zb1 (fun _ _ => rfl) ?_|refine Zb2 (fun _ _ => rfl) ?_|refine Kc2 rfl ?_))
    refine Z8o ?_
    exact Kar rfl ⟨rfl, rfl⟩
end Go.Abs
namespace Go.Abs
open Go Go.Proofs
mutual
def pcon (l : List Nd) (at_ c : Nat) : Vl → Col
 | .mk nu i n b ks =>
  if nu = true then (if c = at_ then Zry false col0 else col0)
  else appC (if c = at_ then addC (Zrz l at_) (.mk nu i n b ks) col0 else col0) (pconL l at_ c i 0 ks)
def pconL (l : List Nd) (at_ c : Nat) (i : Int) (j : Nat) : List Vl → Col
 | [] => col0
 | v :: vs => appC (pcon l (kidC l at_ (Zrz l at_) i j) c v) (pconL l at_ c i (j + 1) vs)
end
def Z187 (l : List Nd) (c : Nat) : List Vl → Col
 | [] => col0
 | v :: vs => appC (pcon l 0 c v) (Z187 l c vs)
theorem Z188 (a : Col) : appC a col0 = a := by simp [appC, col0]
theorem Z189 (a b c : Col) : appC (appC a b) c = appC a (appC b c) := by simp [appC]
structure Nok (l : List Nd) (i : Nat) (n : Nd) : Prop where
 len : n.kids.length = n.t.kids.length
 kids : ∀ j x, n.kids[j]? = some x → ∃ u m, n.t.kids[j]? = some u ∧ x = i + 1 + cntL (n.t.kids.take j) ∧ l[x]? = some m ∧ m.t = u ∧ m.parent = (i : Int) ∧ m.deep = n.deep + 1
structure Par (l : List Nd) (i : Nat) (n : Nd) : Prop where
 par : ∃ (p : Nat) (q : Nd) (j : Nat), n.parent = (p : Int) ∧ p < i ∧ l[p]? = some q ∧ q.kids[j]? = some i ∧ n.deep = q.deep + 1
structure TreeN (l : List Nd) : Prop where
 nok : ∀ i n, l[i]? = some n → Nok l i n
 par : ∀ i n, l[i]? = some n → 0 < i → Par l i n
 root : ∀ n, l[0]? = some n → n.parent = -1 ∧ n.deep = 1
theorem Z18a (t : Ty) (a : Nat) (p : Int) (d : Nat) (rest : List Nd) : (Zma a p d t ++ rest)[0]? = some ⟨t, Zm9 (a + 1) t.kids, p, d⟩ := by
 obtain ⟨k, ns, ks, l, pr, s⟩ := t
 rw [Zma]; rfl
theorem Z18b (k : Int) (ns : List (List UInt8)) (ks : List Ty) (le pr sc : Int) (pre post : List Nd) (p : Int) (d j : Nat) (u : Ty) (hu : ks[j]? = some u) :
  ∃ pre' post', pre ++ (Zma pre.length p d (.mk k ns ks le pr sc) ++ post) = pre' ++ (Zma pre'.length (pre.length : Int) (d + 1) u ++ post') ∧ pre'.length = pre.length + 1 + cntL (ks.take j) := by
 obtain ⟨post', hp⟩ := Zs2 ks (pre.length + 1) j (pre.length : Int) (d + 1) u hu
 have hlen : (Zmb (pre.length + 1) (pre.length : Int) (d + 1) (ks.take j)).length = cntL (ks.take j) := Zny _ _ _ _
 refine ⟨pre ++ (⟨.mk k ns ks le pr sc, Zm9 (pre.length + 1) ks, p, d⟩ :: Zmb (pre.length + 1) (pre.length : Int) (d + 1) (ks.take j)), post' ++ post, ?_, ?_⟩
 ·have hl2 : (pre ++ ((⟨.mk k ns ks le pr sc, Zm9 (pre.length + 1) ks, p, d⟩ : Nd) :: Zmb (pre.length + 1) (pre.length : Int) (d + 1) (ks.take j))).length = pre.length + 1 + cntL (ks.take j) := by
   rw [List.length_append, List.length_cons, hlen]; omega
  rw [hl2, Zma, hp]
  simp [List.append_assoc]
 ·rw [List.length_append, List.length_cons, hlen]; omega
theorem Z18c : ∀ (t : Ty), 1 ≤ cnt t := fun t => by
 obtain ⟨k, ns, ks, l, pr, s⟩ := t
 rw [cnt]; omega
theorem Z18d : ∀ (ks : List Ty) (a i : Nat), a ≤ i → i < a + cntL ks → ∃ j u, ks[j]? = some u ∧ a + cntL (ks.take j) ≤ i ∧ i < a + cntL (ks.take j) + cnt u
 | [], a, i, h1, h2 => by rw [cntL] at h2; omega
 | t :: ts, a, i, h1, h2 => by
  rw [cntL] at h2
  by_cases h : i < a + cnt t
  ·exact ⟨0, t, rfl, by simp [cntL]; exact h1, by simpa [cntL] using h⟩
  ·obtain ⟨j, u, e1, e2, e3⟩ := Z18d ts (a + cnt t) i (by omega) (by omega)
   exact ⟨j + 1, u, by simpa using e1, by rw [List.take_succ_cons, cntL]; omega, by rw [List.take_succ_cons, cntL]; omega⟩
theorem Z18e : ∀ (t : Ty) (pre post : List Nd) (p : Int) (d i : Nat) (n : Nd), pre.length ≤ i → i < pre.length + cnt t → (pre ++ (Zma pre.length p d t ++ post))[i]? = some n →
  Nok (pre ++ (Zma pre.length p d t ++ post)) i n ∧ (i = pre.length → n.parent = p ∧ n.deep = d) ∧ (pre.length < i → Par (pre ++ (Zma pre.length p d t ++ post)) i n) := by
 refine Ty.ind fun k ns ks le pr sc ih pre post p d i n h1 h2 hn => ?_
 have hroot : (pre ++ (Zma pre.length p d (.mk k ns ks le pr sc) ++ post))[pre.length]? = some ⟨.mk k ns ks le pr sc, Zm9 (pre.length + 1) ks, p, d⟩ := by
  rw [List.getElem?_append_right (Nat.le_refl _), Nat.sub_self, Z18a]; rfl
 have hkid : ∀ j x u, (Zm9 (pre.length + 1) ks)[j]? = some x → ks[j]? = some u → x = pre.length + 1 + cntL (ks.take j) ∧ (pre ++ (Zma pre.length p d (.mk k ns ks le pr sc) ++ post))[x]? = some ⟨u, Zm9 (x + 1) u.kids, (pre.length : Int), d + 1⟩ := by
  intro j x u hx hu
  have hx' := Zs1 _ _ _ _ hx
  obtain ⟨pre', post', e, el⟩ := Z18b k ns ks le pr sc pre post p d j u hu
  refine ⟨hx', ?_⟩
  have e2 : x = pre'.length := by omega
  rw [e, e2, List.getElem?_append_right (Nat.le_refl _), Nat.sub_self, Z18a]
 by_cases hi : i = pre.length
 ·subst hi
  rw [hroot] at hn
  cases hn
  refine ⟨⟨Zs0 ks _, fun j x hx => ?_⟩, fun _ => ⟨rfl, rfl⟩, fun h => absurd h (by omega)⟩
  have hj : j < ks.length := by
   have := (List.getElem?_eq_some_iff.1 hx).1
   rw [Zs0] at this; exact this
  have hu := List.getElem?_eq_getElem hj
  obtain ⟨a1, a2⟩ := hkid j x _ hx hu
  exact ⟨_, _, hu, a1, a2, rfl, rfl, rfl⟩
 ·rw [cnt] at h2
  obtain ⟨j, u, e1, e2, e3⟩ := Z18d ks (pre.length + 1) i (by omega) (by omega)
  obtain ⟨pre', post', e, el⟩ := Z18b k ns ks le pr sc pre post p d j u e1
  have hx : (Zm9 (pre.length + 1) ks)[j]? = some pre'.length := by
   have hj : j < (Zm9 (pre.length + 1) ks).length := by
    rw [Zs0]; exact (List.getElem?_eq_some_iff.1 e1).1
   rw [List.getElem?_eq_getElem hj]
   have := Zs1 _ _ _ _ (List.getElem?_eq_getElem hj)
   rw [this, el]
  rw [e] at hn hroot ⊢
  obtain ⟨b1, b2, b3⟩ := ih u (List.mem_of_getElem? e1) pre' post' (pre.length : Int) (d + 1) i n (by omega) (by omega) hn
  refine ⟨b1, fun h => absurd h hi, fun _ => ?_⟩
  by_cases h4 : i = pre'.length
  ·obtain ⟨c1, c2⟩ := b2 h4
   exact ⟨⟨pre.length, _, j, c1, by omega, hroot, by rw [h4]; exact hx, c2⟩⟩
  ·exact b3 (by omega)
theorem Z18f (t : Ty) : TreeN (Zmf t) := by
 rw [Zmf]
 split
 ·have h := Z18e t [] [] (-1) 1
  simp only [List.length_nil, List.nil_append, List.append_nil, Nat.zero_add] at h
  have hlt : ∀ {i n}, (Zma 0 (-1) 1 t)[i]? = some n → i < cnt t := fun {i n} hn => by
   have := (List.getElem?_eq_some_iff.1 hn).1
   rw [Zmc] at this; exact this
  exact ⟨fun i n hn => (h i n (by omega) (hlt hn) hn).1, fun i n hn hi => (h i n (by omega) (hlt hn) hn).2.2 hi, fun n hn => (h 0 n (by omega) (hlt hn) hn).2.1 rfl⟩
 ·exact ⟨fun i n hn => by simp at hn, fun i n hn => by simp at hn, fun n hn => by simp at hn⟩
inductive Anc (l : List Nd) (a : Nat) : Nat → Prop
 | refl : Anc l a a
 | step {c p : Nat} {n : Nd} (hc : l[c]? = some n) (hp : n.parent = (p : Int)) (h : Anc l a p) : Anc l a c
theorem TreeN.up {l : List Nd} (h : TreeN l) {i p : Nat} {n : Nd} (hn : l[i]? = some n) (hp : n.parent = (p : Int)) : p < i := by
 by_cases h0 : i = 0
 ·subst h0
  have := (h.root n hn).1
  omega
 ·obtain ⟨⟨p', q, j, e1, e2, _⟩⟩ := h.par i n hn (by omega)
  omega
theorem Anc.le {l : List Nd} (h : TreeN l) {a c : Nat} (ha : Anc l a c) : a ≤ c := by
 induction ha with
 | refl => exact Nat.le_refl _
 | step hc hp _ ih => have := h.up hc hp; omega
theorem Anc.over {l : List Nd} {a x c : Nat} {m : Nd} (hx : l[x]? = some m) (hp : m.parent = (a : Int)) (h : Anc l x c) : Anc l a c := by
 induction h with
 | refl => exact .step hx hp .refl
 | step hc hp' _ ih => exact .step hc hp' ih
theorem Z18g (t : Ty) (i : Int) : ∀ (ks : List Vl) (j m : Nat) (v : Vl), Zmr t i j ks = 0 → ks[m]? = some v → vchk (kidT t i (j + m)) v = 0
 | [], j, m, v, _, h => by simp at h
 | w :: ws, j, m, v, h, hv => by
  rw [Zmr] at h
  split at h
  ·cases h
  ·split at h
   ·rename_i h1; exact absurd h h1
   ·rename_i h1
    cases m with
    | zero => simp only [List.getElem?_cons_zero, Option.some.injEq] at hv; subst hv; simpa using h1
    | succ m =>
     have := Z18g t i ws (j + 1) m v h (by simpa using hv)
     rw [show j + (m + 1) = j + 1 + m by omega]; exact this
theorem Z18h {t : Ty} {i n : Int} {b : List UInt8} {ks : List Vl} (h : vchk t (.mk false i n b ks) = 0) : ownV t i n b ks.length = 0 ∧ Zmr t i 0 ks = 0 := by
 rw [vchk, if_neg (by simp)] at h
 split at h
 ·rename_i h1; exact absurd h h1
 ·rename_i h1; exact ⟨by simpa using h1, h⟩
theorem Z18i {l : List Nd} (hT : TreeN l) {a : Nat} {n : Nd} (hn : l[a]? = some n) (hok : n.t.Ok) {i m : Int} {b : List UInt8} {ks : List Vl} (hv : vchk n.t (.mk false i m b ks) = 0) {j : Nat} {v : Vl} (hj : ks[j]? = some v) :
  ∃ x q, n.kids[Zmq n.t.kind i j]? = some x ∧ kidC l a (Zrz l a) i j = x ∧ l[x]? = some q ∧ q.parent = (a : Int) ∧ q.t = kidT n.t i j ∧ q.t.Ok ∧ vchk q.t v = 0 := by
 obtain ⟨ho, hL⟩ := Z18h hv
 have hjl := (List.getElem?_eq_some_iff.1 hj).1
 obtain ⟨hka, _⟩ := Zqt hok ho hjl
 have hN := hT.nok a n hn
 have hlt : Zmq n.t.kind i j < n.kids.length := by rw [hN.len]; exact hka
 have hx := List.getElem?_eq_getElem hlt
 obtain ⟨u, q, h1, h2, h3, h4, h5, h6⟩ := hN.kids _ _ hx
 have hu : q.t = kidT n.t i j := by rw [kidT, List.getD_eq_getElem?_getD, h1, h4]; rfl
 refine ⟨_, q, hx, ?_, h3, h5, hu, ?_, ?_⟩
 ·rw [Zrz, hn]
  simp only
  rw [kidC, hn]
  simp only
  rw [List.getD_eq_getElem?_getD, hx]; rfl
 ·rw [hu]; exact Zqu hok hka
 ·rw [hu]
  have := Z18g n.t i ks 0 j v hL hj
  rw [Nat.zero_add] at this; exact this
theorem Z18j {t : Ty} (h : Zm8 t = 0) : ∃ n, (Zmf t)[0]? = some n ∧ n.t = t := by
 have := Z18a t 0 (-1) 1 []
 rw [List.append_nil] at this
 rw [Zmf, if_pos h]
 exact ⟨_, this, rfl⟩
theorem Z18k {k : Int} {a b : Col} (ha : a.Good k) (hb : b.Good k) : (appC a b).Good k := by
 obtain ⟨a1, a2, a3, a4⟩ := ha
 obtain ⟨b1, b2, b3, b4⟩ := hb
 constructor <;> simp only [appC, List.length_append, List.count_append] <;> split <;> simp_all
theorem Z18l (k : Int) (w : Vl) : (addC k w col0).here.count true = 1 := by
 unfold addC Zrx Zrw Zry
 (repeat' split) <;> rfl
end Go.Abs
namespace Go.Abs
open Go Go.Proofs
theorem Z18m (n : Nd) : (tyK n).kids.length = n.kids.length := by simp [tyK, Ty.kids]
theorem Z18n {n : Nd} (hkidl : n.kids.length = n.t.kids.length) (hi : intF n.t.kind = true) (v m : Int) : Z17x (tyK n) v m = (if n.t.kind = 13 then decide (0 ≤ v ∧ v < n.t.kids.length) else Zmp n.t.kind n.t.kids.length n.t.prec v m) := by
 rw [Z17x]
 have hk : (tyK n).kind = n.t.kind := rfl
 rw [hk, Z18m, hkidl]
 split
 ·rfl
 ·rename_i k13
  simp only [intF, Bool.not_eq_true', Bool.or_eq_false_iff, decide_eq_false_iff_not] at hi
  obtain ⟨⟨⟨h12, h10⟩, h11⟩, hT⟩ := hi
  have hl : Zm4 n.t.kind = true := by simp [Zm4, h10, h11, h12, k13]
  have e : vchk (tyK n) (.mk false v m [] []) = if Zmp n.t.kind n.t.kids.length n.t.prec v m = true then 0 else 1 := by
   rw [vchk, if_neg (by simp)]
   have hs : ¬ (n.t.kind = 16 ∨ n.t.kind = 17) := fun h => by rcases h with h | h <;> rw [h] at hT <;> cases hT
   have e2 : ownV (tyK n) v m [] ([] : List Vl).length = if Zmp n.t.kind n.t.kids.length n.t.prec v m = true then 0 else 1 := by
    unfold ownV
    rw [hk, Z18m, hkidl, show (tyK n).prec = n.t.prec from rfl, if_neg h10, if_neg h11, if_neg h12, if_neg k13]
    cases Zmp n.t.kind n.t.kids.length n.t.prec v m <;> simp [hs]
   rw [e2]
   cases Zmp n.t.kind n.t.kids.length n.t.prec v m <;> simp [Zmr]
  rw [e]
  cases Zmp n.t.kind n.t.kids.length n.t.prec v m <;> simp
theorem Z18o {n : Nd} {c : Col} {count : Nat} {nulls : Bool} (hkids : n.kids.length ≤ 1000) (htok : n.t.Ok) (hkidl : n.kids.length = n.t.kids.length) (hl : c.here.length ≤ 16384) (hint : ∀ v ∈ c.ints, -9223372036854775808 ≤ v ∧ v ≤ 9223372036854775807)
  (h : wrongF n c count nulls = 0) : Right n c count nulls := by
 by_cases h0 : Z180 n c count
 rotate_left
 ·rw [Z181 h0] at h; cases h
 by_cases h1 : ∀ (i : Nat) v, c.ints[i]? = some v → Z17x (tyK n) v (nanoF n c i) = true
 rotate_left
 ·rw [Z182 h0 h1] at h; cases h
 by_cases h2 : ∀ b ∈ c.texts, vchk (tyK n) (.mk false 0 0 b []) = 0
 rotate_left
 ·rw [Z183 h0 h1 h2] at h; cases h
 by_cases h3 : ∀ v ∈ c.lens, 0 ≤ v
 rotate_left
 ·rw [Z184 h0 h1 h2 h3] at h; cases h
 rw [Z185 h0 h1 h2 h3] at h
 split at h
 ·cases h
 rename_i h4
 split at h
 ·cases h
 rename_i h5
 obtain ⟨s0, s1, s2, s3, s4⟩ := h0
 have hN : c.here.count true = Zxn c := rfl
 refine ⟨Z180.sm ⟨s0, s1, s2, s3, s4⟩ hl, ⟨hint, fun b hb => ?_⟩, ⟨?_, ?_, ?_, ?_⟩, s0, hkids, htok, hkidl, h1, h2, h3, fun e => ?_, fun e => ?_⟩
 ·have ho := (Z18h (h2 b hb)).1
  unfold ownV at ho
  split at ho
  ·cases ho
  ·split at ho
   ·cases ho
   ·rename_i hh
    simp only [not_or, Nat.not_lt] at hh
    exact hh.1
 ·rw [hN]; cases e : Zmm n.t.kind <;> simp [e] at s3 ⊢ <;> omega
 ·rw [hN]
  cases e : Zmm n.t.kind <;> by_cases e1 : n.t.kind = 10 <;> by_cases e2 : n.t.kind = 11 <;> by_cases e3 : n.t.kind = 12 <;> simp [intF, e, e1, e2, e3] at s1 ⊢ <;> omega
 ·rw [hN]; by_cases e : n.t.kind = 9 <;> simp [e] at s2 ⊢ <;> omega
 ·rw [hN]; by_cases e1 : n.t.kind = 10 <;> by_cases e2 : n.t.kind = 11 <;> simp [lenF, e1, e2] at s4 ⊢ <;> omega
 ·by_cases hh : Zxn c = count
  ·exact hh
  ·exact absurd ⟨e, hh⟩ h4
 ·have : ¬ 16384 < askF n.t.kind c 0 := fun hh => h5 ⟨e, hh⟩
  omega
end Go.Abs
namespace Go.Abs
open Go Go.Proofs
structure Tk where
 at_ : List Nat
 he : List Nat
def iterO (f : Tk → Option (List Vl × Tk)) : Nat → Tk → Option (List Vl × Tk)
 | 0, s => some ([], s)
 | n + 1, s => match f s with
  | none => none
  | some (vs, s1) => match iterO f n s1 with
   | none => none
   | some (ws, s2) => some (vs ++ ws, s2)
mutual
def takeT (cols : List Col) (keep : List Bool) : Ty → Nat → Tk → Option (Vl × Tk)
 | .mk k _ ks _ _ _, a, st =>
  match (cols.getD a col0).here[st.at_.getD a 0]? with
  | none => none
  | some false => some (nullV, ⟨st.at_.set a (st.at_.getD a 0 + 1), st.he⟩)
  | some true =>
   if st.at_.getD a 0 < st.he.getD a 0 then none else
   if k = 10 ∨ k = 11 then
    match (cols.getD a col0).lens[st.he.getD a 0]? with
    | none => none
    | some n => match iterO (takeL cols keep ks (a + 1)) n.toNat ⟨st.at_.set a (st.at_.getD a 0 + 1), st.he.set a (st.he.getD a 0 + 1)⟩ with
     | none => none
     | some (vs, s) => some (.mk false 0 0 [] vs, s)
   else if k = 12 then
    match takeS cols keep ks (a + 1) ⟨st.at_.set a (st.at_.getD a 0 + 1), st.he.set a (st.he.getD a 0 + 1)⟩ with
    | none => none
    | some (vs, s) => some (.mk false 0 0 [] vs, s)
   else if k = 13 then
    match (cols.getD a col0).ints[st.he.getD a 0]? with
    | none => none
    | some n => if n < 0 then none else match takeN cols keep ks n.toNat (a + 1) ⟨st.at_.set a (st.at_.getD a 0 + 1), st.he.set a (st.he.getD a 0 + 1)⟩ with
     | none => none
     | some (v, s) => some (.mk false n 0 [] [v], s)
   else if Zmm k = true then
    match (cols.getD a col0).texts[st.he.getD a 0]? with
    | none => none
    | some b => some (.mk false 0 0 b [], ⟨st.at_.set a (st.at_.getD a 0 + 1), st.he.set a (st.he.getD a 0 + 1)⟩)
   else if k = 9 then
    match (cols.getD a col0).ns[st.he.getD a 0]?, (cols.getD a col0).ints[st.he.getD a 0]? with
    | some m, some n => some (.mk false n m [] [], ⟨st.at_.set a (st.at_.getD a 0 + 1), st.he.set a (st.he.getD a 0 + 1)⟩)
    | _, _ => none
   else
    match (cols.getD a col0).ints[st.he.getD a 0]? with
    | none => none
    | some n => some (.mk false n 0 [] [], ⟨st.at_.set a (st.at_.getD a 0 + 1), st.he.set a (st.he.getD a 0 + 1)⟩)
def takeL (cols : List Col) (keep : List Bool) : List Ty → Nat → Tk → Option (List Vl × Tk)
 | [], _, st => some ([], st)
 | t :: ts, a, st => match takeT cols keep t a st with
  | none => none
  | some (v, s1) => match takeL cols keep ts (a + cnt t) s1 with
   | none => none
   | some (vs, s2) => some (v :: vs, s2)
def takeS (cols : List Col) (keep : List Bool) : List Ty → Nat → Tk → Option (List Vl × Tk)
 | [], _, st => some ([], st)
 | t :: ts, a, st =>
  if keep.getD a false = true then
   match takeT cols keep t a st with
   | none => none
   | some (v, s1) => match takeS cols keep ts (a + cnt t) s1 with
    | none => none
    | some (vs, s2) => some (v :: vs, s2)
  else takeS cols keep ts (a + cnt t) st
def takeN (cols : List Col) (keep : List Bool) : List Ty → Nat → Nat → Tk → Option (Vl × Tk)
 | [], _, _, _ => none
 | t :: _, 0, a, st => takeT cols keep t a st
 | t :: ts, i + 1, a, st => takeN cols keep ts i (a + cnt t) st
end
theorem Z18p {cols : List Col} {keep : List Bool} : ∀ {ks : List Ty} {i a : Nat} {st : Tk} {r : Vl × Tk}, takeN cols keep ks i a st = some r → ∃ u, ks[i]? = some u ∧ takeT cols keep u (a + cntL (ks.take i)) st = some r
 | [], i, a, st, r, h => by rw [takeN] at h; cases h
 | t :: ts, 0, a, st, r, h => by
  rw [takeN] at h
  exact ⟨t, rfl, by simpa [cntL] using h⟩
 | t :: ts, i + 1, a, st, r, h => by
  rw [takeN] at h
  obtain ⟨u, h1, h2⟩ := Z18p h
  exact ⟨u, by simpa using h1, by rw [List.take_succ_cons, cntL, ← Nat.add_assoc]; exact h2⟩
theorem Z18q : ∀ (ks : List Ty) (j : Nat) (u : Ty), ks[j]? = some u → cntL (ks.take (j + 1)) = cntL (ks.take j) + cnt u
 | [], j, u, h => by simp at h
 | t :: ts, 0, u, h => by
  simp only [List.getElem?_cons_zero, Option.some.injEq] at h
  subst h
  simp [cntL]
 | t :: ts, j + 1, u, h => by
  rw [List.take_succ_cons, cntL, Z18q ts j u (by simpa using h), List.take_succ_cons, cntL]; omega
def Tk.sz (s : Tk) (n : Nat) : Prop := s.at_.length = n ∧ s.he.length = n
theorem Z18r {f : Tk → Option (List Vl × Tk)} {N : Nat} (hf : ∀ s vs s', f s = some (vs, s') → s.sz N → s'.sz N) : ∀ (n : Nat) (s : Tk) (vs : List Vl) (s' : Tk), iterO f n s = some (vs, s') → s.sz N → s'.sz N
 | 0, s, vs, s', h, hs => by simp only [iterO, Option.some.injEq, Prod.mk.injEq] at h; rw [← h.2]; exact hs
 | n + 1, s, vs, s', h, hs => by
  simp only [iterO] at h
  split at h
  ·cases h
  ·rename_i v s1 h1
   split at h
   ·cases h
   ·rename_i w s2 h2
    simp only [Option.some.injEq, Prod.mk.injEq] at h
    rw [← h.2]
    exact Z18r hf n s1 w s2 h2 (hf s v s1 h1 hs)
theorem Z18s (cols : List Col) (keep : List Bool) (N : Nat) : ∀ (t : Ty) (a : Nat) (s : Tk) (v : Vl) (s' : Tk), takeT cols keep t a s = some (v, s') → s.sz N → s'.sz N := by
 refine Ty.ind fun k ns ks le pr sc ih a s v s' h hs => ?_
 have hL : ∀ (ks : List Ty), (∀ t ∈ ks, ∀ (a : Nat) (s : Tk) (v : Vl) (s' : Tk), takeT cols keep t a s = some (v, s') → s.sz N → s'.sz N) → ∀ (a : Nat) (s : Tk) (vs : List Vl) (s' : Tk), takeL cols keep ks a s = some (vs, s') → s.sz N → s'.sz N := by
  intro ks
  induction ks with
  | nil => intro _ a s vs s' h hs; simp only [takeL, Option.some.injEq, Prod.mk.injEq] at h; rw [← h.2]; exact hs
  | cons t ts ih2 =>
   intro ht a s vs s' h hs
   simp only [takeL] at h
   split at h
   ·cases h
   ·rename_i v s1 h1
    split at h
    ·cases h
    ·rename_i w s2 h2
     simp only [Option.some.injEq, Prod.mk.injEq] at h
     rw [← h.2]
     exact ih2 (fun t hm => ht t (List.mem_cons_of_mem _ hm)) _ _ _ _ h2 (ht t (by simp) _ _ _ _ h1 hs)
 have hSS : ∀ (ks : List Ty), (∀ t ∈ ks, ∀ (a : Nat) (s : Tk) (v : Vl) (s' : Tk), takeT cols keep t a s = some (v, s') → s.sz N → s'.sz N) → ∀ (a : Nat) (s : Tk) (vs : List Vl) (s' : Tk), takeS cols keep ks a s = some (vs, s') → s.sz N → s'.sz N := by
  intro ks
  induction ks with
  | nil => intro _ a s vs s' h hs; simp only [takeS, Option.some.injEq, Prod.mk.injEq] at h; rw [← h.2]; exact hs
  | cons t ts ih2 =>
   intro ht a s vs s' h hs
   simp only [takeS] at h
   split at h
   ·split at h
    ·cases h
    ·rename_i v s1 h1
     split at h
     ·cases h
     ·rename_i w s2 h2
      simp only [Option.some.injEq, Prod.mk.injEq] at h
      rw [← h.2]
      exact ih2 (fun t hm => ht t (List.mem_cons_of_mem _ hm)) _ _ _ _ h2 (ht t (by simp) _ _ _ _ h1 hs)
   ·exact ih2 (fun t hm => ht t (List.mem_cons_of_mem _ hm)) _ _ _ _ h hs
 have h2 : (⟨s.at_.set a (s.at_.getD a 0 + 1), s.he.set a (s.he.getD a 0 + 1)⟩ : Tk).sz N := ⟨by rw [List.length_set]; exact hs.1, by rw [List.length_set]; exact hs.2⟩
 rw [takeT] at h
 split at h
 ·cases h
 ·simp only [Option.some.injEq, Prod.mk.injEq] at h
  rw [← h.2]
  exact ⟨by rw [List.length_set]; exact hs.1, hs.2⟩
 ·split at h
  ·cases h
  split at h
  ·split at h
   ·cases h
   ·split at h
    ·cases h
    ·rename_i h3
     simp only [Option.some.injEq, Prod.mk.injEq] at h
     rw [← h.2]
     exact Z18r (fun s vs s' h hs => hL ks ih _ _ _ _ h hs) _ _ _ _ h3 h2
  split at h
  ·split at h
   ·cases h
   ·rename_i h3
    simp only [Option.some.injEq, Prod.mk.injEq] at h
    rw [← h.2]
    exact hSS ks ih _ _ _ _ h3 h2
  split at h
  ·split at h
   ·cases h
   ·split at h
    ·cases h
    ·split at h
     ·cases h
     ·rename_i h3
      simp only [Option.some.injEq, Prod.mk.injEq] at h
      rw [← h.2]
      obtain ⟨u, u1, u2⟩ := Z18p h3
      exact ih u (List.mem_of_getElem? u1) _ _ _ _ u2 h2
  split at h
  ·split at h
   ·cases h
   ·simp only [Option.some.injEq, Prod.mk.injEq] at h
    rw [← h.2]; exact h2
  split at h
  ·split at h
   ·simp only [Option.some.injEq, Prod.mk.injEq] at h
    rw [← h.2]; exact h2
   ·cases h
  ·split at h
   ·cases h
   ·simp only [Option.some.injEq, Prod.mk.injEq] at h
    rw [← h.2]; exact h2
theorem Z18t (cols : List Col) (keep : List Bool) : ∀ (ks : List Ty) (a : Nat) (s : Tk) (vs : List Vl) (s' : Tk), takeL cols keep ks a s = some (vs, s') → vs.length = ks.length
 | [], a, s, vs, s', h => by simp only [takeL, Option.some.injEq, Prod.mk.injEq] at h; rw [← h.1]; rfl
 | t :: ts, a, s, vs, s', h => by
  simp only [takeL] at h
  split at h
  ·cases h
  ·split at h
   ·cases h
   ·rename_i w s2 h2
    simp only [Option.some.injEq, Prod.mk.injEq] at h
    rw [← h.1, List.length_cons, List.length_cons, Z18t cols keep ts _ _ _ _ h2]
end Go.Abs
namespace Go.Abs
open Go Go.Proofs
section
variable {P : Program} {l : List Z2b} {F : Z27} {σ : Zc} {Q : Z27 → Zc → Prop}
theorem Z18u {d : Nat} {args : List Zw} {s b off n : Nat} {x : Z0} {xs ys : List Z0} (h1 : evs F args = some [.arr s b off n, x]) (hg : Zd σ b = some (.cells 1 xs)) (hy : Z1m σ 1 x = some ys) (hle : off + n ≤ xs.length)
  {σ' : Zc} (hs : Ze σ b (.cells 1 (xs.take off ++ ys.take (Nat.min ys.length n) ++ xs.drop (off + Nat.min ys.length n))) = σ') (h : aops P l (fset d (some (.int .i64 (Nat.min ys.length n : Nat))) F) σ' Q) : aops P (⟨some d, .cpy 1, args, none⟩ :: l) F σ Q := by
 subst hs
 exact ⟨_, h1, xs, ys, hg, hy, hle, h⟩
theorem Z18v {d sz : Nat} {lo hi mx : Bool} {args : List Zw} {b off len : Nat} {rest : List Z0} {a e c : Int} {v : Z0} (h1 : evs F args = some (.arr sz b off len :: rest)) (hb : bnds len lo hi mx rest = some (a, e, c)) (h0 : 0 ≤ a ∧ a ≤ e ∧ e ≤ c ∧ c ≤ len)
  (hv : (if a = 0 then some (.arr sz b off e.toNat) else if a < e then some (.arr sz b (off + a.toNat) (e - a).toNat) else some (.slc sz [] false)) = some v)
  (h : aops P l (fset d (some v) F) σ Q) : aops P (⟨some d, .slc sz lo hi mx, args, none⟩ :: l) F σ Q :=
 Kq h1 (by simp only [Z1r, asub, hb, Option.bind_some]; rw [if_pos ⟨h0, trivial⟩]; exact hv) rfl h
end
attribute [local irreducible] AWp aops KP
theorem andM (n : Nat) (h : n < 4294967296) : intBits .and .u64 (n : Int) 4294967295 = (n : Int) := by
 show IntKind.wrap .u64 ((BitVec.ofInt 64 (n : Int) &&& BitVec.ofInt 64 4294967295).toNat : Int) = _
 have e1 : (BitVec.ofInt 64 4294967295).toNat = 2 ^ 32 - 1 := by decide
 rw [BitVec.toNat_and, BitVec.ofInt_natCast, BitVec.toNat_ofNat, e1, Nat.and_two_pow_sub_one_eq_mod, wu64]
 omega
theorem shrM (n : Nat) (h : n < 4294967296) : Int.fdiv (n : Int) (2 ^ (Nat.min (32 : Int).toNat (IntKind.bits .u64))) = 0 := by
 have e : (2 : Int) ^ (Nat.min (32 : Int).toNat (IntKind.bits .u64)) = 4294967296 := by decide
 rw [e, Int.fdiv_eq_ediv_of_nonneg _ (by omega)]
 omega
theorem Z18w (n : Nat) (h : n < 4294967296) (σ : Zc) : Z1s Try.prog Zfq [.int .u64 1, .int .u64 (n : Int)] σ fun r σ' => r = .tup [.int .u64 0, .int .u64 (n : Int)] ∧ σ' = σ := by
 have e1 : intBits .and .u64 1 4294967295 = 1 := andM 1 (by omega)
 have e2 := shrM 1 (by omega)
 have e3 := andM n h
 have e4 := shrM n h
 have e5 := shrM 0 (by omega)
 have u : ∀ x : Int, 0 ≤ x → x < 18446744073709551616 → IntKind.wrap .u64 x = x := fun x h1 h2 => by rw [wu64]; omega
 have a0 : intBits .and .u64 0 4294967295 = 0 := andM 0 (by omega)
 refine Z94 rfl Z17s (Nat.le_of_ble_eq_true rfl) ?_
 refine Za1 ?_
 repeat refine Kq rfl rfl rfl ?_
 (refine Z99 ?_; (repeat(first|refine Z9x rfl ?_|refine Z9y ?_)); refine Z9w ?_)
 refine Za1 ?_
 repeat refine Kq rfl rfl rfl ?_
 rw [e1]
 (refine Z99 ?_; (repeat(first|refine Z9x rfl ?_|refine Z9y ?_)); refine Z9w ?_)
 refine Za1 ?_
 repeat refine Kq rfl rfl rfl ?_
 rw [show Int.fdiv 1 (2 ^ (Nat.min (32 : Int).toNat (IntKind.bits .u64))) = 0 from e2]
 (refine Z99 ?_; (repeat(first|refine Z9x rfl ?_|refine Z9y ?_)); refine Z9w ?_)
 refine Za1 ?_
 repeat refine Kq rfl rfl rfl ?_
 rw [e3]
 (refine Z99 ?_; (repeat(first|refine Z9x rfl ?_|refine Z9y ?_)); refine Z9w ?_)
 refine Za1 ?_
 repeat refine Kq rfl rfl rfl ?_
 rw [e4]
 (refine Z99 ?_; (repeat(first|refine Z9x rfl ?_|refine Z9y ?_)); refine Z9w ?_)
 refine Za1 ?_
 repeat refine Kq rfl rfl rfl ?_
 rw [u (1 * (n : Int)) (by omega) (by omega), Int.one_mul]
 (refine Z99 ?_; (repeat(first|refine Z9x rfl ?_|refine Z9y ?_)); refine Z9w ?_)
 refine Za1 ?_
 repeat refine Kq rfl rfl rfl ?_
 rw [e4, Int.zero_mul, u 0 (by omega) (by omega), u (0 + 0) (by omega) (by omega)]
 (refine Z99 ?_; (repeat(first|refine Z9x rfl ?_|refine Z9y ?_)); refine Z9w ?_)
 refine Za1 ?_
 repeat refine Kq rfl rfl rfl ?_
 rw [show intBits .and .u64 (0 + 0) 4294967295 = 0 from a0]
 (refine Z99 ?_; (repeat(first|refine Z9x rfl ?_|refine Z9y ?_)); refine Z9w ?_)
 refine Za1 ?_
 repeat refine Kq rfl rfl rfl ?_
 rw [show Int.fdiv (0 + 0) (2 ^ (Nat.min (32 : Int).toNat (IntKind.bits .u64))) = 0 from e5]
 (refine Z99 ?_; (repeat(first|refine Z9x rfl ?_|refine Z9y ?_)); refine Z9w ?_)
 refine Za1 ?_
 repeat refine Kq rfl rfl rfl ?_
 rw [Int.mul_zero, u 0 (by omega) (by omega), u (0 + 0) (by omega) (by omega)]
 (refine Z99 ?_; (repeat(first|refine Z9x rfl ?_|refine Z9y ?_)); refine Z9w ?_)
 refine Za1 ?_
 repeat refine Kq rfl rfl rfl ?_
 rw [show Int.fdiv (0 + 0) (2 ^ (Nat.min (32 : Int).toNat (IntKind.bits .u64))) = 0 from e5, Int.mul_zero, u 0 (by omega) (by omega), u (0 + 0) (by omega) (by omega), u (0 + 0 + 0) (by omega) (by omega)]
 (refine Z99 ?_; (repeat(first|refine Z9x rfl ?_|refine Z9y ?_)); refine Z9w ?_)
 refine Za1 ?_
 repeat refine Kq rfl rfl rfl ?_
 rw [u (1 * (n : Int)) (by omega) (by omega), Int.one_mul]
 (refine Z99 ?_; (repeat(first|refine Z9x rfl ?_|refine Z9y ?_)); refine Z9w ?_)
 refine Z8o ?_
 exact Kar rfl ⟨rfl, rfl⟩
theorem c_Mul (n : Nat) (h : n < 4294967296) (σ : Zc) : Z1s Try.prog Zfb [.int .u64 1, .int .u64 (n : Int)] σ fun r σ' => r = .tup [.int .u64 0, .int .u64 (n : Int)] ∧ σ' = σ := by
 refine Z94 rfl Z17o (Nat.le_of_ble_eq_true rfl) ?_
 (repeat(first|refine Kq rfl rfl rfl ?_|(refine Z99 ?_; (repeat(first|refine Z9x rfl ?_|refine Z9y ?_)); refine Z9w ?_)|refine Ks ?_|refine Zb1 (fun _ _ => rfl) ?_|refine Zb2 (fun _ _ => rfl) ?_|refine Kc2 rfl ?_))
 refine Z9v rfl (Z18w n h _) ?_
 (repeat(first|refine Kq rfl rfl rfl ?_|(refine Z99 ?_; (repeat(first|refine Z9x rfl ?_|refine Z9y ?_)); refine Z9w ?_)|refine Ks ?_|refine Zb1 (fun _ _ => rfl) ?_))
 refine Z8o ?_
 exact Kar rfl ⟨rfl, rfl⟩
def trues (k n : Nat) : List Z0 := List.replicate k (.bool true) ++ List.replicate (n - k) (.bool false)
theorem Z18x {k n : Nat} (h : k ≤ n) : (trues k n).length = n := by
 rw [trues, List.length_append, List.length_replicate, List.length_replicate]; omega
theorem Z18y {k m n : Nat} (h : k + m ≤ n) (hm : m ≤ k) : (trues k n).take k ++ ((trues k n).take k).take m ++ (trues k n).drop (k + m) = trues (k + m) n := by
 have e1 : (trues k n).take k = List.replicate k (.bool true) := by
  rw [trues, List.take_append_of_le_length (by rw [List.length_replicate]; omega), List.take_of_length_le (by rw [List.length_replicate]; omega)]
 have e2 : (trues k n).drop (k + m) = List.replicate (n - (k + m)) (.bool false) := by
  rw [trues, List.drop_append, List.drop_eq_nil_of_le (by rw [List.length_replicate]; omega), List.length_replicate, List.drop_replicate, List.nil_append]
  congr 1
  omega
 rw [e1, e2, List.take_replicate, List.replicate_append_replicate, trues]
 congr 2
 omega
theorem Z18z (n : Nat) (h1 : 1 ≤ n) (hn : n ≤ 1000000) (f : Bool) (σ : Zc) : Z1s Try.prog Ze9 [.slc 1 [.bool true] f, .int .i64 (n : Int)] σ fun r σ' => r = .slc 1 (List.replicate n (.bool true)) false ∧ σ' = σ := by
 refine Z94 rfl Z17n (Nat.le_of_ble_eq_true rfl) ?_
 (repeat(first|refine Kq rfl rfl rfl ?_|(refine Z99 ?_; (repeat(first|refine Z9x rfl ?_|refine Z9y ?_)); refine Z9w ?_)|refine Ks ?_|refine Zb1 (fun _ _ => rfl) ?_|refine Zb2 (fun _ _ => rfl) ?_|refine Kc2 rfl ?_))
 (rw [decide_eq_false (p := (n : Int) < 0) (by omega)])
 skip
 rw [show IntKind.wrap .u64 (n : Int) = (n : Int) by rw [wu64]; omega, show IntKind.wrap .u64 (([Z0.bool true].length : Nat) : Int) = 1 by rw [wu64]; rfl]
 refine Z9v rfl (c_Mul n (by omega) _) ?_
 (repeat(first|refine Kq rfl rfl rfl ?_|refine Z96 rfl (Kq rfl rfl rfl ?_)|(refine Z99 ?_; (repeat(first|refine Z9x rfl ?_|refine Z9y ?_)); refine Z9w ?_)|refine Ks ?_|refine Zb1 (fun _ _ => rfl) ?_))
 (rw [decide_eq_false (p := (9223372036854775807 : Int) < (n : Int)) (by omega)])
 (repeat(first|refine Kq rfl rfl rfl ?_|refine Ks ?_|refine Zb1 (fun _ _ => rfl) ?_|refine Zb2 (fun _ _ => rfl) ?_|refine Kc2 rfl ?_))
 rw [w64 _ (by omega) (by omega)]
 refine Z9p rfl (Kfi rfl) (by omega) (by omega) (by omega) (by omega) fun b hb => ?_
 rw [Int.toNat_natCast]
 (repeat(first|refine Kq rfl rfl rfl ?_|(refine Z99 ?_; (repeat(first|refine Z9x rfl ?_|refine Z9y ?_)); refine Z9w ?_)|refine Ks ?_|refine Zb1 (fun _ _ => rfl) ?_))
 have hr0 : List.replicate n (Z0.bool false) = trues 0 n := by rw [trues]; simp
 rw [hr0]
 have hl0 := Z18x (Nat.zero_le n)
 have hmin : Nat.min ([Z0.bool true]).length n = 1 := by
  show min 1 n = 1
  omega
 refine Z18u (ys := [.bool true]) rfl Z9a rfl (by rw [hl0]; omega) Z9h ?_
 have e0 : (trues 0 n).take 0 ++ [Z0.bool true].take (Nat.min ([Z0.bool true]).length n) ++ (trues 0 n).drop (0 + Nat.min ([Z0.bool true]).length n) = trues 1 n := by
  rw [hmin, trues, trues]
  simp [List.drop_replicate]
 rw [e0, hmin]
 (repeat(first|refine Kq rfl rfl rfl ?_|(refine Z99 ?_; (repeat(first|refine Z9x rfl ?_|refine Z9y ?_)); refine Z9w ?_)|refine Ks ?_|refine Z8s ?_))
 refine Za6 (fun m F σ' => ∃ k : Nat, F = fset 7 (some (.arr 1 b 0 n)) (fset 8 (some (.int .i64 (k : Nat))) Z28) ∧ (b, Zb.cells 1 (trues k n)) :: σ = σ' ∧ 1 ≤ k ∧ k ≤ n ∧ m = n - k) (n := n - 1)
  ⟨1, rfl, rfl, by omega, by omega, rfl⟩ ?_
 rintro m F σ' ⟨k, rfl, rfl, hk1, hk2, rfl⟩
 have hlk := Z18x hk2
 (repeat(first|refine Kq rfl rfl rfl ?_|(refine Z99 ?_; (repeat(first|refine Z9x rfl ?_|refine Z9y ?_)); refine Z9w ?_)|refine Ks ?_|refine Zb1 (fun _ _ => rfl) ?_))
 refine Za2 (p := (k : Int) < (n : Nat)) rfl (fun h5 => ?_) (fun h5 => ?_)
 ·have hkn : k < n := by omega
  refine Zb2 (fun _ _ => rfl) ?_
  refine Z8s ?_
  refine awp_region ?_
  repeat refine Kq rfl rfl rfl ?_
  refine Z18v (a := (k : Int)) (e := (n : Int)) (c := (n : Int)) rfl rfl ⟨by omega, by omega, by omega, by omega⟩ (by rw [if_neg (by omega), if_pos (by omega)]) ?_
  repeat refine Kq rfl rfl rfl ?_
  refine Z18v (a := 0) (e := (k : Int)) (c := (n : Int)) rfl rfl ⟨by omega, by omega, by omega, by omega⟩ (by rw [if_pos rfl]) ?_
  rw [Int.toNat_natCast, show ((n : Int) - (k : Int)).toNat = n - k by omega]
  have hy : Z1m ((b, Zb.cells 1 (trues k n)) :: σ) 1 (.arr 1 b 0 k) = some ((trues k n).take k) := by
   simp only [Z1m, Z9a]
   rw [if_pos ⟨trivial, by omega⟩]; rfl
  have hm : Nat.min ((trues k n).take k).length (n - k) = min k (n - k) := by
   rw [List.length_take, hlk]
   show min _ _ = _
   omega
  refine Z18u rfl Z9a hy (by omega) Z9h ?_
  rw [hm, show 0 + k = k by omega, Z18y (k := k) (m := min k (n - k)) (by omega) (by omega)]
  repeat refine Kq rfl rfl rfl ?_
  rw [show IntKind.wrap .i64 ((k : Int) + ((min k (n - k) : Nat) : Int)) = ((k + min k (n - k) : Nat) : Int) by rw [w64 _ (by omega) (by omega)]; omega]
  refine Z99 ?_
  refine Za7 (keep := [7, 8]) ?_
  ((repeat(first|refine Z9x rfl ?_|refine Z9y ?_)); refine Z9w ?_)
  exact ⟨_, n - (k + min k (n - k)), HSub.refl _, ⟨k + min k (n - k), rfl, rfl, by omega, by omega, rfl⟩, by omega⟩
 ·obtain rfl : k = n := by omega
  refine Zb3 (fun _ _ => rfl) ?_
  refine Zai (d := 7) (xs := trues k k) (by rw [hlk]; rfl) ?_
  have et : trues k k = List.replicate k (.bool true) := by rw [trues]; simp
  rw [et]
  (refine Za0 (keep := [7]) ?_; ((repeat(first|refine Z9x rfl ?_|refine Z9y ?_)); refine Z9w ?_))
  (repeat(first|refine Kq rfl rfl rfl ?_|(refine Z99 ?_; (repeat(first|refine Z9x rfl ?_|refine Z9y ?_)); refine Z9w ?_)|refine Ks ?_|refine Zb1 (fun _ _ => rfl) ?_))
  refine Z8o ?_
  exact Kar rfl ⟨rfl, rfl⟩
def Whole (l : List Nd) (keep : List Bool) : Prop := ∀ (i : Nat) (n : Nd), l[i]? = some n → ∀ x ∈ n.kids, (keep.getD x false = true → keep.getD i false = true) ∧ (keep.getD i false = true → keep.getD x false = true ∨ n.t.kind = 12)
theorem Z190 (l : List Nd) (hK : Z12x l) (keep : List Bool) (hkl : keep.length = l.length) (hw : Whole l keep) (f g : Bool) (σ : Zc) :
  Z1s Try.prog Zeb [.slc 8 (l.map encN) f, .slc 1 (keep.map .bool) g] σ fun r σ' => r = .bool true ∧ σ' = σ := by
 obtain ⟨hl1, hk1, hk2⟩ := hK
 have hll : (l.map encN).length = l.length := List.length_map ..
 refine Z94 rfl Z17l (Nat.le_of_ble_eq_true rfl) ?_
 (repeat(first|refine Kq rfl rfl rfl ?_|(refine Z99 ?_; (repeat(first|refine Z9x rfl ?_|refine Z9y ?_)); refine Z9w ?_)|refine Ks ?_|refine Zb1 (fun _ _ => rfl) ?_|refine Z8s ?_))
 rw [hll]
 refine Za6 (fun m F σ' => ∃ (i : Nat), F = fset 0 (some (.slc 8 (l.map encN) f)) (fset 1 (some (.slc 1 (keep.map .bool) g)) (fset 9 (some (.int .i64 (l.length : Nat))) (fset 10 (some (.int .i64 i)) Z28))) ∧ σ = σ' ∧ i ≤ l.length ∧ m = l.length - i) (n := l.length)
  ⟨0, rfl, rfl, by omega, by omega⟩ ?_
 rintro m F σ' ⟨i, rfl, rfl, hi, rfl⟩
 (repeat(first|refine Kq rfl rfl rfl ?_|(refine Z99 ?_; (repeat(first|refine Z9x rfl ?_|refine Z9y ?_)); refine Z9w ?_)|refine Ks ?_|refine Zb1 (fun _ _ => rfl) ?_))
 refine Za2 (p := (i : Int) < (l.length : Nat)) rfl (fun h3 => ?_) (fun h3 => ?_)
 ·have hil : i < l.length := by omega
  have hgN := Zrn (f := encN) hil
  have hkk := hk1 _ (List.getElem_mem hil)
  have hkx := hk2 _ (List.getElem_mem hil)
  have hwi := hw i l[i] (List.getElem?_eq_getElem hil)
  have hgi := Zrn (f := Z0.bool) (show i < keep.length by omega)
  have hdi : keep.getD i false = keep[i] := by rw [List.getD_eq_getElem?_getD, List.getElem?_eq_getElem (by omega)]; rfl
  rw [hdi] at hwi
  generalize keep[i] = ki at hgi hwi
  generalize l[i] = nd at hgN hkk hkx hwi
  have hkn : (ints nd.kids).length = nd.kids.length := List.length_map ..
  rw [encN, Zmd] at hgN
  (repeat(first|refine Kq rfl rfl rfl ?_|(refine Z99 ?_; (repeat(first|refine Z9x rfl ?_|refine Z9y ?_)); refine Z9w ?_)|refine Ks ?_|refine Zb1 (fun _ _ => rfl) ?_|refine Z8s ?_|refine Zb2 (fun _ _ => rfl) ?_))
  refine Z9d rfl (by omega) hgN ?_
  (repeat(first|refine Kq rfl rfl rfl ?_|(refine Z99 ?_; (repeat(first|refine Z9x rfl ?_|refine Z9y ?_)); refine Z9w ?_)|refine Z8s ?_))
  rw [hkn]
  refine Za6 (fun m F σ' => ∃ (j : Nat), F = fset 0 (some (.slc 8 (l.map encN) f)) (fset 1 (some (.slc 1 (keep.map .bool) g)) (fset 5 (some (.int .i64 i)) (fset 9 (some (.int .i64 (l.length : Nat))) (fset 10 (some (.int .i64 i)) (fset 17 (some (.slc 1 (ints nd.kids) true)) (fset 18 (some (.int .i64 (nd.kids.length : Nat))) (fset 19 (some (.int .i64 j)) Z28))))))) ∧ σ = σ' ∧ j ≤ nd.kids.length ∧ m = nd.kids.length - j) (n := nd.kids.length)
   ⟨0, rfl, rfl, by omega, by omega⟩ ?_
  rintro m F σ' ⟨j, rfl, rfl, hj, rfl⟩
  (repeat(first|refine Kq rfl rfl rfl ?_|(refine Z99 ?_; (repeat(first|refine Z9x rfl ?_|refine Z9y ?_)); refine Z9w ?_)|refine Ks ?_|refine Zb1 (fun _ _ => rfl) ?_))
  refine Za2 (p := (j : Int) < (nd.kids.length : Nat)) rfl (fun h4 => ?_) (fun h4 => ?_)
  ·have hjl : j < nd.kids.length := by omega
   have hx : (ints nd.kids)[((j : Nat) : Int).toNat]? = some (.int .i64 ((nd.kids[j] : Nat) : Int)) := by rw [Int.toNat_natCast, ints, List.getElem?_map, List.getElem?_eq_getElem hjl]; rfl
   have hxlt := hkx _ (List.getElem_mem hjl)
   have hwx := hwi _ (List.getElem_mem hjl)
   generalize nd.kids[j] = x at hx hxlt hwx
   have hgx := Zrn (f := Z0.bool) (show x < keep.length by omega)
   have hdx : keep.getD x false = keep[x] := by rw [List.getD_eq_getElem?_getD, List.getElem?_eq_getElem (by omega)]; rfl
   rw [hdx] at hwx
   generalize keep[x] = kx at hgx hwx
   have next : ∀ (Q : Z8i), AWp Try.prog Z152.n (.region Z14x [0, 1, 5, 9, 10, 17, 18, 19]) (Za5 (fun m F σ' => ∃ (j : Nat), F = fset 0 (some (.slc 8 (l.map encN) f)) (fset 1 (some (.slc 1 (keep.map .bool) g)) (fset 5 (some (.int .i64 i)) (fset 9 (some (.int .i64 (l.length : Nat))) (fset 10 (some (.int .i64 i)) (fset 17 (some (.slc 1 (ints nd.kids) true)) (fset 18 (some (.int .i64 (nd.kids.length : Nat))) (fset 19 (some (.int .i64 j)) Z28))))))) ∧ σ = σ' ∧ j ≤ nd.kids.length ∧ m = nd.kids.length - j) (nd.kids.length - j) Q)
     (fset 0 (some (.slc 8 (l.map encN) f)) (fset 1 (some (.slc 1 (keep.map .bool) g)) (fset 5 (some (.int .i64 i)) (fset 9 (some (.int .i64 (l.length : Nat))) (fset 10 (some (.int .i64 i)) (fset 17 (some (.slc 1 (ints nd.kids) true)) (fset 18 (some (.int .i64 (nd.kids.length : Nat))) (fset 19 (some (.int .i64 j)) Z28)))))))) σ := by
    intro Q
    refine Zb4 ?_
    repeat refine Kq rfl rfl rfl ?_
    rw [Kwr j (by omega)]
    (refine Z99 ?_; (repeat(first|refine Z9x rfl ?_|refine Z9y ?_)); refine Z9w ?_)
    exact ⟨_, nd.kids.length - (j + 1), HSub.refl _, ⟨j + 1, rfl, rfl, by omega, rfl⟩, by omega⟩
   (repeat(first|refine Ks ?_|refine Zb1 (fun _ _ => rfl) ?_|refine Z8s ?_|refine Zb2 (fun _ _ => rfl) ?_))
   refine Z9d rfl (by omega) hx ?_
   (repeat(first|refine Kq rfl rfl rfl ?_|(refine Z99 ?_; (repeat(first|refine Z9x rfl ?_|refine Z9y ?_)); refine Z9w ?_)|refine Ks ?_|refine Zb1 (fun _ _ => rfl) ?_))
   refine Z9d rfl (by omega) hgx ?_
   cases kx with
   | true =>
    rw [hwx.1 rfl] at hgi
    (repeat(first|refine Kq rfl rfl rfl ?_|refine Z96 rfl (Kq rfl rfl rfl ?_)))
    refine Z96 rfl (Z9d rfl (by omega) hgi ?_)
    (repeat(first|refine Kq rfl rfl rfl ?_|refine Z96 rfl (Kq rfl rfl rfl ?_)))
    refine Z96 rfl (Z9d rfl (by omega) hgi ?_)
    (repeat refine Z96 rfl (Kq rfl rfl rfl ?_))
    refine Z96 rfl (Z9d rfl (by omega) hgx ?_)
    (repeat(first|refine Kq rfl rfl rfl ?_|refine Z96 rfl (Kq rfl rfl rfl ?_)|refine Z97 rfl ?_))
    (refine Z99 ?_; (repeat(first|refine Z9x rfl ?_|refine Z9y ?_)); refine Z9w ?_)
    refine Kc2 rfl ?_
    refine Zb2 (fun _ _ => rfl) ?_
    (refine Za0 (keep := [0, 1, 5, 9, 10, 17, 18, 19]) ?_; ((repeat(first|refine Z9x rfl ?_|refine Z9y ?_)); refine Z9w ?_))
    exact next _
   | false =>
    cases ki with
    | false =>
     (repeat(first|refine Kq rfl rfl rfl ?_|refine Z96 rfl (Kq rfl rfl rfl ?_)|refine Z97 rfl ?_))
     refine Z96 rfl (Z9d rfl (by omega) hgi ?_)
     (repeat(first|refine Kq rfl rfl rfl ?_|refine Z96 rfl (Kq rfl rfl rfl ?_)|refine Z97 rfl ?_))
     (refine Z99 ?_; (repeat(first|refine Z9x rfl ?_|refine Z9y ?_)); refine Z9w ?_)
     refine Kc2 rfl ?_
     refine Zb2 (fun _ _ => rfl) ?_
     (refine Za0 (keep := [0, 1, 5, 9, 10, 17, 18, 19]) ?_; ((repeat(first|refine Z9x rfl ?_|refine Z9y ?_)); refine Z9w ?_))
     exact next _
    | true =>
     have hk12 : nd.t.kind = 12 := by
      rcases hwx.2 rfl with h | h
      ·cases h
      ·exact h
     (repeat(first|refine Kq rfl rfl rfl ?_|refine Z96 rfl (Kq rfl rfl rfl ?_)|refine Z97 rfl ?_))
     refine Z96 rfl (Z9d rfl (by omega) hgi ?_)
     (repeat refine Z96 rfl (Kq rfl rfl rfl ?_))
     refine Z96 rfl (Z9d rfl (by omega) hgx ?_)
     (repeat refine Z96 rfl (Kq rfl rfl rfl ?_))
     refine Z96 rfl (Z9d rfl (by omega) hgN ?_)
     (repeat(first|refine Kq rfl rfl rfl ?_|refine Z96 rfl (Kq rfl rfl rfl ?_)))
     (rw [decide_eq_false (p := nd.t.kind ≠ 12) (by omega)])
     skip
     (refine Z99 ?_; (repeat(first|refine Z9x rfl ?_|refine Z9y ?_)); refine Z9w ?_)
     refine Kc2 rfl ?_
     refine Zb2 (fun _ _ => rfl) ?_
     (refine Za0 (keep := [0, 1, 5, 9, 10, 17, 18, 19]) ?_; ((repeat(first|refine Z9x rfl ?_|refine Z9y ?_)); refine Z9w ?_))
     exact next _
  ·(repeat refine Zb3 (fun _ _ => rfl) ?_)
   refine Zb4 ?_
   repeat refine Kq rfl rfl rfl ?_
   rw [Kwr i (by omega)]
   (refine Z99 ?_; (repeat(first|refine Z9x rfl ?_|refine Z9y ?_)); refine Z9w ?_)
   exact ⟨_, l.length - (i + 1), HSub.refl _, ⟨i + 1, rfl, rfl, by omega, rfl⟩, by omega⟩
 ·(repeat(first|refine Kq rfl rfl rfl ?_|(refine Z99 ?_; (repeat(first|refine Z9x rfl ?_|refine Z9y ?_)); refine Z9w ?_)|refine Ks ?_|refine Zb1 (fun _ _ => rfl) ?_|refine Zb3 (fun _ _ => rfl) ?_))
  refine Z8o ?_
  exact Kar rfl ⟨rfl, rfl⟩
end Go.Abs
namespace Go.Abs
open Go Go.Proofs
section
variable {P : Program} {l : List Z2b} {F : Z27} {σ τ : Zc} {Q : Z27 → Zc → Prop}
theorem Z191 {d : Nat} {ag : Bool} {sz : Nat} {args : List Zw} {b i o s : Nat} {w : Z0} {xs : List Z0} {x v : Z0} (h1 : evs F args = some [.ptr b i o, w]) (hw : Z1p w = some b) (hg : Zd σ b = some (.cells s xs)) (hx : xs[i]? = some x) (hp : Z19 ag sz (x.cells.drop o) = some v)
  (h : aops P l (fset d (some v) F) σ Q) : aops P (⟨some d, .loadg ag sz, args, none⟩ :: l) F σ Q :=
 Kq h1 (by simp [Z1r, Z1q, hw, Z1l, hg, hx, hp]) rfl h
theorem Z192 {d n : Nat} {f : FuncId} {args : List Zw} {vs : List Z0} {v : Z0} (h1 : evs F args = some vs) (hc : Z1s P f (vs.take n) σ fun r σ' => r = v ∧ σ' = τ) (hk : Z24 (vs.drop n) σ τ) (h : aops P l (fset d (some v) F) τ Q) : aops P (⟨some d, .callk f n, args, none⟩ :: l) F σ Q := by
 refine ⟨_, h1, ⟨v, τ, hk, h⟩, hc.mono fun r σ' ⟨e1, e2⟩ => ?_⟩
 subst e1 e2
 exact ⟨hk, h⟩
end
attribute [local irreducible] AWp aops KP
theorem Z193 {σ : Zc} {a b : Nat} {x : Zb} (h : a ≠ b) : Zd (Ze σ b x) a = Zd σ a := by
 induction σ with
 | nil => rfl
 | cons p σ ih =>
  obtain ⟨k, y⟩ := p
  simp only [Ze]
  split
  ·rename_i e
   subst e
   simp only [Zd, if_neg (fun e : k = a => h e.symm)]
  ·simp only [Zd, ih]
theorem Z194 {σ : Zc} {a b : Nat} {x y : Zb} (h : a ≠ b) : Ze (Ze σ a x) b y = Ze (Ze σ b y) a x := by
 induction σ with
 | nil => rfl
 | cons p σ ih =>
  obtain ⟨k, z⟩ := p
  by_cases e1 : k = a
  ·subst e1
   simp [Ze, h]
  ·by_cases e2 : k = b
   ·subst e2
    simp [Ze, e1]
   ·simp only [Ze, if_neg e1, if_neg e2, ih]
def HS (H : Zc) (ba bh : Nat) (s : Tk) : Zc := Ze (Ze H ba (.cells 1 (ints s.at_))) bh (.cells 1 (ints s.he))
theorem HS_HS {H : Zc} {ba bh : Nat} (h : ba ≠ bh) (s s' : Tk) : HS (HS H ba bh s) ba bh s' = HS H ba bh s' := by
 unfold HS
 rw [Z194 (a := bh) (b := ba) (fun e => h e.symm), Zab, Zab]
theorem HS_a {H : Zc} {ba bh : Nat} {x : Zb} (h : ba ≠ bh) (hx : Zd H ba = some x) (s : Tk) : Zd (HS H ba bh s) ba = some (.cells 1 (ints s.at_)) := by
 unfold HS
 rw [Z193 h]
 exact Z5l hx
theorem HS_h {H : Zc} {ba bh : Nat} {x : Zb} (h : ba ≠ bh) (hx : Zd H bh = some x) (s : Tk) : Zd (HS H ba bh s) bh = some (.cells 1 (ints s.he)) := by
 unfold HS
 exact Z5l (by rw [Z193 (fun e => h e.symm)]; exact hx)
theorem Z195 {H : Zc} {ba bh k : Nat} {x : Zb} (h1 : k ≠ ba) (h2 : k ≠ bh) (s : Tk) : HS ((k, x) :: H) ba bh s = (k, x) :: HS H ba bh s := by
 unfold HS
 rw [Z9i h1 rfl, Z9i h2 rfl]
theorem Z196 {β H : Zc} {ba bh : Nat} (h1 : ba ∉ Zh β) (h2 : bh ∉ Zh β) (s : Tk) : HS (β ++ H) ba bh s = β ++ HS H ba bh s := by
 unfold HS
 rw [Zaa h1, Zaa h2]
theorem Z197 {H : Zc} {ba bh : Nat} (s : Tk) : Zh (HS H ba bh s) = Zh H := by
 unfold HS
 rw [Zn, Zn]
theorem Z198 {l : List Nat} {i : Nat} (h : i < l.length) : (ints l)[0 + ((i : Nat) : Int).toNat]? = some (.int .i64 ((l.getD i 0 : Nat) : Int)) := by
 rw [Nat.zero_add, Int.toNat_natCast, ints, List.getElem?_map, List.getD_eq_getElem?_getD, List.getElem?_eq_getElem h]; rfl
theorem Z199 {l : List Nat} {i m : Nat} (x : Z0) (hx : x = .int .i64 ((l.getD i 0 : Nat) : Int)) : (ints l).set (0 + ((i : Nat) : Int).toNat) (Z1t x 0 (Z0.int .i64 ((m : Nat) : Int)).cells) = ints (l.set i m) := by
 subst hx
 rw [Nat.zero_add, Int.toNat_natCast, ints, ints, List.map_set]; rfl
def Z19a (l : List Nd) (cols : List Col) (keep : List Bool) (g h : Bool) (ba bh : Nat) : List Z0 := [.slc 8 (l.map encN) true, .slc 5 (cols.map Kc) g, .slc 1 (keep.map .bool) h, .arr 1 ba 0 l.length, .arr 1 bh 0 l.length]
structure ColsT (l : List Nd) (cols : List Col) (keep : List Bool) : Prop where
 len : cols.length = l.length
 sm : ∀ i c, cols[i]? = some c → keep.getD i false = true → c.Sm
 text : ∀ i c, cols[i]? = some c → keep.getD i false = true → ∀ b ∈ c.texts, b.length ≤ 4096
 lens : ∀ i c, cols[i]? = some c → keep.getD i false = true → ∀ v ∈ c.lens, v ≤ 16384
def valC (i m : Int) (bv kv : Z0) : Z0 := .agg [.bool false, .int .i64 i, .int .i64 m, bv, kv]
def zeroV : Z0 := .agg [.bool false, .int .i64 0, .int .i64 0, .slc 0 [] true, .slc 0 [] true]
theorem valE {i m : Int} {bv : Z0} {xs : List Z0} {f : Bool} (h : bv.one = true) : (Z0.agg [.bool false, .int .i64 i, .int .i64 m, bv, .slc 5 xs f]).elem 5 := by
 refine ⟨rfl, fun c hc => ?_⟩
 simp only [Z0.cells, List.mem_cons, List.not_mem_nil, or_false] at hc
 rcases hc with rfl | rfl | rfl | rfl | rfl
 ·rfl
 ·rfl
 ·rfl
 ·exact h
 ·rfl
theorem Z19b {l : List Nd} (hT : TreeN l) (hK : Z12x l) {cols : List Col} {keep : List Bool} (hC : ColsT l cols keep) (hkl : keep.length = l.length) (hWh : Whole l keep) (g h : Bool) (ba bh : Nat) (hab : ba ≠ bh) :
  ∀ (t : Ty) (a : Nat) (nd : Nd), l[a]? = some nd → nd.t = t → keep.getD a false = true → ∀ (s s' : Tk) (v : Vl), s.sz l.length → takeT cols keep t a s = some (v, s') → ∀ (H : Zc), Zd H ba = some (.cells 1 (ints s.at_)) → Zd H bh = some (.cells 1 (ints s.he)) →
   Z1s Try.prog Zec [.iptr (Z19a l cols keep g h ba bh), .int .i64 (a : Int)] H fun r H' => r = encV v ∧ H' = HS H ba bh s' := by
 refine Ty.ind fun k ns ks le pr sc ih a nd hnd hndt hka s s' v hsz htk H hHa hHh => ?_
 have hal : a < l.length := (List.getElem?_eq_some_iff.1 hnd).1
 have hac : a < cols.length := by rw [hC.len]; exact hal
 have hN := hT.nok a nd hnd
 obtain ⟨c, hc⟩ : ∃ c, cols[a]? = some c := ⟨_, List.getElem?_eq_getElem hac⟩
 have hcm := List.mem_of_getElem? hc
 have hsm := hC.sm a c hc hka
 have hcD : cols.getD a col0 = c := by rw [List.getD_eq_getElem?_getD, hc]; rfl
 have hgN : (l.map encN)[((a : Nat) : Int).toNat]? = some (encN nd) := by rw [Int.toNat_natCast, List.getElem?_map, hnd]; rfl
 have hgC : (cols.map Kc)[((a : Nat) : Int).toNat]? = some (Kc c) := by rw [Int.toNat_natCast, List.getElem?_map, hc]; rfl
 have hk : nd.t.kind = k := by rw [hndt]; rfl
 have hks : nd.t.kids = ks := by rw [hndt]; rfl
 have hkal := hK.num nd (List.mem_of_getElem? hnd)
 have hkn : (ints nd.kids).length = nd.kids.length := List.length_map ..
 have hkl2 : nd.kids.length = ks.length := by rw [hN.len, hks]
 have hkidx : ∀ (j : Nat) (u : Ty), ks[j]? = some u → ∃ m, (ints nd.kids)[((j : Nat) : Int).toNat]? = some (.int .i64 ((a + 1 + cntL (ks.take j) : Nat) : Int)) ∧ l[a + 1 + cntL (ks.take j)]? = some m ∧ m.t = u ∧ (a + 1 + cntL (ks.take j)) ∈ nd.kids := by
  intro j u hu
  have hjl : j < nd.kids.length := by rw [hkl2]; exact (List.getElem?_eq_some_iff.1 hu).1
  obtain ⟨u', m, e1, e2, e3, e4, _⟩ := hN.kids j _ (List.getElem?_eq_getElem hjl)
  rw [hks, hu] at e1
  cases e1
  rw [hks] at e2
  refine ⟨m, ?_, by rw [← e2]; exact e3, e4, by rw [← e2]; exact List.getElem_mem hjl⟩
  rw [Int.toNat_natCast, ints, List.getElem?_map, List.getElem?_eq_getElem hjl, e2]; rfl
 have hla : a < s.at_.length := by rw [hsz.1]; exact hal
 have hlh : a < s.he.length := by rw [hsz.2]; exact hal
 rw [takeT, hcD] at htk
 generalize hi : s.at_.getD a 0 = i at htk
 generalize hj : s.he.getD a 0 = j at htk
 obtain ⟨hb, hhb⟩ : ∃ hb, c.here[i]? = some hb := by
  cases e : c.here[i]? with
  | none => rw [e] at htk; cases htk
  | some hb => exact ⟨hb, rfl⟩
 have hil : i < c.here.length := (List.getElem?_eq_some_iff.1 hhb).1
 have hi1 := hsm.here
 have hgx : (c.here.map Z0.bool)[((i : Nat) : Int).toNat]? = some (.bool hb) := by rw [Int.toNat_natCast, List.getElem?_map, hhb]; rfl
 rw [hhb] at htk
 refine Z94 rfl Z17m (Nat.le_of_ble_eq_true rfl) ?_
 refine Za1 ?_
 refine Z9o (by simp [Z0.cells, Z0.one]) fun b4 hb4 => ?_
 (refine Z99 ?_; (repeat(first|refine Z9x rfl ?_|refine Z9y ?_)); refine Z9w ?_)
 have h4a : b4 ≠ ba := fun e => by subst e; exact hb4 (by have := Zk hHa; exact List.mem_map_of_mem (f := (·.1)) this)
 have h4h : b4 ≠ bh := fun e => by subst e; exact hb4 (by have := Zk hHh; exact List.mem_map_of_mem (f := (·.1)) this)
 refine Za1 ?_
 repeat refine Kq rfl rfl rfl ?_
 refine Z9d rfl (by omega) hgC ?_
 repeat refine Kq rfl rfl rfl ?_
 refine Z9d rfl (by omega) hgN ?_
 repeat refine Kq rfl rfl rfl ?_
 refine Z9o (by simp [Z0.cells, Z0.one]) fun b5 hb5 => ?_
 refine Z9o (by simp [Z0.cells, Z0.one]) fun b6 hb6 => ?_
 have h65 : b6 ≠ b5 := fun e => hb6 (by rw [e]; simp [Zh])
 refine Z9g rfl (Z9b h65 Z9a) rfl (by decide) (Kfi rfl) (fun h => by cases h) (Z9i h65 Z9h) ?_
 refine Z9g rfl Z9a rfl (by decide) (Kfi rfl) (fun h => by cases h) Z9h ?_
 (refine Z99 ?_; (repeat(first|refine Z9x rfl ?_|refine Z9y ?_)); refine Z9w ?_)
 refine Zaj (d := 6) (cs := Zmd nd) rfl ?_
 refine Zaj (d := 5) (cs := Zrl c) rfl ?_
 (refine Za0 (keep := [0, 1, 4, 5, 6]) ?_; ((repeat(first|refine Z9x rfl ?_|refine Z9y ?_)); refine Z9w ?_))
 rw [show (Z0.agg [.bool false, .int .i64 0, .int .i64 0, .slc 0 [] true, .slc 0 [] true]).cells.length = 5 from rfl]
 have hxa := Z198 hla
 have hxh := Z198 hlh
 rw [hi] at hxa
 rw [hj] at hxh
 refine Za1 ?_
 repeat refine Kq rfl rfl rfl ?_
 refine Z9e rfl ⟨by omega, by omega⟩ ?_
 refine Z9c rfl (Z9b h4a hHa) hxa rfl ?_
 repeat refine Kq rfl rfl rfl ?_
 (refine Z99 ?_; (repeat(first|refine Z9x rfl ?_|refine Z9y ?_)); refine Z9w ?_)
 refine Za1 ?_
 repeat refine Kq rfl rfl rfl ?_
 refine Z9e rfl ⟨by omega, by omega⟩ ?_
 refine Z9c rfl (Z9b h4a hHa) hxa rfl ?_
 repeat refine Kq rfl rfl rfl ?_
 rw [Kwr i (by omega)]
 refine Z9e rfl ⟨by omega, by omega⟩ ?_
 refine Z9g rfl (Z9b h4a hHa) hxa (by decide) (Kfi rfl) (fun _ => ⟨rfl, rfl⟩) (Z9i h4a rfl) ?_
 rw [Z199 _ (by rw [hi])]
 (refine Z99 ?_; (repeat(first|refine Z9x rfl ?_|refine Z9y ?_)); refine Z9w ?_)
 (refine Za0 (keep := [0, 1, 4, 5, 6, 7]) ?_; ((repeat(first|refine Z9x rfl ?_|refine Z9y ?_)); refine Z9w ?_))
 refine Ks ?_
 refine Ks ?_
 refine Zb1 (fun _ _ => rfl) ?_
 repeat refine Kq rfl rfl rfl ?_
 refine Z9d rfl (by omega) hgx ?_
 repeat refine Kq rfl rfl rfl ?_
 (refine Z99 ?_; (repeat(first|refine Z9x rfl ?_|refine Z9y ?_)); refine Z9w ?_)
 cases hb with
 | false =>
  simp only [Option.some.injEq, Prod.mk.injEq] at htk
  obtain ⟨rfl, rfl⟩ := htk
  refine Kc1 rfl ?_
  refine Za1 ?_
  repeat refine Kq rfl rfl rfl ?_
  (first|refine Z9g rfl Z9a rfl (by decide) (Kfi rfl) (fun h => by cases h) Z9h ?_|refine Z96 rfl (Z9g rfl Z9a rfl (by decide) (Kfi rfl) (fun h => by cases h) Z9h ?_))
  (refine Z99 ?_; (repeat(first|refine Z9x rfl ?_|refine Z9y ?_)); refine Z9w ?_)
  refine Z8o ?_
  refine Zag (vs := [.agg [.bool true, .int .i64 0, .int .i64 0, .slc 0 [] true, .slc 0 [] true]]) (Zsj rfl Z9a rfl) ?_ (HSub.tail _ _) ⟨rfl, ?_⟩
  ·rw [nullV, encV]
   (repeat(first|exact VRle.refl _ | exact Zbf|refine Zbg rfl rfl ?_|refine Zbh rfl ?_|refine Zbe ?_ ?_))
  ·unfold HS
   exact (Z5q (by rw [Z193 (fun e => hab e.symm)]; exact hHh)).symm
 | true =>
 refine Kc2 rfl ?_
 refine Zb2 (fun _ _ => rfl) ?_
 (refine Za0 (keep := [0, 1, 4, 5, 6]) ?_; ((repeat(first|refine Z9x rfl ?_|refine Z9y ?_)); refine Z9w ?_))
 simp only at htk
 by_cases hji : i < j
 ·rw [if_pos hji] at htk; cases htk
 rw [if_neg hji] at htk
 have hHh1 : Zd (Ze H ba (.cells 1 (ints (s.at_.set a (i + 1))))) bh = some (.cells 1 (ints s.he)) := by rw [Z193 (fun e => hab e.symm)]; exact hHh
 refine Za1 ?_
 repeat refine Kq rfl rfl rfl ?_
 refine Z9e rfl ⟨by omega, by omega⟩ ?_
 refine Z9c rfl (Z9b h4h hHh1) hxh rfl ?_
 repeat refine Kq rfl rfl rfl ?_
 (refine Z99 ?_; (repeat(first|refine Z9x rfl ?_|refine Z9y ?_)); refine Z9w ?_)
 refine Za1 ?_
 repeat refine Kq rfl rfl rfl ?_
 refine Z9e rfl ⟨by omega, by omega⟩ ?_
 refine Z9c rfl (Z9b h4h hHh1) hxh rfl ?_
 repeat refine Kq rfl rfl rfl ?_
 rw [Kwr j (by omega)]
 refine Z9e rfl ⟨by omega, by omega⟩ ?_
 refine Z9g rfl (Z9b h4h hHh1) hxh (by decide) (Kfi rfl) (fun _ => ⟨rfl, rfl⟩) (Z9i h4h rfl) ?_
 rw [Z199 _ (by rw [hj])]
 (refine Z99 ?_; (repeat(first|refine Z9x rfl ?_|refine Z9y ?_)); refine Z9w ?_)
 (refine Za0 (keep := [0, 4, 5, 6, 8]) ?_; ((repeat(first|refine Z9x rfl ?_|refine Z9y ?_)); refine Z9w ?_))
 have hHS2 : Ze (Ze H ba (.cells 1 (ints (s.at_.set a (i + 1))))) bh (.cells 1 (ints (s.he.set a (j + 1)))) = HS H ba bh ⟨s.at_.set a (i + 1), s.he.set a (j + 1)⟩ := rfl
 rw [hHS2]
 have hsz2 : (⟨s.at_.set a (i + 1), s.he.set a (j + 1)⟩ : Tk).sz l.length := ⟨by rw [List.length_set]; exact hsz.1, by rw [List.length_set]; exact hsz.2⟩
 generalize (⟨s.at_.set a (i + 1), s.he.set a (j + 1)⟩ : Tk) = s2 at htk hsz2 ⊢
 refine Za1 ?_
 refine Z9o (by simp [Z0.cells, Z0.one]) fun b9 hb9 => ?_
 (refine Z99 ?_; (repeat(first|refine Z9x rfl ?_|refine Z9y ?_)); refine Z9w ?_)
 have h94 : b9 ≠ b4 := fun e => hb9 (by rw [e]; simp [Zh])
 have h9H : b9 ∉ Zh H := fun hm => hb9 (by rw [Zj, Z197]; exact List.mem_cons_of_mem _ hm)
 have h9a : b9 ≠ ba := fun e => by subst e; exact h9H (by have := Zk hHa; exact List.mem_map_of_mem (f := (·.1)) this)
 have h9h : b9 ≠ bh := fun e => by subst e; exact h9H (by have := Zk hHh; exact List.mem_map_of_mem (f := (·.1)) this)
 rw [show (Z0.agg [.bool false, .int .i64 0, .int .i64 0, .slc 0 [] true, .slc 0 [] true]).cells.length = 5 from rfl]
 have fin : ∀ (s3 : Tk) (kv : Z0) (xs : List Vl) (β : Zc) (i m : Int) (bv : Z0), Zb5 5 kv (Zmg xs) β → b9 ∉ Zh β → VRle [.agg [.bool false, .int .i64 i, .int .i64 m, bv, .slc 5 (Zmg xs) true]] [encV v] → bv.one = true → s' = s3 →
   AWp Try.prog Z16a.n (Z16a.code.snd 9) (ARet Z16a.res fun r H' => r = encV v ∧ H' = HS H ba bh s') (fset 4 (some (.ptr b4 0 0)) (fset 9 (some (.ptr b9 0 0)) Z28))
    (β ++ ((b9, .cells 5 [.agg [.bool false, .int .i64 i, .int .i64 m, bv, kv]]) :: (b4, .cells 5 [.agg [.bool false, .int .i64 0, .int .i64 0, .slc 0 [] true, .slc 0 [] true]]) :: HS H ba bh s3)) := by
  intro s3 kv xs β i m bv ho hnb hv hbv e
  subst e
  refine Za1 ?_
  repeat refine Kq rfl rfl rfl ?_
  refine Z9c rfl (by rw [Za9 hnb]; exact Z9a) rfl rfl ?_
  refine Z9v rfl (Zr6 ho _) ?_
  repeat refine Kq rfl rfl rfl ?_
  refine Z9g rfl Z9a rfl (by decide) (Kfi rfl) (fun h => by cases h) Z9h ?_
  (refine Z99 ?_; (repeat(first|refine Z9x rfl ?_|refine Z9y ?_)); refine Z9w ?_)
  refine Za1 ?_
  refine Z9c rfl Z9a rfl rfl ?_
  refine Z9g rfl (Z9b h94 Z9a) rfl (by decide) (valE hbv) (fun h => by cases h) (Z9i h94 Z9h) ?_
  (refine Z99 ?_; (repeat(first|refine Z9x rfl ?_|refine Z9y ?_)); refine Z9w ?_)
  refine Z8o ?_
  exact Zag (vs := [.agg [.bool false, .int .i64 i, .int .i64 m, bv, .slc 5 (Zmg xs) true]]) (Zsj rfl (Z9b h94 Z9a) rfl) hv (HSub.of_sublist ((List.sublist_cons_self _ _).trans (List.sublist_cons_self _ _))) ⟨rfl, rfl⟩
 have h9n : b9 ∉ Zh ([] : Zc) := by simp [Zh]
 have call : ∀ (u : Ty), u ∈ ks → ∀ (x : Nat) (m : Nd), l[x]? = some m → m.t = u → keep.getD x false = true → ∀ (st s1 : Tk) (vj : Vl), st.sz l.length → takeT cols keep u x st = some (vj, s1) → ∀ (β : Zc) (V : Zb), ba ∉ Zh β → bh ∉ Zh β →
   Z1s Try.prog Zec [.iptr (Z19a l cols keep g h ba bh), .int .i64 (x : Int)] (β ++ ((b9, V) :: (b4, .cells 5 [.agg [.bool false, .int .i64 0, .int .i64 0, .slc 0 [] true, .slc 0 [] true]]) :: HS H ba bh st)) fun r H' => r = .agg (Zmh vj) ∧ H' = β ++ ((b9, V) :: (b4, .cells 5 [.agg [.bool false, .int .i64 0, .int .i64 0, .slc 0 [] true, .slc 0 [] true]]) :: HS H ba bh s1) := by
  intro u hu x m hm hmt hkx st s1 vj hst ht β V h1 h2
  have := ih u hu x m hm hmt hkx st s1 vj hst ht (β ++ ((b9, V) :: (b4, .cells 5 [.agg [.bool false, .int .i64 0, .int .i64 0, .slc 0 [] true, .slc 0 [] true]]) :: HS H ba bh st))
   (by rw [Za9 h1]; exact Z9b h9a (Z9b h4a (HS_a hab hHa st)))
   (by rw [Za9 h2]; exact Z9b h9h (Z9b h4h (HS_h hab hHh st)))
  rw [Z196 h1 h2, Z195 h9a h9h, Z195 h4a h4h, HS_HS hab, Zmi] at this
  exact this
 have kept : ∀ (r x : Z0) (β : Zc) (V : Zb) (σ1 σ2 : Zc), b9 ∉ Zh β → Z24 (([r, x, .ptr b9 0 0] : List Z0).drop 2) (β ++ ((b9, V) :: σ1)) (β ++ ((b9, V) :: σ2)) := by
  intro r x β V σ1 σ2 hn v hv b hb
  simp only [List.drop_succ_cons, List.drop_zero, List.mem_singleton] at hv
  subst hv
  simp only [Z1p, Option.some.injEq] at hb
  subst hb
  rw [Za9 hn, Za9 hn, Z9a, Z9a]
 have fresh' : ∀ (b' : Nat) (β : Zc) (V : Zb) (st : Tk), b' ∉ Zh (β ++ ((b9, V) :: (b4, .cells 5 [.agg [.bool false, .int .i64 0, .int .i64 0, .slc 0 [] true, .slc 0 [] true]]) :: HS H ba bh st)) → b' ≠ b9 ∧ b' ≠ ba ∧ b' ≠ bh := by
  intro b' β V st hb'
  refine ⟨fun e => hb' (by rw [e]; simp [Zh]), fun e => hb' ?_, fun e => hb' ?_⟩
  ·subst e
   have := Zk hHa
   have h1 : b' ∈ Zh (HS H b' bh st) := by rw [Z197]; exact List.mem_map_of_mem (f := (·.1)) this
   simp only [Zh, List.map_append, List.map_cons, List.mem_append, List.mem_cons] at h1 ⊢
   exact .inr (.inr (.inr h1))
  ·subst e
   have := Zk hHh
   have h1 : b' ∈ Zh (HS H ba b' st) := by rw [Z197]; exact List.mem_map_of_mem (f := (·.1)) this
   simp only [Zh, List.map_append, List.map_cons, List.mem_append, List.mem_cons] at h1 ⊢
   exact .inr (.inr (.inr h1))
 have heA : ∀ (us : List Vl) (vj : Vl), Zmg us ++ [Z0.agg (Zmh vj)] = Zmg (us ++ [vj]) := fun us vj => by rw [Zmj, Zmj, List.map_append, ← Zmi]; rfl
 have nk : ∀ (b' k : Nat) (x : Zb), b' ≠ k → k ∉ Zh [(b', x)] := fun b' k x h hm => by simp only [Zh, List.map_cons, List.map_nil, List.mem_singleton] at hm; exact h hm.symm
 refine Ks ?_
 refine Ks ?_
 refine Zb1 (fun _ _ => rfl) ?_
 repeat refine Kq rfl rfl rfl ?_
 rw [hk]
 (refine Z99 ?_; (repeat(first|refine Z9x rfl ?_|refine Z9y ?_)); refine Z9w ?_)
 have hil2 : ∀ {α : Type} (f : α → Z0) (xs : List α) (y : α), xs[j]? = some y → (xs.map f)[((j : Nat) : Int).toNat]? = some (f y) := fun f xs y hy => by rw [Int.toNat_natCast, List.getElem?_map, hy]; rfl
 have hvle : ∀ (i m : Int) (xs : List Vl), VRle [.agg [.bool false, .int .i64 i, .int .i64 m, .slc 0 [] true, .slc 5 (Zmg xs) true]] [encV (.mk false i m [] xs)] := fun i m xs => by
  rw [encV]
  refine VRle.agg (by simp [Z0.one]) ?_
  refine VRle.cons (VRle.refl _) (VRle.cons (VRle.refl _) (VRle.cons (VRle.refl _) (VRle.cons ?_ (VRle.cons ?_ (VRle.refl _)))))
  ·rw [show bytes [] = [] from rfl]; exact VRle.nilF _ _
  ·exact VRle.full
 by_cases k10 : k = 10 ∨ k = 11
 ·rw [if_pos k10] at htk
  obtain ⟨n, hn⟩ : ∃ n, c.lens[j]? = some n := by
   cases e : c.lens[j]? with
   | none => rw [e] at htk; cases htk
   | some n => exact ⟨n, rfl⟩
  rw [hn] at htk
  have hn2 := hC.lens a c hc hka n (List.mem_of_getElem? hn)
  have hgl := hil2 (Z0.int .i64) c.lens n hn
  obtain ⟨VS, hts⟩ : ∃ VS, iterO (takeL cols keep ks (a + 1)) n.toNat s2 = some (VS, s') ∧ v = .mk false 0 0 [] VS := by
   simp only at htk
   split at htk
   ·cases htk
   ·rename_i vs s0 h0
    simp only [Option.some.injEq, Prod.mk.injEq] at htk
    obtain ⟨e1, rfl⟩ := htk
    exact ⟨vs, h0, e1.symm⟩
  obtain ⟨hts, rfl⟩ := hts
  have hks1000 : ks.length ≤ 1000 := by omega
  have hmul : ∀ i : Nat, i ≤ 16384 → i * ks.length ≤ 16384000 := fun i hi => Nat.le_trans (Nat.mul_le_mul hi hks1000) (by decide)
  obtain ⟨I, hI⟩ : ∃ I : Nat → Z27 → Zc → Prop, I = fun m F σ' => ∃ (i' : Nat) (st : Tk) (us : List Vl) (kv : Z0) (β : Zc), F = fset 0 (some (.iptr (Z19a l cols keep g h ba bh))) (fset 4 (some (.ptr b4 0 0)) (fset 6 (some (.iptr (Zmd nd))) (fset 9 (some (.ptr b9 0 0)) (fset 87 (some (.int .i64 n)) (fset 88 (some (.int .i64 (i' : Nat))) Z28))))) ∧
   β ++ ((b9, Zb.cells 5 [.agg [.bool false, .int .i64 0, .int .i64 0, .slc 0 [] true, kv]]) :: (b4, .cells 5 [.agg [.bool false, .int .i64 0, .int .i64 0, .slc 0 [] true, .slc 0 [] true]]) :: HS H ba bh st) = σ' ∧ Zb5 5 kv (Zmg us) β ∧ b9 ∉ Zh β ∧ ba ∉ Zh β ∧ bh ∉ Zh β ∧ st.sz l.length ∧ i' ≤ n.toNat ∧ us.length ≤ i' * ks.length ∧ (∃ ws, iterO (takeL cols keep ks (a + 1)) (n.toNat - i') st = some (ws, s') ∧ us ++ ws = VS) ∧ m = n.toNat - i' := ⟨_, rfl⟩
  have loop : AWp Try.prog Z16a.n (.loop Z15v) (Z8r 7 (Z8p Try.prog Z16a.n (.exit 0) (Z8r 2 (Z8p Try.prog Z16a.n (.seq (.seq (.region Z15w [0, 4, 9, 108, 109, 110]) (.block 11 (.loop Z162))) (.exit 0)) (Z8r 3 (Z8p Try.prog Z16a.n (.seq (.seq (.region Z163 [0, 4, 6, 9]) (.region Z164 [4, 9])) (.exit 0)) (Z8r 4 (Z8p Try.prog Z16a.n (.seq (.region Z165 [4, 9]) (.exit 0)) (Z8r 5 (Z8p Try.prog Z16a.n (.region Z166 [4, 5, 8, 9]) (Z8r 6 (Z8p Try.prog Z16a.n (.seq (.region Z167 [4, 9]) (.exit 0)) (Z8r 0 (Z8p Try.prog Z16a.n (Z16a.code.snd 9) (ARet Z16a.res fun r H' => r = encV (.mk false 0 0 [] VS) ∧ H' = HS H ba bh s')))))))))))))))
    (fset 0 (some (.iptr (Z19a l cols keep g h ba bh))) (fset 4 (some (.ptr b4 0 0)) (fset 6 (some (.iptr (Zmd nd))) (fset 9 (some (.ptr b9 0 0)) (fset 87 (some (.int .i64 n)) (fset 88 (some (.int .i64 0)) Z28))))))
    ((b9, Zb.cells 5 [.agg [.bool false, .int .i64 0, .int .i64 0, .slc 0 [] true, .slc 0 [] true]]) :: (b4, .cells 5 [.agg [.bool false, .int .i64 0, .int .i64 0, .slc 0 [] true, .slc 0 [] true]]) :: HS H ba bh s2) := by
   refine Za6 I (n := n.toNat) (by
    rw [hI]
    exact ⟨0, s2, [], .slc 0 [] true, [], rfl, rfl, Zb5.nil 5 0, by simp [Zh], by simp [Zh], by simp [Zh], hsz2, by omega, by simp, ⟨VS, hts, rfl⟩, by omega⟩) ?_
   intro m0 F σ' hIm
   rw [hI] at hIm
   obtain ⟨i', st, us, kv, β, rfl, rfl, ho, hnb, hna, hnh, hst, hi', hus, ⟨ws, hw, hVS⟩, rfl⟩ := hIm
   (repeat(first|refine Kq rfl rfl rfl ?_|(refine Z99 ?_; (repeat(first|refine Z9x rfl ?_|refine Z9y ?_)); refine Z9w ?_)|refine Ks ?_|refine Zb1 (fun _ _ => rfl) ?_))
   refine Za2 (p := (i' : Int) < n) rfl (fun h5 => ?_) (fun h5 => ?_)
   ·have hrest : n.toNat - i' = (n.toNat - (i' + 1)) + 1 := by omega
    rw [hrest, iterO] at hw
    split at hw
    ·cases hw
    rename_i u1 sE hL
    split at hw
    ·cases hw
    rename_i u2 s3 hR
    simp only [Option.some.injEq, Prod.mk.injEq] at hw
    obtain ⟨rfl, rfl⟩ := hw
    have hul := Z18t cols keep _ _ _ _ _ hL
    have hmi := hmul i' (by omega)
    have hsE : sE.sz l.length := Z18r (f := takeL cols keep ks (a + 1)) (N := l.length) (fun s vs s' hh hs => by
     have hLs : ∀ (ks : List Ty) (a : Nat) (s : Tk) (vs : List Vl) (s' : Tk), takeL cols keep ks a s = some (vs, s') → s.sz l.length → s'.sz l.length := by
      intro ks
      induction ks with
      | nil => intro a s vs s' h hs; simp only [takeL, Option.some.injEq, Prod.mk.injEq] at h; rw [← h.2]; exact hs
      | cons t ts ih2 =>
       intro a s vs s' h hs
       simp only [takeL] at h
       split at h
       ·cases h
       ·rename_i v0 s10 h10
        split at h
        ·cases h
        ·rename_i w0 s20 h20
         simp only [Option.some.injEq, Prod.mk.injEq] at h
         rw [← h.2]
         exact ih2 _ _ _ _ h20 (Z18s cols keep l.length _ _ _ _ _ h10 hs)
     exact hLs _ _ _ _ _ hh hs) 1 st u1 sE (by simp [iterO, hL]) hst
    (repeat(first|refine Kq rfl rfl rfl ?_|(refine Z99 ?_; (repeat(first|refine Z9x rfl ?_|refine Z9y ?_)); refine Z9w ?_)|refine Ks ?_|refine Zb1 (fun _ _ => rfl) ?_|refine Z8s ?_|refine Zb2 (fun _ _ => rfl) ?_))
    rw [hkn]
    obtain ⟨J, hJ⟩ : ∃ J : Nat → Z27 → Zc → Prop, J = fun m F σ' => ∃ (j' : Nat) (st : Tk) (ut : List Vl) (kv : Z0) (β : Zc), F = fset 0 (some (.iptr (Z19a l cols keep g h ba bh))) (fset 4 (some (.ptr b4 0 0)) (fset 6 (some (.iptr (Zmd nd))) (fset 9 (some (.ptr b9 0 0)) (fset 87 (some (.int .i64 n)) (fset 88 (some (.int .i64 (i' : Nat))) (fset 91 (some (.slc 1 (ints nd.kids) true)) (fset 92 (some (.int .i64 (nd.kids.length : Nat))) (fset 93 (some (.int .i64 (j' : Nat))) Z28)))))))) ∧
     β ++ ((b9, Zb.cells 5 [.agg [.bool false, .int .i64 0, .int .i64 0, .slc 0 [] true, kv]]) :: (b4, .cells 5 [.agg [.bool false, .int .i64 0, .int .i64 0, .slc 0 [] true, .slc 0 [] true]]) :: HS H ba bh st) = σ' ∧ Zb5 5 kv (Zmg ut) β ∧ b9 ∉ Zh β ∧ ba ∉ Zh β ∧ bh ∉ Zh β ∧ st.sz l.length ∧ j' ≤ nd.kids.length ∧ ut.length ≤ i' * ks.length + j' ∧ (∃ ws, takeL cols keep (ks.drop j') (a + 1 + cntL (ks.take j')) st = some (ws, sE) ∧ ut ++ ws = us ++ u1) ∧ m = nd.kids.length - j' := ⟨_, rfl⟩
    refine Za6 J (n := nd.kids.length) (by
     rw [hJ]
     exact ⟨0, st, us, kv, β, rfl, rfl, ho, hnb, hna, hnh, hst, by omega, by omega, ⟨u1, by simpa [cntL] using hL, rfl⟩, by omega⟩) ?_
    clear ho hnb hna hnh hst
    clear kv β
    intro m1 F σ' hJm
    rw [hJ] at hJm
    obtain ⟨j', st, ut, kv, β, rfl, rfl, ho, hnb, hna, hnh, hst, hj', hut, ⟨ws, hw, hVt⟩, rfl⟩ := hJm
    (repeat(first|refine Kq rfl rfl rfl ?_|(refine Z99 ?_; (repeat(first|refine Z9x rfl ?_|refine Z9y ?_)); refine Z9w ?_)|refine Ks ?_|refine Zb1 (fun _ _ => rfl) ?_))
    refine Za2 (p := (j' : Int) < (nd.kids.length : Nat)) rfl (fun h6 => ?_) (fun h6 => ?_)
    ·have hjl : j' < nd.kids.length := by omega
     have hjk : j' < ks.length := by omega
     obtain ⟨m, hx, hm, hmt, hxm⟩ := hkidx j' ks[j'] (List.getElem?_eq_getElem hjk)
     have hcs := Z18q ks j' ks[j'] (List.getElem?_eq_getElem hjk)
     have humem : ks[j'] ∈ ks := List.getElem_mem hjk
     rw [List.drop_eq_getElem_cons hjk, takeL] at hw
     generalize ks[j'] = u at hm hmt hcs hw humem hx
     generalize hxe : a + 1 + cntL (ks.take j') = x at hx hm hw hxm
     have hcs2 : a + 1 + cntL (ks.take (j' + 1)) = x + cnt u := by omega
     have hkx : keep.getD x false = true := by
      rcases (hWh a nd hnd x hxm).2 hka with e | e
      ·exact e
      ·omega
     split at hw
     ·cases hw
     rename_i vj s1 ht1
     split at hw
     ·cases hw
     rename_i w2 s4 hw2
     simp only [Option.some.injEq, Prod.mk.injEq] at hw
     obtain ⟨rfl, rfl⟩ := hw
     have hst1 := Z18s cols keep l.length _ _ _ _ _ ht1 hst
     (repeat(first|refine Ks ?_|refine Zb1 (fun _ _ => rfl) ?_|refine Z8s ?_|refine Zb2 (fun _ _ => rfl) ?_))
     refine Z9d rfl (by omega) hx ?_
     repeat refine Kq rfl rfl rfl ?_
     (refine Z99 ?_; (repeat(first|refine Z9x rfl ?_|refine Z9y ?_)); refine Z9w ?_)
     refine Zb1 (fun _ _ => rfl) ?_
     repeat refine Kq rfl rfl rfl ?_
     refine Z191 rfl rfl (by rw [Za9 hnb]; exact Z9a) rfl rfl ?_
     repeat refine Kq rfl rfl rfl ?_
     refine Z192 rfl (call _ humem _ _ hm hmt hkx st s1 vj hst ht1 β _ hna hnh) (kept _ _ _ _ _ _ hnb) ?_
     repeat refine Kq rfl rfl rfl ?_
     refine Zb6 (ys := [.agg (Zmh vj)]) ho rfl rfl (by rw [Zmk, List.length_singleton]; omega) fun b' hb' => ?_
     obtain ⟨f9, fa, fh⟩ := fresh' b' β _ s1 hb'
     rw [heA]
     repeat refine Kq rfl rfl rfl ?_
     refine Z9g rfl (Z9b f9 Z9a) rfl (by decide) (Kfi rfl) (fun h => by cases h) (Z9i f9 Z9h) ?_
     (refine Z99 ?_; (repeat(first|refine Z9x rfl ?_|refine Z9y ?_)); refine Z9w ?_)
     refine Zb4 ?_
     repeat refine Kq rfl rfl rfl ?_
     rw [show IntKind.wrap .i64 ((j' : Int) + 1) = ((j' + 1 : Nat) : Int) by rw [w64 _ (by omega) (by omega)]; omega]
     (refine Z99 ?_; (repeat(first|refine Z9x rfl ?_|refine Z9y ?_)); refine Z9w ?_)
     refine ⟨_, nd.kids.length - (j' + 1), HSub.refl _, ?_, by omega⟩
     rw [hJ]
     exact ⟨j' + 1, s1, ut ++ [vj], _, _, rfl, rfl, Zb5.mk, nk _ _ _ f9, nk _ _ _ fa, nk _ _ _ fh, hst1, by omega, by rw [List.length_append, List.length_singleton]; omega, ⟨w2, by rw [hcs2]; exact hw2, by rw [List.append_assoc]; exact hVt⟩, rfl⟩
    ·rw [List.drop_of_length_le (by omega), takeL] at hw
     simp only [Option.some.injEq, Prod.mk.injEq] at hw
     obtain ⟨rfl, rfl⟩ := hw
     rw [List.append_nil] at hVt
     subst hVt
     (repeat refine Zb3 (fun _ _ => rfl) ?_)
     refine Zb4 ?_
     repeat refine Kq rfl rfl rfl ?_
     rw [show IntKind.wrap .i64 ((i' : Int) + 1) = ((i' + 1 : Nat) : Int) by rw [w64 _ (by omega) (by omega)]; omega]
     (refine Z99 ?_; (repeat(first|refine Z9x rfl ?_|refine Z9y ?_)); refine Z9w ?_)
     refine ⟨_, n.toNat - (i' + 1), HSub.refl _, ?_, by omega⟩
     rw [hI]
     exact ⟨i' + 1, st, us ++ u1, kv, β, rfl, rfl, ho, hnb, hna, hnh, hst, by omega, by rw [List.length_append, hul, Nat.succ_mul]; omega, ⟨u2, hR, by rw [List.append_assoc]; exact hVS⟩, rfl⟩
   ·have hz : n.toNat - i' = 0 := by omega
    rw [hz, iterO] at hw
    simp only [Option.some.injEq, Prod.mk.injEq] at hw
    obtain ⟨rfl, rfl⟩ := hw
    rw [List.append_nil] at hVS
    subst hVS
    refine Zb3 (fun _ _ => rfl) ?_
    refine Zb3 (fun _ _ => rfl) ?_
    (refine Za0 (keep := [4, 9]) ?_; ((repeat(first|refine Z9x rfl ?_|refine Z9y ?_)); refine Z9w ?_))
    exact fin st kv us β 0 0 _ ho hnb (hvle _ _ _) rfl rfl
  rcases k10 with k10 | k10
  ·subst k10
   (repeat(first|refine Kq rfl rfl rfl ?_|(refine Z99 ?_; (repeat(first|refine Z9x rfl ?_|refine Z9y ?_)); refine Z9w ?_)|refine Ks ?_|refine Zb1 (fun _ _ => rfl) ?_|refine Z8s ?_|refine Zb2 (fun _ _ => rfl) ?_|refine Zb3 (fun _ _ => rfl) ?_|refine Kc1 rfl ?_))
   refine Z9d rfl (by omega) hgl ?_
   (repeat(first|refine Kq rfl rfl rfl ?_|(refine Z99 ?_; (repeat(first|refine Z9x rfl ?_|refine Z9y ?_)); refine Z9w ?_)|refine Z8s ?_))
   exact loop
  ·subst k10
   (repeat(first|refine Kq rfl rfl rfl ?_|(refine Z99 ?_; (repeat(first|refine Z9x rfl ?_|refine Z9y ?_)); refine Z9w ?_)|refine Ks ?_|refine Zb1 (fun _ _ => rfl) ?_|refine Z8s ?_|refine Zb3 (fun _ _ => rfl) ?_|refine Kc1 rfl ?_|refine Kc2 rfl ?_))
   refine Z9d rfl (by omega) hgl ?_
   (repeat(first|refine Kq rfl rfl rfl ?_|(refine Z99 ?_; (repeat(first|refine Z9x rfl ?_|refine Z9y ?_)); refine Z9w ?_)|refine Z8s ?_))
   exact loop
 rw [if_neg k10] at htk
 by_cases k12 : k = 12
 ·subst k12
  rw [if_pos rfl] at htk
  obtain ⟨VS, hts⟩ : ∃ VS, takeS cols keep ks (a + 1) s2 = some (VS, s') ∧ v = .mk false 0 0 [] VS := by
   split at htk
   ·cases htk
   ·rename_i vs s0 h0
    simp only [Option.some.injEq, Prod.mk.injEq] at htk
    obtain ⟨e1, rfl⟩ := htk
    exact ⟨vs, h0, e1.symm⟩
  obtain ⟨hts, rfl⟩ := hts
  (repeat(first|refine Kq rfl rfl rfl ?_|(refine Z99 ?_; (repeat(first|refine Z9x rfl ?_|refine Z9y ?_)); refine Z9w ?_)|refine Ks ?_|refine Zb1 (fun _ _ => rfl) ?_|refine Z8s ?_|refine Zb2 (fun _ _ => rfl) ?_|refine Zb3 (fun _ _ => rfl) ?_|refine Kc1 rfl ?_|refine Kc2 rfl ?_))
  rw [hkn]
  obtain ⟨I, hI⟩ : ∃ I : Nat → Z27 → Zc → Prop, I = fun m F σ' => ∃ (j : Nat) (st : Tk) (us : List Vl) (kv : Z0) (β : Zc), F = fset 0 (some (.iptr (Z19a l cols keep g h ba bh))) (fset 4 (some (.ptr b4 0 0)) (fset 9 (some (.ptr b9 0 0)) (fset 108 (some (.slc 1 (ints nd.kids) true)) (fset 109 (some (.int .i64 (nd.kids.length : Nat))) (fset 110 (some (.int .i64 (j : Nat))) Z28))))) ∧
   β ++ ((b9, Zb.cells 5 [.agg [.bool false, .int .i64 0, .int .i64 0, .slc 0 [] true, kv]]) :: (b4, .cells 5 [.agg [.bool false, .int .i64 0, .int .i64 0, .slc 0 [] true, .slc 0 [] true]]) :: HS H ba bh st) = σ' ∧ Zb5 5 kv (Zmg us) β ∧ b9 ∉ Zh β ∧ ba ∉ Zh β ∧ bh ∉ Zh β ∧ st.sz l.length ∧ j ≤ nd.kids.length ∧ us.length ≤ j ∧ (∃ ws, takeS cols keep (ks.drop j) (a + 1 + cntL (ks.take j)) st = some (ws, s') ∧ us ++ ws = VS) ∧ m = nd.kids.length - j := ⟨_, rfl⟩
  refine Za6 I (n := nd.kids.length) (by
   rw [hI]
   exact ⟨0, s2, [], .slc 0 [] true, [], rfl, rfl, Zb5.nil 5 0, by simp [Zh], by simp [Zh], by simp [Zh], hsz2, by omega, by simp, ⟨VS, by simpa [cntL] using hts, rfl⟩, by omega⟩) ?_
  intro m0 F σ' hIm
  rw [hI] at hIm
  obtain ⟨j', st, us, kv, β, rfl, rfl, ho, hnb, hna, hnh, hst, hj', hus, ⟨ws, hw, hVS⟩, rfl⟩ := hIm
  (repeat(first|refine Kq rfl rfl rfl ?_|(refine Z99 ?_; (repeat(first|refine Z9x rfl ?_|refine Z9y ?_)); refine Z9w ?_)|refine Ks ?_|refine Zb1 (fun _ _ => rfl) ?_))
  refine Za2 (p := (j' : Int) < (nd.kids.length : Nat)) rfl (fun h5 => ?_) (fun h5 => ?_)
  ·have hjl : j' < nd.kids.length := by omega
   have hjk : j' < ks.length := by omega
   obtain ⟨m, hx, hm, hmt, hxm⟩ := hkidx j' ks[j'] (List.getElem?_eq_getElem hjk)
   have hcs := Z18q ks j' ks[j'] (List.getElem?_eq_getElem hjk)
   have humem : ks[j'] ∈ ks := List.getElem_mem hjk
   rw [List.drop_eq_getElem_cons hjk, takeS] at hw
   generalize ks[j'] = u at hm hmt hcs hw humem hx
   generalize hxe : a + 1 + cntL (ks.take j') = x at hx hm hw hxm
   have hxl : x < l.length := (List.getElem?_eq_some_iff.1 hm).1
   have hgk := Zrn (f := Z0.bool) (show x < keep.length by omega)
   have hdk : keep.getD x false = keep[x] := by rw [List.getD_eq_getElem?_getD, List.getElem?_eq_getElem (by omega)]; rfl
   rw [hdk] at hw
   generalize keep[x] = kx at hgk hw hdk
   have hcs2 : a + 1 + cntL (ks.take (j' + 1)) = x + cnt u := by omega
   (repeat(first|refine Ks ?_|refine Zb1 (fun _ _ => rfl) ?_|refine Z8s ?_|refine Zb2 (fun _ _ => rfl) ?_))
   refine Z9d rfl (by omega) hx ?_
   (repeat(first|refine Kq rfl rfl rfl ?_|(refine Z99 ?_; (repeat(first|refine Z9x rfl ?_|refine Z9y ?_)); refine Z9w ?_)|refine Ks ?_|refine Zb1 (fun _ _ => rfl) ?_))
   refine Z9d rfl (by omega) hgk ?_
   repeat refine Kq rfl rfl rfl ?_
   (refine Z99 ?_; (repeat(first|refine Z9x rfl ?_|refine Z9y ?_)); refine Z9w ?_)
   cases kx with
   | false =>
    simp only [Bool.false_eq_true, if_false] at hw
    refine Kc2 rfl ?_
    refine Zb2 (fun _ _ => rfl) ?_
    (refine Za0 (keep := [0, 4, 9, 108, 109, 110]) ?_; ((repeat(first|refine Z9x rfl ?_|refine Z9y ?_)); refine Z9w ?_))
    refine Zb4 ?_
    repeat refine Kq rfl rfl rfl ?_
    rw [show IntKind.wrap .i64 ((j' : Int) + 1) = ((j' + 1 : Nat) : Int) by rw [w64 _ (by omega) (by omega)]; omega]
    (refine Z99 ?_; (repeat(first|refine Z9x rfl ?_|refine Z9y ?_)); refine Z9w ?_)
    refine ⟨_, nd.kids.length - (j' + 1), HSub.refl _, ?_, by omega⟩
    rw [hI]
    exact ⟨j' + 1, st, us, kv, β, rfl, rfl, ho, hnb, hna, hnh, hst, by omega, by omega, ⟨ws, by rw [hcs2]; exact hw, hVS⟩, rfl⟩
   | true =>
    have hkx := hdk
    simp only [if_true] at hw
    split at hw
    ·cases hw
    rename_i vj s1 ht1
    split at hw
    ·cases hw
    rename_i w2 s3 hw2
    simp only [Option.some.injEq, Prod.mk.injEq] at hw
    obtain ⟨rfl, rfl⟩ := hw
    have hst1 := Z18s cols keep l.length _ _ _ _ _ ht1 hst
    refine Kc1 rfl ?_
    refine Zb1 (fun _ _ => rfl) ?_
    repeat refine Kq rfl rfl rfl ?_
    refine Z191 rfl rfl (by rw [Za9 hnb]; exact Z9a) rfl rfl ?_
    repeat refine Kq rfl rfl rfl ?_
    refine Z192 rfl (call _ humem _ _ hm hmt hkx st s1 vj hst ht1 β _ hna hnh) (kept _ _ _ _ _ _ hnb) ?_
    repeat refine Kq rfl rfl rfl ?_
    refine Zb6 (ys := [.agg (Zmh vj)]) ho rfl rfl (by rw [Zmk, List.length_singleton]; omega) fun b' hb' => ?_
    obtain ⟨f9, fa, fh⟩ := fresh' b' β _ s1 hb'
    rw [heA]
    repeat refine Kq rfl rfl rfl ?_
    refine Z9g rfl (Z9b f9 Z9a) rfl (by decide) (Kfi rfl) (fun h => by cases h) (Z9i f9 Z9h) ?_
    (refine Z99 ?_; (repeat(first|refine Z9x rfl ?_|refine Z9y ?_)); refine Z9w ?_)
    refine Zb4 ?_
    repeat refine Kq rfl rfl rfl ?_
    rw [show IntKind.wrap .i64 ((j' : Int) + 1) = ((j' + 1 : Nat) : Int) by rw [w64 _ (by omega) (by omega)]; omega]
    (refine Z99 ?_; (repeat(first|refine Z9x rfl ?_|refine Z9y ?_)); refine Z9w ?_)
    refine ⟨_, nd.kids.length - (j' + 1), HSub.refl _, ?_, by omega⟩
    rw [hI]
    exact ⟨j' + 1, s1, us ++ [vj], _, _, rfl, rfl, Zb5.mk, nk _ _ _ f9, nk _ _ _ fa, nk _ _ _ fh, hst1, by omega, by rw [List.length_append, List.length_singleton]; omega, ⟨w2, by rw [hcs2]; exact hw2, by rw [List.append_assoc]; exact hVS⟩, rfl⟩
  ·rw [List.drop_of_length_le (by omega), takeS] at hw
   simp only [Option.some.injEq, Prod.mk.injEq] at hw
   obtain ⟨rfl, rfl⟩ := hw
   rw [List.append_nil] at hVS
   subst hVS
   refine Zb3 (fun _ _ => rfl) ?_
   refine Zb3 (fun _ _ => rfl) ?_
   (refine Za0 (keep := [4, 9]) ?_; ((repeat(first|refine Z9x rfl ?_|refine Z9y ?_)); refine Z9w ?_))
   exact fin st kv us β 0 0 _ ho hnb (hvle _ _ _) rfl rfl
 rw [if_neg k12] at htk
 by_cases k13 : k = 13
 ·subst k13
  rw [if_pos rfl] at htk
  obtain ⟨n, hn⟩ : ∃ n, c.ints[j]? = some n := by
   cases e : c.ints[j]? with
   | none => rw [e] at htk; cases htk
   | some n => exact ⟨n, rfl⟩
  rw [hn] at htk
  have hgi := hil2 (Z0.int .i64) c.ints n hn
  simp only at htk
  split at htk
  ·cases htk
  rename_i hn0
  split at htk
  ·cases htk
  rename_i vj s1 hN1
  simp only [Option.some.injEq, Prod.mk.injEq] at htk
  obtain ⟨rfl, rfl⟩ := htk
  obtain ⟨u, hu, ht1⟩ := Z18p hN1
  obtain ⟨m, hx, hm, hmt, hxm⟩ := hkidx n.toNat u hu
  have humem := List.mem_of_getElem? hu
  have hxn : (ints nd.kids)[n.toNat]? = some (.int .i64 ((a + 1 + cntL (ks.take n.toNat) : Nat) : Int)) := by rw [← hx, Int.toNat_natCast]
  generalize a + 1 + cntL (ks.take n.toNat) = x at hx hm ht1 hxn hxm
  have hkx : keep.getD x false = true := by
   rcases (hWh a nd hnd x hxm).2 hka with e | e
   ·exact e
   ·rw [hk] at e; cases e
  (repeat(first|refine Kq rfl rfl rfl ?_|(refine Z99 ?_; (repeat(first|refine Z9x rfl ?_|refine Z9y ?_)); refine Z9w ?_)|refine Ks ?_|refine Zb1 (fun _ _ => rfl) ?_|refine Z8s ?_|refine Zb2 (fun _ _ => rfl) ?_|refine Zb3 (fun _ _ => rfl) ?_|refine Kc1 rfl ?_|refine Kc2 rfl ?_))
  refine Z9d rfl (by omega) hgi ?_
  repeat refine Kq rfl rfl rfl ?_
  (first|refine Z9g rfl Z9a rfl (by decide) (Kfi rfl) (fun h => by cases h) Z9h ?_|refine Z96 rfl (Z9g rfl Z9a rfl (by decide) (Kfi rfl) (fun h => by cases h) Z9h ?_))
  (refine Z99 ?_; (repeat(first|refine Z9x rfl ?_|refine Z9y ?_)); refine Z9w ?_)
  refine Zb1 (fun _ _ => rfl) ?_
  repeat refine Kq rfl rfl rfl ?_
  refine Z191 rfl rfl Z9a rfl rfl ?_
  repeat refine Kq rfl rfl rfl ?_
  refine Z9c rfl Z9a rfl rfl ?_
  refine Z9d rfl (by omega) hxn ?_
  repeat refine Kq rfl rfl rfl ?_
  refine Z192 rfl (call u humem x m hm hmt hkx s2 s1 vj hsz2 ht1 [] _ (by simp [Zh]) (by simp [Zh])) (kept _ _ [] _ _ _ (by simp [Zh])) ?_
  repeat refine Kq rfl rfl rfl ?_
  refine Zb6 (β := []) (ys := [.agg (Zmh vj)]) (Zb5.nil 5 0) rfl rfl (by simp) fun b' hb' => ?_
  obtain ⟨f9, fa, fh⟩ := fresh' b' [] _ s1 hb'
  rw [show ([] : List Z0) ++ [Z0.agg (Zmh vj)] = Zmg [vj] from by rw [Zmj, List.map_cons, List.map_nil, Zmi]; rfl]
  repeat refine Kq rfl rfl rfl ?_
  refine Z9g rfl (Z9b f9 Z9a) rfl (by decide) (Kfi rfl) (fun h => by cases h) (Z9i f9 Z9h) ?_
  (refine Z99 ?_; (repeat(first|refine Z9x rfl ?_|refine Z9y ?_)); refine Z9w ?_)
  refine Zb3 (fun _ _ => rfl) ?_
  (refine Za0 (keep := [4, 9]) ?_; ((repeat(first|refine Z9x rfl ?_|refine Z9y ?_)); refine Z9w ?_))
  exact fin s1 _ [vj] [(b', _)] n 0 _ Zb5.mk (nk _ _ _ f9) (hvle _ _ _) rfl rfl
 rw [if_neg k13] at htk
 by_cases hT7 : Zmm k = true
 ·rw [if_pos hT7] at htk
  obtain ⟨bs, hbs⟩ : ∃ bs, c.texts[j]? = some bs := by
   cases e : c.texts[j]? with
   | none => rw [e] at htk; cases htk
   | some n => exact ⟨n, rfl⟩
  rw [hbs] at htk
  simp only [Option.some.injEq, Prod.mk.injEq] at htk
  obtain ⟨rfl, rfl⟩ := htk
  have hgt := hil2 (fun b => Z0.slc 1 (bytes b) false) c.texts bs hbs
  have hb4k := hC.text a c hc hka bs (List.mem_of_getElem? hbs)
  have hcl := Zr7 (bytes bs) false (fun x hx => by obtain ⟨y, _, rfl⟩ := List.mem_map.1 hx; exact ⟨rfl, by simp [Zx, Z0.cells, Z0.one]⟩) (by rw [Zac]; omega)
  have hvb : VRle [.agg [.bool false, .int .i64 0, .int .i64 0, .slc 1 (bytes bs) true, .slc 5 (Zmg []) true]] [encV (.mk false 0 0 bs [])] := by
   rw [encV]
   refine VRle.agg (by simp [Z0.one]) ?_
   exact VRle.cons (VRle.refl _) (VRle.cons (VRle.refl _) (VRle.cons (VRle.refl _) (VRle.cons VRle.full (VRle.cons VRle.full (VRle.refl _)))))
  rcases Zt2 hT7 with e | e | e | e
  ·subst e
   (repeat(first|refine Kq rfl rfl rfl ?_|(refine Z99 ?_; (repeat(first|refine Z9x rfl ?_|refine Z9y ?_)); refine Z9w ?_)|refine Ks ?_|refine Zb1 (fun _ _ => rfl) ?_|refine Z8s ?_|refine Zb2 (fun _ _ => rfl) ?_|refine Zb3 (fun _ _ => rfl) ?_|refine Kc1 rfl ?_|refine Kc2 rfl ?_))
   refine Z9d rfl (by omega) hgt ?_
   repeat refine Kq rfl rfl rfl ?_
   refine Z9v rfl (hcl _) ?_
   refine Z9v rfl (Zr4 (bytes bs) false _) ?_
   repeat refine Kq rfl rfl rfl ?_
   (first|refine Z9g rfl Z9a rfl (by decide) (Kfi rfl) (fun h => by cases h) Z9h ?_|refine Z96 rfl (Z9g rfl Z9a rfl (by decide) (Kfi rfl) (fun h => by cases h) Z9h ?_))
   (refine Z99 ?_; (repeat(first|refine Z9x rfl ?_|refine Z9y ?_)); refine Z9w ?_)
   refine Zb3 (fun _ _ => rfl) ?_
   (refine Za0 (keep := [4, 9]) ?_; ((repeat(first|refine Z9x rfl ?_|refine Z9y ?_)); refine Z9w ?_))
   exact fin s2 _ [] [] 0 0 _ (Zb5.nil 5 0) h9n hvb rfl rfl
  ·subst e
   (repeat(first|refine Kq rfl rfl rfl ?_|(refine Z99 ?_; (repeat(first|refine Z9x rfl ?_|refine Z9y ?_)); refine Z9w ?_)|refine Ks ?_|refine Zb1 (fun _ _ => rfl) ?_|refine Z8s ?_|refine Zb2 (fun _ _ => rfl) ?_|refine Zb3 (fun _ _ => rfl) ?_|refine Kc1 rfl ?_|refine Kc2 rfl ?_))
   refine Z9d rfl (by omega) hgt ?_
   repeat refine Kq rfl rfl rfl ?_
   refine Z9v rfl (hcl _) ?_
   refine Z9v rfl (Zr4 (bytes bs) false _) ?_
   repeat refine Kq rfl rfl rfl ?_
   (first|refine Z9g rfl Z9a rfl (by decide) (Kfi rfl) (fun h => by cases h) Z9h ?_|refine Z96 rfl (Z9g rfl Z9a rfl (by decide) (Kfi rfl) (fun h => by cases h) Z9h ?_))
   (refine Z99 ?_; (repeat(first|refine Z9x rfl ?_|refine Z9y ?_)); refine Z9w ?_)
   refine Zb3 (fun _ _ => rfl) ?_
   (refine Za0 (keep := [4, 9]) ?_; ((repeat(first|refine Z9x rfl ?_|refine Z9y ?_)); refine Z9w ?_))
   exact fin s2 _ [] [] 0 0 _ (Zb5.nil 5 0) h9n hvb rfl rfl
  ·subst e
   (repeat(first|refine Kq rfl rfl rfl ?_|(refine Z99 ?_; (repeat(first|refine Z9x rfl ?_|refine Z9y ?_)); refine Z9w ?_)|refine Ks ?_|refine Zb1 (fun _ _ => rfl) ?_|refine Z8s ?_|refine Zb2 (fun _ _ => rfl) ?_|refine Zb3 (fun _ _ => rfl) ?_|refine Kc1 rfl ?_|refine Kc2 rfl ?_))
   refine Z9d rfl (by omega) hgt ?_
   repeat refine Kq rfl rfl rfl ?_
   refine Z9v rfl (hcl _) ?_
   refine Z9v rfl (Zr4 (bytes bs) false _) ?_
   repeat refine Kq rfl rfl rfl ?_
   (first|refine Z9g rfl Z9a rfl (by decide) (Kfi rfl) (fun h => by cases h) Z9h ?_|refine Z96 rfl (Z9g rfl Z9a rfl (by decide) (Kfi rfl) (fun h => by cases h) Z9h ?_))
   (refine Z99 ?_; (repeat(first|refine Z9x rfl ?_|refine Z9y ?_)); refine Z9w ?_)
   refine Zb3 (fun _ _ => rfl) ?_
   (refine Za0 (keep := [4, 9]) ?_; ((repeat(first|refine Z9x rfl ?_|refine Z9y ?_)); refine Z9w ?_))
   exact fin s2 _ [] [] 0 0 _ (Zb5.nil 5 0) h9n hvb rfl rfl
  ·subst e
   (repeat(first|refine Kq rfl rfl rfl ?_|(refine Z99 ?_; (repeat(first|refine Z9x rfl ?_|refine Z9y ?_)); refine Z9w ?_)|refine Ks ?_|refine Zb1 (fun _ _ => rfl) ?_|refine Z8s ?_|refine Zb2 (fun _ _ => rfl) ?_|refine Zb3 (fun _ _ => rfl) ?_|refine Kc1 rfl ?_|refine Kc2 rfl ?_))
   refine Z9d rfl (by omega) hgt ?_
   repeat refine Kq rfl rfl rfl ?_
   refine Z9v rfl (hcl _) ?_
   refine Z9v rfl (Zr4 (bytes bs) false _) ?_
   repeat refine Kq rfl rfl rfl ?_
   (first|refine Z9g rfl Z9a rfl (by decide) (Kfi rfl) (fun h => by cases h) Z9h ?_|refine Z96 rfl (Z9g rfl Z9a rfl (by decide) (Kfi rfl) (fun h => by cases h) Z9h ?_))
   (refine Z99 ?_; (repeat(first|refine Z9x rfl ?_|refine Z9y ?_)); refine Z9w ?_)
   refine Zb3 (fun _ _ => rfl) ?_
   (refine Za0 (keep := [4, 9]) ?_; ((repeat(first|refine Z9x rfl ?_|refine Z9y ?_)); refine Z9w ?_))
   exact fin s2 _ [] [] 0 0 _ (Zb5.nil 5 0) h9n hvb rfl rfl
 rw [if_neg hT7] at htk
 by_cases k9 : k = 9
 ·subst k9
  rw [if_pos rfl] at htk
  split at htk
  ·rename_i m n hm hn
   simp only [Option.some.injEq, Prod.mk.injEq] at htk
   obtain ⟨rfl, rfl⟩ := htk
   have hgm := hil2 (Z0.int .i64) c.ns m hm
   have hgn := hil2 (Z0.int .i64) c.ints n hn
   (repeat(first|refine Kq rfl rfl rfl ?_|(refine Z99 ?_; (repeat(first|refine Z9x rfl ?_|refine Z9y ?_)); refine Z9w ?_)|refine Ks ?_|refine Zb1 (fun _ _ => rfl) ?_|refine Z8s ?_|refine Zb2 (fun _ _ => rfl) ?_|refine Zb3 (fun _ _ => rfl) ?_|refine Kc1 rfl ?_|refine Kc2 rfl ?_))
   refine Z9d rfl (by omega) hgm ?_
   repeat refine Kq rfl rfl rfl ?_
   (first|refine Z9g rfl Z9a rfl (by decide) (Kfi rfl) (fun h => by cases h) Z9h ?_|refine Z96 rfl (Z9g rfl Z9a rfl (by decide) (Kfi rfl) (fun h => by cases h) Z9h ?_))
   (refine Z99 ?_; (repeat(first|refine Z9x rfl ?_|refine Z9y ?_)); refine Z9w ?_)
   refine Za1 ?_
   repeat refine Kq rfl rfl rfl ?_
   refine Z9d rfl (by omega) hgn ?_
   repeat refine Kq rfl rfl rfl ?_
   (first|refine Z9g rfl Z9a rfl (by decide) (Kfi rfl) (fun h => by cases h) Z9h ?_|refine Z96 rfl (Z9g rfl Z9a rfl (by decide) (Kfi rfl) (fun h => by cases h) Z9h ?_))
   (refine Z99 ?_; (repeat(first|refine Z9x rfl ?_|refine Z9y ?_)); refine Z9w ?_)
   refine Zb3 (fun _ _ => rfl) ?_
   (refine Za0 (keep := [4, 9]) ?_; ((repeat(first|refine Z9x rfl ?_|refine Z9y ?_)); refine Z9w ?_))
   exact fin s2 _ [] [] n m _ (Zb5.nil 5 0) h9n (hvle _ _ _) rfl rfl
  ·cases htk
 rw [if_neg k9] at htk
 obtain ⟨n, hn⟩ : ∃ n, c.ints[j]? = some n := by
  cases e : c.ints[j]? with
  | none => rw [e] at htk; cases htk
  | some n => exact ⟨n, rfl⟩
 rw [hn] at htk
 simp only [Option.some.injEq, Prod.mk.injEq] at htk
 obtain ⟨rfl, rfl⟩ := htk
 have hgn := hil2 (Z0.int .i64) c.ints n hn
 have hnt : ¬ k = 7 ∧ ¬ k = 8 ∧ ¬ k = 16 ∧ ¬ k = 17 := by
  refine ⟨fun e => hT7 (by rw [e]; rfl), fun e => hT7 (by rw [e]; rfl), fun e => hT7 (by rw [e]; rfl), fun e => hT7 (by rw [e]; rfl)⟩
 (repeat(first|refine Kq rfl rfl rfl ?_|(refine Z99 ?_; (repeat(first|refine Z9x rfl ?_|refine Z9y ?_)); refine Z9w ?_)|refine Ks ?_|refine Zb1 (fun _ _ => rfl) ?_|refine Z8s ?_))
 (rw [decide_eq_false (p := k = 10) (by omega)])
 (repeat(first|refine Kq rfl rfl rfl ?_|(refine Z99 ?_; (repeat(first|refine Z9x rfl ?_|refine Z9y ?_)); refine Z9w ?_)|refine Zb1 (fun _ _ => rfl) ?_|refine Kc2 rfl ?_))
 (rw [decide_eq_false (p := k = 11) (by omega)])
 (repeat(first|refine Kq rfl rfl rfl ?_|(refine Z99 ?_; (repeat(first|refine Z9x rfl ?_|refine Z9y ?_)); refine Z9w ?_)|refine Ks ?_|refine Zb1 (fun _ _ => rfl) ?_|refine Zb2 (fun _ _ => rfl) ?_|refine Kc2 rfl ?_))
 (rw [decide_eq_false (p := k = 12) (by omega)])
 (repeat(first|refine Kq rfl rfl rfl ?_|(refine Z99 ?_; (repeat(first|refine Z9x rfl ?_|refine Z9y ?_)); refine Z9w ?_)|refine Ks ?_|refine Zb1 (fun _ _ => rfl) ?_|refine Zb2 (fun _ _ => rfl) ?_|refine Kc2 rfl ?_))
 (rw [decide_eq_false (p := k = 13) (by omega)])
 (repeat(first|refine Kq rfl rfl rfl ?_|(refine Z99 ?_; (repeat(first|refine Z9x rfl ?_|refine Z9y ?_)); refine Z9w ?_)|refine Ks ?_|refine Zb1 (fun _ _ => rfl) ?_|refine Zb2 (fun _ _ => rfl) ?_|refine Kc2 rfl ?_))
 (rw [decide_eq_false (p := k = 7) (by omega)])
 (repeat(first|refine Kq rfl rfl rfl ?_|(refine Z99 ?_; (repeat(first|refine Z9x rfl ?_|refine Z9y ?_)); refine Z9w ?_)|refine Ks ?_|refine Zb1 (fun _ _ => rfl) ?_|refine Kc2 rfl ?_))
 (rw [decide_eq_false (p := k = 8) (by omega)])
 (repeat(first|refine Kq rfl rfl rfl ?_|(refine Z99 ?_; (repeat(first|refine Z9x rfl ?_|refine Z9y ?_)); refine Z9w ?_)|refine Ks ?_|refine Zb1 (fun _ _ => rfl) ?_|refine Kc2 rfl ?_))
 (rw [decide_eq_false (p := k = 16) (by omega)])
 (repeat(first|refine Kq rfl rfl rfl ?_|(refine Z99 ?_; (repeat(first|refine Z9x rfl ?_|refine Z9y ?_)); refine Z9w ?_)|refine Zb1 (fun _ _ => rfl) ?_|refine Kc2 rfl ?_))
 (rw [decide_eq_false (p := k = 17) (by omega)])
 (repeat(first|refine Kq rfl rfl rfl ?_|(refine Z99 ?_; (repeat(first|refine Z9x rfl ?_|refine Z9y ?_)); refine Z9w ?_)|refine Ks ?_|refine Zb1 (fun _ _ => rfl) ?_|refine Zb2 (fun _ _ => rfl) ?_|refine Kc2 rfl ?_))
 (rw [decide_eq_false (p := k = 9) (by omega)])
 (repeat(first|refine Kq rfl rfl rfl ?_|refine Ks ?_|refine Zb1 (fun _ _ => rfl) ?_|refine Zb2 (fun _ _ => rfl) ?_|refine Zb3 (fun _ _ => rfl) ?_|refine Kc2 rfl ?_))
 refine Z9d rfl (by omega) hgn ?_
 repeat refine Kq rfl rfl rfl ?_
 (first|refine Z9g rfl Z9a rfl (by decide) (Kfi rfl) (fun h => by cases h) Z9h ?_|refine Z96 rfl (Z9g rfl Z9a rfl (by decide) (Kfi rfl) (fun h => by cases h) Z9h ?_))
 (refine Z99 ?_; (repeat(first|refine Z9x rfl ?_|refine Z9y ?_)); refine Z9w ?_)
 refine Zb3 (fun _ _ => rfl) ?_
 (refine Za0 (keep := [4, 9]) ?_; ((repeat(first|refine Z9x rfl ?_|refine Z9y ?_)); refine Z9w ?_))
 exact fin s2 _ [] [] n 0 _ (Zb5.nil 5 0) h9n (hvle _ _ _) rfl rfl
end Go.Abs

