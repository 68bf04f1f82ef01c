/- The functions of the program as the interpreter has them, printed by a program of ours. -/
import Derived.Test.YtdbmeidhlijopaaGreatDoorProg
import Derived.Test.YtdbmeidhlijopaaGreatDoorEv24
namespace Go.Proofs.YtdbmeidhlijopaaGreatDoor.Ev.C
open Go Go.Proofs.YtdbmeidhlijopaaGreatDoor.Ev
noncomputable abbrev PP:Program:=Go.Proofs.Tryz.prog
def aSU:Nat:=190
def aAT:Nat:=198
def aHl:Nat:=191
def aH9:Nat:=189
def aLG:Nat:=7
def aLt:Nat:=79
def aKU:Nat:=127
def aKS:Nat:=22
def aCf:Nat:=24
def aLP:Nat:=77
def aDk:Nat:=75
def aKN:Nat:=124
def aLC:Nat:=80
def aHy:Nat:=129
def aPQ:Nat:=26
def aF0:Nat:=23
def aLs:Nat:=25
def aDE:Nat:=86
def aMN:Nat:=85
def aFP:Nat:=140
def aDA:Nat:=3
def aId:Nat:=5
def aEk:Nat:=8
def aGI:Nat:=11
def aDY:Nat:=36
def aE9:Nat:=10
def aF6:Nat:=33
def aBX:Nat:=35
def aB5:Nat:=34
def aEV:Nat:=88
def aBM:Nat:=87
def aKx:Nat:=156
def aKV:Nat:=116
def aCj:Nat:=110
def aDV:Nat:=117
def aLQ:Nat:=6
def aFO:Nat:=20
def aBK:Nat:=74
def aAx:Nat:=119
def aA1:Nat:=71
def aAY:Nat:=72
def aC8:Nat:=161
def aAW:Nat:=70
def aFX:Nat:=73
def aAw:Nat:=122
def aDo:Nat:=21
def aAc:Nat:=162
def aFC:Nat:=121
def aAt:Nat:=32
def aAo:Nat:=76
def aAp:Nat:=128
def aBB:Nat:=78
def aAu:Nat:=158
def aAa:Nat:=125
def aBA:Nat:=163
def aAr:Nat:=123
def aBH:Nat:=126
def aBG:Nat:=186
def aAQ:Nat:=30
def aKF:Nat:=9
def aBT:Nat:=31
def aF4:Nat:=84
def aLF:Nat:=28
def aGq:Nat:=27
def aGo:Nat:=81
def aN4:Nat:=29
def aA3:Nat:=157
def aDD:Nat:=89
def aAi:Nat:=118
def aGF:Nat:=141
def aDT:Nat:=160
def aFG:Nat:=169
def aC1:Nat:=188
def aN9:Nat:=19
def aG0:Nat:=120
def aFi:Nat:=64
def aAU:Nat:=65
def aAh:Nat:=66
def aCk:Nat:=69
def aAN:Nat:=67
def aCa:Nat:=68
def aEq:Nat:=68
def g_token_keys:Nat:=0
def aHB:Nat:=1
/-! doormanlaw10_StrataEdges -/
def aEA:List AStep := [⟨some 2,.mov (.con (.bool false)),none⟩]
def aEH:List AStep := [⟨some 12,.call (.con (.func aId [])) [],none⟩,⟨some 3,.mov (.tmp 12),none⟩]
def aEE:List AStep := [⟨some 13,.mov (.tmp 3),none⟩,⟨some 14,.not (.tmp 13),none⟩]
def aKa:List AStep := [⟨some 2,.mov (.con (.bool false)),none⟩]
def aEC:List AStep := [⟨some 15,.mov (.tmp 0),none⟩,⟨some 16,.lenT (.tmp 15),none⟩,⟨some 17,.bin .gtr (.tmp 16) (.con (.int .i64 2048)),none⟩]
def aEF:List AStep := [⟨some 2,.mov (.con (.bool true)),none⟩]
def aEB:List AStep := [⟨some 19,.mov (.tmp 0),none⟩,⟨some 20,.call (.con (.func aLQ [])) [(.tmp 19)],none⟩,⟨some 18,.mov (.tmp 20),none⟩,⟨some 21,.extract (.tmp 18) 0,none⟩,⟨some 22,.extract (.tmp 18) 1,none⟩,⟨some 23,.extract (.tmp 18) 2,none⟩,⟨some 4,.alloc [.nils],none⟩,⟨none,.store 1 (.tmp 4) (.tmp 21),none⟩,⟨some 5,.mov (.tmp 22),none⟩,⟨some 6,.mov (.tmp 23),none⟩]
def aCl:List AStep := [⟨some 25,.load true 1 (.tmp 4),none⟩,⟨some 26,.call (.con (.func aLG [])) [(.tmp 25)],none⟩,⟨some 24,.mov (.tmp 26),none⟩,⟨some 27,.extract (.tmp 24) 0,none⟩,⟨some 28,.extract (.tmp 24) 1,none⟩,⟨some 7,.mov (.tmp 27),none⟩,⟨some 8,.mov (.tmp 28),none⟩]
def aAq:List AStep := [⟨some 29,.mov (.tmp 5),none⟩,⟨some 30,.bin .neq (.tmp 29) (.con (.int .i64 0)),none⟩,⟨some 31,.mov (.tmp 30),none⟩,⟨some 32,.mov (.tmp 7),(some (31,false))⟩,⟨some 33,.bin .neq (.tmp 32) (.con (.int .i64 0)),(some (31,false))⟩,⟨some 34,.pick (.tmp 31) (.con (.bool true)) (.tmp 33),none⟩]
def aBJ:List AStep := [⟨some 2,.mov (.con (.bool true)),none⟩]
def aDi:List AStep := [⟨some 35,.load true 1 (.tmp 4),none⟩,⟨some 36,.call (.con (.func aKF [])) [(.tmp 35)],none⟩,⟨some 37,.call (.con (.func aEk [])) [(.tmp 36)],none⟩,⟨some 9,.mov (.tmp 37),none⟩]
def aDv:List AStep := [⟨some 38,.load true 1 (.tmp 4),none⟩,⟨some 39,.call (.con (.func aGI [])) [(.tmp 38)],none⟩,⟨some 40,.call (.con (.func aE9 [])) [(.tmp 39)],none⟩,⟨some 10,.mov (.tmp 40),none⟩]
def aDu:List AStep := [⟨some 41,.mov (.tmp 9),none⟩,⟨some 42,.len (.tmp 41),none⟩,⟨some 43,.mov (.tmp 10),none⟩,⟨some 44,.len (.tmp 43),none⟩,⟨some 45,.bin .neq (.tmp 42) (.tmp 44),none⟩]
def aKL:List AStep := [⟨some 2,.mov (.con (.bool false)),none⟩]
def aDp:List AStep := [⟨some 11,.mov (.con (.int .i64 0)),none⟩]
def aDr:List AStep := [⟨some 46,.mov (.tmp 11),none⟩,⟨some 47,.mov (.tmp 9),none⟩,⟨some 48,.len (.tmp 47),none⟩,⟨some 49,.bin .lss (.tmp 46) (.tmp 48),none⟩]
def aDn:List DStep := [⟨0,0,⟨(some 52),(.mov (.tmp 9)),none⟩⟩,⟨1,0,⟨(some 53),(.mov (.tmp 11)),none⟩⟩,⟨2,3,⟨(some 54),(.indexAddr 3 (.tmp 52) (.tmp 53)),none⟩⟩,⟨3,7,⟨(some 55),(.load true 3 (.tmp 54)),none⟩⟩,⟨4,0,⟨(some 56),(.mov (.tmp 10)),none⟩⟩,⟨5,0,⟨(some 57),(.mov (.tmp 11)),none⟩⟩,⟨6,48,⟨(some 58),(.indexAddr 3 (.tmp 56) (.tmp 57)),none⟩⟩,⟨7,112,⟨(some 59),(.load true 3 (.tmp 58)),none⟩⟩,⟨8,255,⟨(some 60),(.eq (.flatK [.i,.i,.b]) true (.tmp 55) (.tmp 59)),none⟩⟩]
def aKP:List AStep := [⟨some 2,.mov (.con (.bool false)),none⟩]
def aKI:List AStep := [⟨some 50,.mov (.tmp 11),none⟩,⟨some 51,.bin .add (.tmp 50) (.con (.int .i64 1)),none⟩,⟨some 11,.mov (.tmp 51),none⟩]
def aJx:ACode:=(.seq (.seq (.ops aDr) (.cond (.tmp 49) .skip (.exit 0))) (.seq (.block 1 (.seq (.draw aDn) (.cond (.tmp 60) (.seq (.ops aKP) .ret) .skip))) (.ops aKI)))
def aDq:List AStep := [⟨some 2,.mov (.con (.bool true)),none⟩]
def aLM:ACode:=(.seq (.ops aEA) (.seq (.ops aEH) (.seq (.seq (.ops aEE) (.cond (.tmp 14) (.seq (.ops aKa) .ret) .skip)) (.seq (.seq (.ops aEC) (.cond (.tmp 17) (.seq (.ops aEF) .ret) .skip)) (.seq (.ops aEB) (.seq (.ops aCl) (.seq (.seq (.ops aAq) (.cond (.tmp 34) (.seq (.ops aBJ) .ret) .skip)) (.seq (.ops aDi) (.seq (.ops aDv) (.seq (.seq (.ops aDu) (.cond (.tmp 45) (.seq (.ops aKL) .ret) .skip)) (.seq (.seq (.ops aDp) (.block 0 (.loop aJx))) (.seq (.ops aDq) .ret))))))))))))
def aAf:AFunc:=⟨61,[(.tmp 2)],aLM⟩
/-! parse_Parse -/
def aOi:List AStep := [⟨some 2,.alloc [.nils],none⟩,⟨some 3,.alloc [(.int .i64 0)],none⟩,⟨some 4,.alloc [(.int .i64 0)],none⟩]
def aNf:List AStep := [⟨some 8,.mov (.tmp 0),none⟩,⟨some 9,.call (.con (.func aN9 [])) [(.tmp 8)],none⟩,⟨some 7,.mov (.tmp 9),none⟩,⟨some 10,.extract (.tmp 7) 0,none⟩,⟨some 11,.extract (.tmp 7) 1,none⟩,⟨some 12,.extract (.tmp 7) 2,none⟩,⟨some 5,.mov (.tmp 10),none⟩,⟨none,.store 1 (.tmp 3) (.tmp 11),none⟩,⟨none,.store 1 (.tmp 4) (.tmp 12),none⟩]
def aKO:List AStep := [⟨some 13,.load false 1 (.tmp 3),none⟩,⟨some 14,.bin .neq (.tmp 13) (.con (.int .i64 0)),none⟩]
def aOU:List DStep := [⟨0,0,⟨(some 15),(.build [.nils] []),none⟩⟩,⟨1,0,⟨(some 16),(.load false 1 (.tmp 3)),none⟩⟩,⟨2,0,⟨(some 17),(.load false 1 (.tmp 4)),none⟩⟩,⟨3,1,⟨none,(.store 1 (.tmp 2) (.tmp 15)),none⟩⟩,⟨4,11,⟨none,(.store 1 (.tmp 3) (.tmp 16)),none⟩⟩,⟨5,31,⟨none,(.store 1 (.tmp 4) (.tmp 17)),none⟩⟩]
def aOD:List AStep := [⟨some 18,.makeFunc aFO [(.tmp 2),(.tmp 3),(.tmp 4)],none⟩]
def aOW:List AStep := [⟨some 19,.mov (.tmp 5),none⟩,⟨some 20,.build [.nils,(.int .i64 0)] [(0,(1,(.tmp 19)))],none⟩,⟨some 21,.box (.tmp 20),none⟩,⟨some 6,.mov (.tmp 21),none⟩]
def aNj:List AStep := [⟨some 22,.mov (.tmp 6),none⟩,⟨some 23,.call (.con (.func aDo [])) [(.tmp 22)],none⟩,⟨none,.store 1 (.tmp 2) (.tmp 23),none⟩,⟨none,.store 1 (.tmp 3) (.con (.int .i64 0)),none⟩,⟨none,.store 1 (.tmp 4) (.con (.int .i64 0)),none⟩]
def aVz:DCode:=(.seq (.ops aOi) (.seq (.ops aNf) (.seq (.seq (.ops aKO) (.cond (.tmp 14) (.seq (.draw aOU) .ret) .skip)) (.dfr aOD (.tmp 18) (.seq (.ops aOW) (.seq (.ops aNj) .ret))))))
def aEn:ADef:=⟨24,[(.cell 2 true 1),(.cell 3 false 1),(.cell 4 false 1)],aVz⟩
/-! check_Check -/
def aOZ:List AStep := [⟨some 1,.box (.tmp 0),none⟩,⟨some 2,.mov (.con (.int .i64 0)),none⟩,⟨some 3,.mov (.con (.str [])),none⟩]
def aOM:List AStep := [⟨some 12,.load true 1 (.tmp 1),none⟩,⟨some 13,.call (.con (.func aKS [])) [(.tmp 12)],none⟩,⟨some 11,.mov (.tmp 13),none⟩,⟨some 14,.extract (.tmp 11) 0,none⟩,⟨some 15,.extract (.tmp 11) 1,none⟩,⟨some 2,.mov (.tmp 14),none⟩,⟨some 3,.mov (.tmp 15),none⟩]
def aOO:List AStep := [⟨some 16,.mov (.tmp 2),none⟩,⟨some 17,.bin .neq (.tmp 16) (.con (.int .i64 0)),none⟩]
def aOS:List AStep := [⟨some 18,.mov (.tmp 2),none⟩,⟨some 19,.mov (.tmp 3),none⟩,⟨some 2,.mov (.tmp 18),none⟩,⟨some 3,.mov (.tmp 19),none⟩]
def aO4:List AStep := [⟨some 20,.fieldAddr 0 (.tmp 1),none⟩,⟨some 21,.load false 1 (.tmp 20),none⟩,⟨some 22,.len (.tmp 21),none⟩,⟨some 23,.mov (.con (.int .i64 0)),none⟩]
def aOh:List AStep := [⟨some 24,.bin .lss (.tmp 23) (.tmp 22),none⟩]
def aOV:List AStep := [⟨some 25,.indexAddr 2 (.tmp 21) (.tmp 23),none⟩,⟨some 26,.load true 2 (.tmp 25),none⟩,⟨some 5,.alloc [(.str []),.nils],none⟩,⟨none,.store 2 (.tmp 5) (.tmp 26),none⟩]
def aKR:List AStep := [⟨some 27,.fieldAddr 1 (.tmp 5),none⟩,⟨some 28,.load false 1 (.tmp 27),none⟩,⟨some 29,.len (.tmp 28),none⟩,⟨some 30,.mov (.con (.int .i64 0)),none⟩]
def aOm:List AStep := [⟨some 31,.bin .lss (.tmp 30) (.tmp 29),none⟩]
def aKG:List AStep := [⟨some 32,.indexAddr 6 (.tmp 28) (.tmp 30),none⟩,⟨some 33,.load true 6 (.tmp 32),none⟩,⟨some 7,.alloc [(.str []),(.str []),(.str []),(.str []),.nils,.nils],none⟩,⟨none,.store 6 (.tmp 7) (.tmp 33),none⟩]
def aIg:List AStep := [⟨some 34,.load true 2 (.tmp 5),none⟩,⟨some 35,.load true 6 (.tmp 7),none⟩,⟨some 36,.call (.con (.func aF0 [])) [(.tmp 34),(.tmp 35)],none⟩,⟨some 2,.mov (.con (.int .i64 31)),none⟩,⟨some 3,.mov (.tmp 36),none⟩]
def aHp:List AStep := [⟨some 37,.load true 2 (.tmp 5),none⟩,⟨some 38,.fieldAddr 1 (.tmp 7),none⟩,⟨some 39,.load false 1 (.tmp 38),none⟩,⟨some 40,.call (.con (.func aCf [])) [(.tmp 37),(.tmp 39)],none⟩,⟨some 41,.not (.tmp 40),none⟩,⟨some 42,.mov (.tmp 41),none⟩,⟨some 43,.load true 2 (.tmp 5),(some (42,false))⟩,⟨some 44,.fieldAddr 2 (.tmp 7),(some (42,false))⟩,⟨some 45,.load false 1 (.tmp 44),(some (42,false))⟩,⟨some 46,.call (.con (.func aCf [])) [(.tmp 43),(.tmp 45)],(some (42,false))⟩,⟨some 47,.not (.tmp 46),(some (42,false))⟩,⟨some 48,.pick (.tmp 42) (.con (.bool true)) (.tmp 47),none⟩,⟨some 49,.mov (.tmp 48),none⟩,⟨some 50,.load true 2 (.tmp 5),(some (49,false))⟩,⟨some 51,.fieldAddr 3 (.tmp 7),(some (49,false))⟩,⟨some 52,.load false 1 (.tmp 51),(some (49,false))⟩,⟨some 53,.call (.con (.func aCf [])) [(.tmp 50),(.tmp 52)],(some (49,false))⟩,⟨some 54,.not (.tmp 53),(some (49,false))⟩,⟨some 55,.pick (.tmp 49) (.con (.bool true)) (.tmp 54),none⟩]
def aIi:List AStep := [⟨some 56,.load true 1 (.tmp 1),none⟩,⟨some 57,.fieldAddr 4 (.tmp 7),none⟩,⟨some 58,.load false 1 (.tmp 57),none⟩,⟨some 59,.call (.con (.func aLs [])) [(.tmp 56),(.tmp 58)],none⟩,⟨some 8,.mov (.tmp 59),none⟩]
def aIF:List AStep := [⟨some 60,.mov (.tmp 8),none⟩,⟨some 61,.bin .neq (.tmp 60) (.con (.int .i64 0)),none⟩]
def aIv:List AStep := [⟨some 62,.mov (.tmp 8),none⟩,⟨some 2,.mov (.tmp 62),none⟩]
def aFL:List AStep := [⟨some 63,.fieldAddr 5 (.tmp 7),none⟩,⟨some 64,.load false 1 (.tmp 63),none⟩,⟨some 65,.len (.tmp 64),none⟩,⟨some 66,.mov (.con (.int .i64 0)),none⟩]
def aMo:List AStep := [⟨some 67,.bin .lss (.tmp 66) (.tmp 65),none⟩]
def aMt:List AStep := [⟨some 68,.indexAddr 3 (.tmp 64) (.tmp 66),none⟩,⟨some 69,.load true 3 (.tmp 68),none⟩,⟨some 10,.alloc [(.int .i64 0),(.str []),(.str [])],none⟩,⟨none,.store 3 (.tmp 10) (.tmp 69),none⟩]
def aNE:List AStep := [⟨some 70,.load true 1 (.tmp 1),none⟩,⟨some 71,.load true 2 (.tmp 5),none⟩,⟨some 72,.load true 3 (.tmp 10),none⟩,⟨some 73,.call (.con (.func aPQ [])) [(.tmp 70),(.tmp 71),(.tmp 72)],none⟩,⟨some 74,.not (.tmp 73),none⟩]
def aM5:List AStep := [⟨some 75,.bin .add (.tmp 66) (.con (.int .i64 1)),none⟩,⟨some 66,.mov (.tmp 75),none⟩]
def aFN:ACode:=(.seq (.ops aMo) (.seq (.cond (.tmp 67) .skip (.exit 4)) (.seq (.block 5 (.seq (.ops aMt) (.seq (.ops aNE) (.cond (.tmp 74) (.exit 0) .skip)))) (.ops aM5))))
def aIK:List AStep := [⟨some 2,.mov (.con (.int .i64 0)),none⟩,⟨some 3,.mov (.con (.str [])),none⟩]
def aND:List AStep := [⟨some 76,.bin .add (.tmp 30) (.con (.int .i64 1)),none⟩,⟨some 30,.mov (.tmp 76),none⟩]
def aI3:ACode:=(.seq (.ops aOm) (.seq (.cond (.tmp 31) .skip (.exit 2)) (.seq (.block 3 (.seq (.ops aKG) (.seq (.ops aIg) (.seq (.seq (.ops aHp) (.cond (.tmp 55) (.exit 0) .skip)) (.seq (.seq (.ops aIi) (.seq (.ops aIF) (.cond (.tmp 61) (.seq (.ops aIv) (.exit 0)) .skip))) (.seq (.seq (.ops aFL) (.block 4 (.loop aFN))) (.ops aIK))))))) (.ops aND))))
def aMd:List AStep := [⟨some 77,.bin .add (.tmp 23) (.con (.int .i64 1)),none⟩,⟨some 23,.mov (.tmp 77),none⟩]
def aNL:ACode:=(.seq (.ops aOh) (.seq (.cond (.tmp 24) .skip (.exit 0)) (.seq (.block 1 (.seq (.ops aOV) (.seq (.ops aKR) (.block 2 (.loop aI3))))) (.ops aMd))))
def aIr:List AStep := [⟨some 78,.mov (.tmp 2),none⟩,⟨some 79,.mov (.tmp 3),none⟩,⟨some 2,.mov (.tmp 78),none⟩,⟨some 3,.mov (.tmp 79),none⟩]
def aVe:ACode:=(.seq (.ops aOZ) (.scope (.seq (.seq (.ops aOM) (.seq (.ops aOO) (.cond (.tmp 17) (.seq (.ops aOS) .ret) .skip))) (.seq .skip (.seq (.seq (.ops aO4) (.block 0 (.loop aNL))) (.seq (.ops aIr) .ret))))))
def aEo:AFunc:=⟨80,[(.tmp 2),(.tmp 3)],aVe⟩
/-! doormanlaw10_edges -/
def aHc:List AStep := [⟨some 2,.mov (.con .nils),none⟩]
def aHG:List AStep := [⟨some 3,.mov (.con .nils),none⟩]
def aH7:List AStep := [⟨some 4,.mov (.con (.int .i64 0)),none⟩]
def aHX:List AStep := [⟨some 5,.mov (.tmp 4),none⟩,⟨some 6,.mov (.tmp 0),none⟩,⟨some 7,.len (.tmp 6),none⟩,⟨some 8,.bin .lss (.tmp 5) (.tmp 7),none⟩]
def aHN:List DStep := [⟨0,0,⟨(some 11),(.mov (.tmp 3)),none⟩⟩,⟨1,0,⟨(some 12),(.mov (.tmp 0)),none⟩⟩,⟨2,0,⟨(some 13),(.mov (.tmp 4)),none⟩⟩,⟨3,6,⟨(some 14),(.indexAddr 3 (.tmp 12) (.tmp 13)),none⟩⟩,⟨4,14,⟨(some 15),(.fieldAddr 0 (.tmp 14)),none⟩⟩,⟨5,30,⟨(some 16),(.load false 1 (.tmp 15)),none⟩⟩,⟨6,0,⟨(some 17),(.mov (.tmp 0)),none⟩⟩,⟨7,0,⟨(some 18),(.mov (.tmp 4)),none⟩⟩,⟨8,192,⟨(some 19),(.indexAddr 3 (.tmp 17) (.tmp 18)),none⟩⟩,⟨9,448,⟨(some 20),(.fieldAddr 1 (.tmp 19)),none⟩⟩,⟨10,960,⟨(some 21),(.load false 1 (.tmp 20)),none⟩⟩,⟨11,0,⟨(some 22),(.mov (.tmp 0)),none⟩⟩,⟨12,0,⟨(some 23),(.mov (.tmp 4)),none⟩⟩,⟨13,6144,⟨(some 24),(.indexAddr 3 (.tmp 22) (.tmp 23)),none⟩⟩,⟨14,14336,⟨(some 25),(.fieldAddr 2 (.tmp 24)),none⟩⟩,⟨15,30720,⟨(some 26),(.load false 1 (.tmp 25)),none⟩⟩,⟨16,65534,⟨(some 27),(.build [(.int .i64 0),(.int .i64 0),(.bool false)] [(0,(1,(.tmp 16))),(1,(1,(.tmp 21))),(2,(1,(.tmp 26)))]),none⟩⟩,⟨17,131070,⟨(some 28),(.buildSlice 3 1 [(.int .i64 0),(.int .i64 0),(.bool false)] [(0,(3,(.tmp 27)))]),none⟩⟩,⟨18,262143,⟨(some 29),(.append 3 (.tmp 11) (.tmp 28)),none⟩⟩,⟨19,524287,⟨(some 3),(.mov (.tmp 29)),none⟩⟩]
def aOj:List AStep := [⟨some 9,.mov (.tmp 4),none⟩,⟨some 10,.bin .add (.tmp 9) (.con (.int .i64 1)),none⟩,⟨some 4,.mov (.tmp 10),none⟩]
def aOs:ACode:=(.seq (.seq (.ops aHX) (.cond (.tmp 8) .skip (.exit 0))) (.seq (.block 1 (.draw aHN)) (.ops aOj)))
def aHg:List AStep := [⟨some 30,.mov (.tmp 3),none⟩,⟨some 2,.mov (.tmp 30),none⟩]
def aPR:ACode:=(.seq (.ops aHc) (.seq (.ops aHG) (.seq (.seq (.ops aH7) (.block 0 (.loop aOs))) (.seq (.ops aHg) .ret))))
def aEa:AFunc:=⟨31,[(.tmp 2)],aPR⟩
/-! strata_Edges -/
def aMf:List AStep := [⟨some 1,.box (.tmp 0),none⟩,⟨some 2,.mov (.con .nils),none⟩]
def aMq:List AStep := [⟨some 16,.load true 1 (.tmp 1),none⟩,⟨some 17,.call (.con (.func aGq [])) [(.tmp 16)],none⟩,⟨some 3,.mov (.tmp 17),none⟩]
def aM9:List AStep := [⟨some 4,.mov (.con .nils),none⟩]
def aNK:List AStep := [⟨some 18,.fieldAddr 0 (.tmp 1),none⟩,⟨some 19,.load false 1 (.tmp 18),none⟩,⟨some 20,.len (.tmp 19),none⟩,⟨some 21,.mov (.con (.int .i64 0)),none⟩]
def aTv:List AStep := [⟨some 22,.bin .lss (.tmp 21) (.tmp 20),none⟩]
def aMv:List AStep := [⟨some 23,.indexAddr 2 (.tmp 19) (.tmp 21),none⟩,⟨some 24,.load true 2 (.tmp 23),none⟩,⟨some 6,.alloc [(.str []),.nils],none⟩,⟨none,.store 2 (.tmp 6) (.tmp 24),none⟩]
def aMh:List AStep := [⟨some 25,.fieldAddr 1 (.tmp 6),none⟩,⟨some 26,.load false 1 (.tmp 25),none⟩,⟨some 27,.len (.tmp 26),none⟩,⟨some 28,.mov (.con (.int .i64 0)),none⟩]
def aUO:List AStep := [⟨some 29,.bin .lss (.tmp 28) (.tmp 27),none⟩]
def aNA:List AStep := [⟨some 30,.indexAddr 6 (.tmp 26) (.tmp 28),none⟩,⟨some 31,.load true 6 (.tmp 30),none⟩,⟨some 8,.alloc [(.str []),(.str []),(.str []),(.str []),.nils,.nils],none⟩,⟨none,.store 6 (.tmp 8) (.tmp 31),none⟩]
def aM8:List AStep := [⟨some 32,.fieldAddr 5 (.tmp 8),none⟩,⟨some 33,.load false 1 (.tmp 32),none⟩,⟨some 34,.call (.con (.func aLF [])) [(.tmp 33)],none⟩,⟨some 9,.mov (.tmp 34),none⟩]
def aMA:List AStep := [⟨some 35,.fieldAddr 5 (.tmp 8),none⟩,⟨some 36,.load false 1 (.tmp 35),none⟩,⟨some 37,.len (.tmp 36),none⟩,⟨some 38,.mov (.con (.int .i64 0)),none⟩]
def aTQ:List AStep := [⟨some 39,.bin .lss (.tmp 38) (.tmp 37),none⟩]
def aMH:List AStep := [⟨some 40,.mov (.tmp 38),none⟩,⟨some 41,.indexAddr 3 (.tmp 36) (.tmp 38),none⟩,⟨some 42,.load true 3 (.tmp 41),none⟩,⟨some 11,.alloc [(.int .i64 0),(.str []),(.str [])],none⟩,⟨some 10,.mov (.tmp 40),none⟩,⟨none,.store 3 (.tmp 11) (.tmp 42),none⟩]
def aMG:List AStep := [⟨some 43,.load true 2 (.tmp 6),none⟩,⟨some 44,.load true 6 (.tmp 8),none⟩,⟨some 45,.load true 3 (.tmp 11),none⟩,⟨some 46,.call (.con (.func aN4 [])) [(.tmp 43),(.tmp 44),(.tmp 45)],none⟩,⟨some 47,.len (.tmp 46),none⟩,⟨some 48,.mov (.con (.int .i64 0)),none⟩]
def aT3:List AStep := [⟨some 49,.bin .lss (.tmp 48) (.tmp 47),none⟩]
def aLo:List AStep := [⟨some 50,.indexAddr 2 (.tmp 46) (.tmp 48),none⟩,⟨some 51,.load true 2 (.tmp 50),none⟩,⟨some 13,.alloc [(.str []),(.str [])],none⟩,⟨none,.store 2 (.tmp 13) (.tmp 51),none⟩]
def aHE:List AStep := [⟨some 53,.mov (.tmp 3),none⟩,⟨some 54,.load true 2 (.tmp 13),none⟩,⟨some 55,.mapGet (.flat [.s,.s]) true (.int .i64 0) (.tmp 53) (.tmp 54),none⟩,⟨some 52,.mov (.tmp 55),none⟩,⟨some 56,.extract (.tmp 52) 0,none⟩,⟨some 57,.extract (.tmp 52) 1,none⟩,⟨some 14,.mov (.tmp 56),none⟩,⟨some 15,.mov (.tmp 57),none⟩]
def aGu:List AStep := [⟨some 58,.mov (.tmp 15),none⟩]
def aMC:List DStep := [⟨0,0,⟨(some 59),(.mov (.tmp 4)),none⟩⟩,⟨1,0,⟨(some 60),(.mov (.tmp 3)),none⟩⟩,⟨2,0,⟨(some 61),(.fieldAddr 0 (.tmp 6)),none⟩⟩,⟨3,4,⟨(some 62),(.load false 1 (.tmp 61)),none⟩⟩,⟨4,0,⟨(some 63),(.fieldAddr 0 (.tmp 8)),none⟩⟩,⟨5,16,⟨(some 64),(.load false 1 (.tmp 63)),none⟩⟩,⟨6,60,⟨(some 65),(.build [(.str []),(.str [])] [(0,(1,(.tmp 62))),(1,(1,(.tmp 64)))]),none⟩⟩,⟨7,126,⟨(some 66),(.mapGet (.flat [.s,.s]) false (.int .i64 0) (.tmp 60) (.tmp 65)),none⟩⟩,⟨8,0,⟨(some 67),(.mov (.tmp 14)),none⟩⟩,⟨9,0,⟨(some 68),(.mov (.tmp 9)),none⟩⟩,⟨10,0,⟨(some 69),(.mov (.tmp 10)),none⟩⟩,⟨11,1536,⟨(some 70),(.indexAddr 1 (.tmp 68) (.tmp 69)),none⟩⟩,⟨12,3584,⟨(some 71),(.load false 1 (.tmp 70)),none⟩⟩,⟨13,8190,⟨(some 72),(.build [(.int .i64 0),(.int .i64 0),(.bool false)] [(0,(1,(.tmp 66))),(1,(1,(.tmp 67))),(2,(1,(.tmp 71)))]),none⟩⟩,⟨14,16382,⟨(some 73),(.buildSlice 3 1 [(.int .i64 0),(.int .i64 0),(.bool false)] [(0,(3,(.tmp 72)))]),none⟩⟩,⟨15,32767,⟨(some 74),(.append 3 (.tmp 59) (.tmp 73)),none⟩⟩,⟨16,65535,⟨(some 4),(.mov (.tmp 74)),none⟩⟩]
def aTP:List AStep := [⟨some 75,.bin .add (.tmp 48) (.con (.int .i64 1)),none⟩,⟨some 48,.mov (.tmp 75),none⟩]
def aTa:ACode:=(.seq (.ops aT3) (.seq (.cond (.tmp 49) .skip (.exit 6)) (.seq (.block 7 (.seq (.ops aLo) (.seq (.ops aHE) (.seq (.ops aGu) (.cond (.tmp 58) (.draw aMC) .skip))))) (.ops aTP))))
def aTO:List AStep := [⟨some 76,.bin .add (.tmp 38) (.con (.int .i64 1)),none⟩,⟨some 38,.mov (.tmp 76),none⟩]
def aTW:ACode:=(.seq (.ops aTQ) (.seq (.cond (.tmp 39) .skip (.exit 4)) (.seq (.block 5 (.seq (.ops aMH) (.seq (.ops aMG) (.block 6 (.loop aTa))))) (.ops aTO))))
def aT7:List AStep := [⟨some 77,.bin .add (.tmp 28) (.con (.int .i64 1)),none⟩,⟨some 28,.mov (.tmp 77),none⟩]
def aTb:ACode:=(.seq (.ops aUO) (.seq (.cond (.tmp 29) .skip (.exit 2)) (.seq (.block 3 (.seq (.ops aNA) (.seq (.ops aM8) (.seq (.ops aMA) (.block 4 (.loop aTW)))))) (.ops aT7))))
def aTE:List AStep := [⟨some 78,.bin .add (.tmp 21) (.con (.int .i64 1)),none⟩,⟨some 21,.mov (.tmp 78),none⟩]
def aT4:ACode:=(.seq (.ops aTv) (.seq (.cond (.tmp 22) .skip (.exit 0)) (.seq (.block 1 (.seq (.ops aMv) (.seq (.ops aMh) (.block 2 (.loop aTb))))) (.ops aTE))))
def aMR:List AStep := [⟨some 79,.mov (.tmp 4),none⟩,⟨some 80,.call (.con (.func aAQ [])) [(.tmp 79),(.con (.func aBT []))],none⟩]
def aMM:List AStep := [⟨some 81,.mov (.tmp 4),none⟩,⟨some 82,.call (.con (.func aAt [])) [(.tmp 81)],none⟩,⟨some 2,.mov (.tmp 82),none⟩]
def aU5:ACode:=(.seq (.ops aMf) (.seq (.ops aMq) (.seq (.ops aM9) (.seq (.seq (.ops aNK) (.block 0 (.loop aT4))) (.seq (.ops aMR) (.seq (.ops aMM) .ret))))))
def aJv:AFunc:=⟨83,[(.tmp 2)],aU5⟩
/-! doormanref10_Edges -/
def aHa:List AStep := [⟨some 2,.mov (.con .nils),none⟩]
def aHL:List AStep := [⟨some 3,.mov (.con .nils),none⟩]
def aHK:List AStep := [⟨some 4,.mov (.con (.int .i64 0)),none⟩]
def aHQ:List AStep := [⟨some 5,.mov (.con (.int .i64 0)),none⟩]
def aH4:List AStep := [⟨some 13,.mov (.tmp 5),none⟩,⟨some 14,.mov (.tmp 0),none⟩,⟨some 15,.len (.tmp 14),none⟩,⟨some 16,.bin .lss (.tmp 13) (.tmp 15),none⟩]
def aHZ:List AStep := [⟨some 6,.mov (.con (.int .i64 0)),none⟩]
def aHT:List AStep := [⟨some 19,.mov (.tmp 6),none⟩,⟨some 20,.mov (.tmp 0),none⟩,⟨some 21,.mov (.tmp 5),none⟩,⟨some 22,.indexAddr 2 (.tmp 20) (.tmp 21),none⟩,⟨some 23,.fieldAddr 1 (.tmp 22),none⟩,⟨some 24,.load false 1 (.tmp 23),none⟩,⟨some 25,.len (.tmp 24),none⟩,⟨some 26,.bin .lss (.tmp 19) (.tmp 25),none⟩]
def aH1:List AStep := [⟨some 29,.mov (.tmp 0),none⟩,⟨some 30,.mov (.tmp 5),none⟩,⟨some 31,.indexAddr 2 (.tmp 29) (.tmp 30),none⟩,⟨some 32,.fieldAddr 1 (.tmp 31),none⟩,⟨some 33,.load false 1 (.tmp 32),none⟩,⟨some 34,.mov (.tmp 6),none⟩,⟨some 35,.indexAddr 6 (.tmp 33) (.tmp 34),none⟩,⟨some 36,.load true 6 (.tmp 35),none⟩,⟨some 7,.alloc [(.str []),(.str []),(.str []),(.str []),.nils,.nils],none⟩,⟨none,.store 6 (.tmp 7) (.tmp 36),none⟩]
def aHU:List AStep := [⟨some 8,.mov (.con (.int .i64 0)),none⟩]
def aHh:List AStep := [⟨some 37,.mov (.tmp 8),none⟩,⟨some 38,.fieldAddr 5 (.tmp 7),none⟩,⟨some 39,.load false 1 (.tmp 38),none⟩,⟨some 40,.len (.tmp 39),none⟩,⟨some 41,.bin .lss (.tmp 37) (.tmp 40),none⟩]
def aGN:List AStep := [⟨some 44,.fieldAddr 5 (.tmp 7),none⟩,⟨some 45,.load false 1 (.tmp 44),none⟩,⟨some 46,.mov (.tmp 8),none⟩,⟨some 47,.call (.con (.func aF6 [])) [(.tmp 45),(.tmp 46)],none⟩,⟨some 9,.mov (.tmp 47),none⟩]
def aG9:List AStep := [⟨some 48,.fieldAddr 5 (.tmp 7),none⟩,⟨some 49,.load false 1 (.tmp 48),none⟩,⟨some 50,.mov (.tmp 8),none⟩,⟨some 51,.indexAddr 3 (.tmp 49) (.tmp 50),none⟩,⟨some 52,.load true 3 (.tmp 51),none⟩,⟨some 10,.alloc [(.int .i64 0),(.str []),(.str [])],none⟩,⟨none,.store 3 (.tmp 10) (.tmp 52),none⟩]
def aGO:List AStep := [⟨some 53,.fieldAddr 4 (.tmp 7),none⟩,⟨some 54,.load false 1 (.tmp 53),none⟩,⟨some 11,.mov (.tmp 54),none⟩]
def aG7:List AStep := [⟨some 55,.fieldAddr 0 (.tmp 10),none⟩,⟨some 56,.load false 1 (.tmp 55),none⟩,⟨some 57,.bin .eql (.tmp 56) (.con (.int .i64 2)),none⟩]
def aGa:List DStep := [⟨0,0,⟨(some 58),(.mov (.tmp 3)),none⟩⟩,⟨1,0,⟨(some 59),(.mov (.tmp 4)),none⟩⟩,⟨2,0,⟨(some 60),(.mov (.tmp 0)),none⟩⟩,⟨3,0,⟨(some 61),(.mov (.tmp 0)),none⟩⟩,⟨4,0,⟨(some 62),(.mov (.tmp 5)),none⟩⟩,⟨5,24,⟨(some 63),(.indexAddr 2 (.tmp 61) (.tmp 62)),none⟩⟩,⟨6,56,⟨(some 64),(.fieldAddr 0 (.tmp 63)),none⟩⟩,⟨7,120,⟨(some 65),(.load false 1 (.tmp 64)),none⟩⟩,⟨8,0,⟨(some 66),(.fieldAddr 1 (.tmp 10)),none⟩⟩,⟨9,256,⟨(some 67),(.load false 1 (.tmp 66)),none⟩⟩,⟨11,0,⟨(some 69),(.mov (.tmp 9)),none⟩⟩,⟨10,1020,⟨(some 68),(.call (.con (.func aBX [])) [(.tmp 60),(.tmp 65),(.tmp 67)]),none⟩⟩,⟨12,4094,⟨(some 70),(.build [(.int .i64 0),(.int .i64 0),(.bool false)] [(0,(1,(.tmp 59))),(1,(1,(.tmp 68))),(2,(1,(.tmp 69)))]),none⟩⟩,⟨13,8191,⟨(some 71),(.call (.con (.func aB5 [])) [(.tmp 58),(.tmp 70)]),none⟩⟩,⟨14,16383,⟨(some 3),(.mov (.tmp 71)),none⟩⟩]
def aDd:List AStep := [⟨some 72,.fieldAddr 0 (.tmp 10),none⟩,⟨some 73,.load false 1 (.tmp 72),none⟩,⟨some 74,.bin .eql (.tmp 73) (.con (.int .i64 3)),none⟩]
def aGW:List DStep := [⟨0,0,⟨(some 75),(.mov (.tmp 0)),none⟩⟩,⟨1,0,⟨(some 76),(.mov (.tmp 5)),none⟩⟩,⟨2,3,⟨(some 77),(.indexAddr 2 (.tmp 75) (.tmp 76)),none⟩⟩,⟨3,7,⟨(some 78),(.fieldAddr 1 (.tmp 77)),none⟩⟩,⟨4,15,⟨(some 79),(.load false 1 (.tmp 78)),none⟩⟩,⟨5,0,⟨(some 80),(.mov (.tmp 0)),none⟩⟩,⟨6,0,⟨(some 81),(.mov (.tmp 5)),none⟩⟩,⟨7,96,⟨(some 82),(.indexAddr 2 (.tmp 80) (.tmp 81)),none⟩⟩,⟨8,224,⟨(some 83),(.load true 2 (.tmp 82)),none⟩⟩,⟨9,0,⟨(some 84),(.fieldAddr 1 (.tmp 10)),none⟩⟩,⟨10,512,⟨(some 85),(.load false 1 (.tmp 84)),none⟩⟩,⟨11,2016,⟨(some 86),(.call (.con (.func aDY [])) [(.tmp 83),(.tmp 85)]),none⟩⟩,⟨12,4095,⟨(some 87),(.indexAddr 6 (.tmp 79) (.tmp 86)),none⟩⟩,⟨13,8191,⟨(some 88),(.fieldAddr 4 (.tmp 87)),none⟩⟩,⟨14,16383,⟨(some 89),(.load false 1 (.tmp 88)),none⟩⟩,⟨15,32767,⟨(some 11),(.mov (.tmp 89)),none⟩⟩]
def aBP:List AStep := [⟨some 12,.mov (.con (.int .i64 0)),none⟩]
def aAv:List AStep := [⟨some 90,.mov (.tmp 12),none⟩,⟨some 91,.mov (.tmp 11),none⟩,⟨some 92,.len (.tmp 91),none⟩,⟨some 93,.bin .lss (.tmp 90) (.tmp 92),none⟩,⟨some 94,.mov (.tmp 93),none⟩,⟨some 95,.fieldAddr 0 (.tmp 10),(some (94,true))⟩,⟨some 96,.load false 1 (.tmp 95),(some (94,true))⟩,⟨some 97,.bin .eql (.tmp 96) (.con (.int .i64 1)),(some (94,true))⟩,⟨some 98,.mov (.tmp 97),(some (94,true))⟩,⟨some 99,.fieldAddr 0 (.tmp 10),(some (98,false))⟩,⟨some 100,.load false 1 (.tmp 99),(some (98,false))⟩,⟨some 101,.bin .eql (.tmp 100) (.con (.int .i64 3)),(some (98,false))⟩,⟨some 102,.pick (.tmp 98) (.con (.bool true)) (.tmp 101),(some (94,true))⟩,⟨some 103,.pick (.tmp 94) (.tmp 102) (.con (.bool false)),none⟩]
def aD8:List AStep := [⟨some 106,.fieldAddr 0 (.tmp 10),none⟩,⟨some 107,.load false 1 (.tmp 106),none⟩,⟨some 108,.bin .eql (.tmp 107) (.con (.int .i64 1)),none⟩,⟨some 109,.mov (.tmp 108),none⟩,⟨some 110,.mov (.tmp 11),(some (109,true))⟩,⟨some 111,.mov (.tmp 12),(some (109,true))⟩,⟨some 112,.indexAddr 2 (.tmp 110) (.tmp 111),(some (109,true))⟩,⟨some 113,.fieldAddr 1 (.tmp 112),(some (109,true))⟩,⟨some 114,.load false 1 (.tmp 113),(some (109,true))⟩,⟨some 115,.bin .neq (.tmp 114) (.con (.str [])),(some (109,true))⟩,⟨some 116,.pick (.tmp 109) (.tmp 115) (.con (.bool false)),none⟩]
def aGV:List DStep := [⟨0,0,⟨(some 117),(.mov (.tmp 3)),none⟩⟩,⟨1,0,⟨(some 118),(.mov (.tmp 4)),none⟩⟩,⟨2,0,⟨(some 119),(.mov (.tmp 0)),none⟩⟩,⟨3,0,⟨(some 120),(.mov (.tmp 11)),none⟩⟩,⟨4,0,⟨(some 121),(.mov (.tmp 12)),none⟩⟩,⟨5,24,⟨(some 122),(.indexAddr 2 (.tmp 120) (.tmp 121)),none⟩⟩,⟨6,56,⟨(some 123),(.fieldAddr 0 (.tmp 122)),none⟩⟩,⟨7,120,⟨(some 124),(.load false 1 (.tmp 123)),none⟩⟩,⟨8,0,⟨(some 125),(.mov (.tmp 11)),none⟩⟩,⟨9,0,⟨(some 126),(.mov (.tmp 12)),none⟩⟩,⟨10,768,⟨(some 127),(.indexAddr 2 (.tmp 125) (.tmp 126)),none⟩⟩,⟨11,1792,⟨(some 128),(.fieldAddr 1 (.tmp 127)),none⟩⟩,⟨12,3840,⟨(some 129),(.load false 1 (.tmp 128)),none⟩⟩,⟨14,0,⟨(some 131),(.mov (.tmp 9)),none⟩⟩,⟨13,8188,⟨(some 130),(.call (.con (.func aBX [])) [(.tmp 119),(.tmp 124),(.tmp 129)]),none⟩⟩,⟨15,32766,⟨(some 132),(.build [(.int .i64 0),(.int .i64 0),(.bool false)] [(0,(1,(.tmp 118))),(1,(1,(.tmp 130))),(2,(1,(.tmp 131)))]),none⟩⟩,⟨16,65535,⟨(some 133),(.call (.con (.func aB5 [])) [(.tmp 117),(.tmp 132)]),none⟩⟩,⟨17,131071,⟨(some 3),(.mov (.tmp 133)),none⟩⟩]
def aCh:List AStep := [⟨some 134,.fieldAddr 0 (.tmp 10),none⟩,⟨some 135,.load false 1 (.tmp 134),none⟩,⟨some 136,.bin .eql (.tmp 135) (.con (.int .i64 3)),none⟩,⟨some 137,.mov (.tmp 136),none⟩,⟨some 138,.mov (.tmp 11),(some (137,true))⟩,⟨some 139,.mov (.tmp 12),(some (137,true))⟩,⟨some 140,.indexAddr 2 (.tmp 138) (.tmp 139),(some (137,true))⟩,⟨some 141,.fieldAddr 1 (.tmp 140),(some (137,true))⟩,⟨some 142,.load false 1 (.tmp 141),(some (137,true))⟩,⟨some 143,.bin .eql (.tmp 142) (.con (.str [])),(some (137,true))⟩,⟨some 144,.pick (.tmp 137) (.tmp 143) (.con (.bool false)),none⟩]
def aDb:List DStep := [⟨0,0,⟨(some 145),(.mov (.tmp 3)),none⟩⟩,⟨1,0,⟨(some 146),(.mov (.tmp 4)),none⟩⟩,⟨2,0,⟨(some 147),(.mov (.tmp 0)),none⟩⟩,⟨3,0,⟨(some 148),(.mov (.tmp 11)),none⟩⟩,⟨4,0,⟨(some 149),(.mov (.tmp 12)),none⟩⟩,⟨5,24,⟨(some 150),(.indexAddr 2 (.tmp 148) (.tmp 149)),none⟩⟩,⟨6,56,⟨(some 151),(.fieldAddr 0 (.tmp 150)),none⟩⟩,⟨7,120,⟨(some 152),(.load false 1 (.tmp 151)),none⟩⟩,⟨8,0,⟨(some 153),(.fieldAddr 2 (.tmp 10)),none⟩⟩,⟨9,256,⟨(some 154),(.load false 1 (.tmp 153)),none⟩⟩,⟨11,0,⟨(some 156),(.mov (.tmp 9)),none⟩⟩,⟨10,1020,⟨(some 155),(.call (.con (.func aBX [])) [(.tmp 147),(.tmp 152),(.tmp 154)]),none⟩⟩,⟨12,4094,⟨(some 157),(.build [(.int .i64 0),(.int .i64 0),(.bool false)] [(0,(1,(.tmp 146))),(1,(1,(.tmp 155))),(2,(1,(.tmp 156)))]),none⟩⟩,⟨13,8191,⟨(some 158),(.call (.con (.func aB5 [])) [(.tmp 145),(.tmp 157)]),none⟩⟩,⟨14,16383,⟨(some 3),(.mov (.tmp 158)),none⟩⟩]
def aNY:List AStep := [⟨some 104,.mov (.tmp 12),none⟩,⟨some 105,.bin .add (.tmp 104) (.con (.int .i64 1)),none⟩,⟨some 12,.mov (.tmp 105),none⟩]
def aCg:ACode:=(.seq (.seq (.ops aAv) (.cond (.tmp 103) .skip (.exit 6))) (.seq (.block 7 (.seq (.seq (.ops aD8) (.cond (.tmp 116) (.draw aGV) .skip)) (.seq (.ops aCh) (.cond (.tmp 144) (.draw aDb) .skip)))) (.ops aNY)))
def aN8:List AStep := [⟨some 42,.mov (.tmp 8),none⟩,⟨some 43,.bin .add (.tmp 42) (.con (.int .i64 1)),none⟩,⟨some 8,.mov (.tmp 43),none⟩]
def aN5:ACode:=(.seq (.seq (.ops aHh) (.cond (.tmp 41) .skip (.exit 4))) (.seq (.block 5 (.seq (.ops aGN) (.seq (.ops aG9) (.seq (.ops aGO) (.seq (.seq (.ops aG7) (.cond (.tmp 57) (.draw aGa) .skip)) (.seq (.seq (.ops aDd) (.cond (.tmp 74) (.draw aGW) .skip)) (.seq (.ops aBP) (.block 6 (.loop aCg))))))))) (.ops aN8)))
def aGP:List AStep := [⟨some 159,.mov (.tmp 4),none⟩,⟨some 160,.bin .add (.tmp 159) (.con (.int .i64 1)),none⟩,⟨some 4,.mov (.tmp 160),none⟩]
def aNZ:List AStep := [⟨some 27,.mov (.tmp 6),none⟩,⟨some 28,.bin .add (.tmp 27) (.con (.int .i64 1)),none⟩,⟨some 6,.mov (.tmp 28),none⟩]
def aN2:ACode:=(.seq (.seq (.ops aHT) (.cond (.tmp 26) .skip (.exit 2))) (.seq (.block 3 (.seq (.ops aH1) (.seq (.seq (.ops aHU) (.block 4 (.loop aN5))) (.ops aGP)))) (.ops aNZ)))
def aNN:List AStep := [⟨some 17,.mov (.tmp 5),none⟩,⟨some 18,.bin .add (.tmp 17) (.con (.int .i64 1)),none⟩,⟨some 5,.mov (.tmp 18),none⟩]
def aNR:ACode:=(.seq (.seq (.ops aH4) (.cond (.tmp 16) .skip (.exit 0))) (.seq (.block 1 (.seq (.ops aHZ) (.block 2 (.loop aN2)))) (.ops aNN)))
def aGT:List AStep := [⟨some 161,.mov (.tmp 3),none⟩,⟨some 2,.mov (.tmp 161),none⟩]
def aP3:ACode:=(.seq (.ops aHa) (.seq (.ops aHL) (.seq (.ops aHK) (.seq (.seq (.ops aHQ) (.block 0 (.loop aNR))) (.seq (.ops aGT) .ret)))))
def aE2:AFunc:=⟨162,[(.tmp 2)],aP3⟩
/-! doormanlaw10_of -/
def aKc:List AStep := [⟨some 1,.box (.tmp 0),none⟩,⟨some 2,.mov (.con .nils),none⟩]
def aKo:List AStep := [⟨some 3,.mov (.con .nils),none⟩]
def aKh:List AStep := [⟨some 4,.mov (.con (.int .i64 0)),none⟩]
def aKj:List AStep := [⟨some 11,.mov (.tmp 4),none⟩,⟨some 12,.fieldAddr 0 (.tmp 1),none⟩,⟨some 13,.load false 1 (.tmp 12),none⟩,⟨some 14,.len (.tmp 13),none⟩,⟨some 15,.bin .lss (.tmp 11) (.tmp 14),none⟩]
def aKw:List AStep := [⟨some 18,.fieldAddr 0 (.tmp 1),none⟩,⟨some 19,.load false 1 (.tmp 18),none⟩,⟨some 20,.mov (.tmp 4),none⟩,⟨some 21,.indexAddr 2 (.tmp 19) (.tmp 20),none⟩,⟨some 22,.fieldAddr 0 (.tmp 21),none⟩,⟨some 23,.load false 1 (.tmp 22),none⟩,⟨some 24,.build [(.str []),.nils] [(0,(1,(.tmp 23)))],none⟩,⟨some 5,.alloc [(.str []),.nils],none⟩,⟨none,.store 2 (.tmp 5) (.tmp 24),none⟩]
def aKi:List AStep := [⟨some 6,.mov (.con (.int .i64 0)),none⟩]
def aKg:List AStep := [⟨some 25,.mov (.tmp 6),none⟩,⟨some 26,.fieldAddr 0 (.tmp 1),none⟩,⟨some 27,.load false 1 (.tmp 26),none⟩,⟨some 28,.mov (.tmp 4),none⟩,⟨some 29,.indexAddr 2 (.tmp 27) (.tmp 28),none⟩,⟨some 30,.fieldAddr 1 (.tmp 29),none⟩,⟨some 31,.load false 1 (.tmp 30),none⟩,⟨some 32,.len (.tmp 31),none⟩,⟨some 33,.bin .lss (.tmp 25) (.tmp 32),none⟩]
def aKv:List AStep := [⟨some 36,.fieldAddr 0 (.tmp 1),none⟩,⟨some 37,.load false 1 (.tmp 36),none⟩,⟨some 38,.mov (.tmp 4),none⟩,⟨some 39,.indexAddr 2 (.tmp 37) (.tmp 38),none⟩,⟨some 40,.fieldAddr 1 (.tmp 39),none⟩,⟨some 41,.load false 1 (.tmp 40),none⟩,⟨some 42,.mov (.tmp 6),none⟩,⟨some 43,.indexAddr 6 (.tmp 41) (.tmp 42),none⟩,⟨some 44,.load true 6 (.tmp 43),none⟩,⟨some 7,.alloc [(.str []),(.str []),(.str []),(.str []),.nils,.nils],none⟩,⟨none,.store 6 (.tmp 7) (.tmp 44),none⟩]
def aKb:List AStep := [⟨some 45,.fieldAddr 0 (.tmp 7),none⟩,⟨some 46,.load false 1 (.tmp 45),none⟩,⟨some 47,.fieldAddr 1 (.tmp 7),none⟩,⟨some 48,.load false 1 (.tmp 47),none⟩,⟨some 49,.fieldAddr 2 (.tmp 7),none⟩,⟨some 50,.load false 1 (.tmp 49),none⟩,⟨some 51,.fieldAddr 3 (.tmp 7),none⟩,⟨some 52,.load false 1 (.tmp 51),none⟩,⟨some 53,.build [(.str []),(.str []),(.str []),(.str []),.nils,.nils] [(0,(1,(.tmp 46))),(1,(1,(.tmp 48))),(2,(1,(.tmp 50))),(3,(1,(.tmp 52)))],none⟩,⟨some 8,.alloc [(.str []),(.str []),(.str []),(.str []),.nils,.nils],none⟩,⟨none,.store 6 (.tmp 8) (.tmp 53),none⟩]
def aK3:List AStep := [⟨some 9,.mov (.con (.int .i64 0)),none⟩]
def aJV:List AStep := [⟨some 54,.mov (.tmp 9),none⟩,⟨some 55,.fieldAddr 4 (.tmp 7),none⟩,⟨some 56,.load false 1 (.tmp 55),none⟩,⟨some 57,.len (.tmp 56),none⟩,⟨some 58,.bin .lss (.tmp 54) (.tmp 57),none⟩]
def aIx:List DStep := [⟨0,0,⟨(some 61),(.fieldAddr 4 (.tmp 8)),none⟩⟩,⟨1,1,⟨(some 62),(.load false 1 (.tmp 61)),none⟩⟩,⟨2,0,⟨(some 63),(.fieldAddr 4 (.tmp 7)),none⟩⟩,⟨3,4,⟨(some 64),(.load false 1 (.tmp 63)),none⟩⟩,⟨4,0,⟨(some 65),(.mov (.tmp 9)),none⟩⟩,⟨5,28,⟨(some 66),(.indexAddr 2 (.tmp 64) (.tmp 65)),none⟩⟩,⟨6,60,⟨(some 67),(.fieldAddr 0 (.tmp 66)),none⟩⟩,⟨7,124,⟨(some 68),(.load false 1 (.tmp 67)),none⟩⟩,⟨8,0,⟨(some 69),(.fieldAddr 4 (.tmp 7)),none⟩⟩,⟨9,256,⟨(some 70),(.load false 1 (.tmp 69)),none⟩⟩,⟨10,0,⟨(some 71),(.mov (.tmp 9)),none⟩⟩,⟨11,1792,⟨(some 72),(.indexAddr 2 (.tmp 70) (.tmp 71)),none⟩⟩,⟨12,3840,⟨(some 73),(.fieldAddr 1 (.tmp 72)),none⟩⟩,⟨13,7936,⟨(some 74),(.load false 1 (.tmp 73)),none⟩⟩,⟨14,16380,⟨(some 75),(.build [(.str []),(.str [])] [(0,(1,(.tmp 68))),(1,(1,(.tmp 74)))]),none⟩⟩,⟨15,32764,⟨(some 76),(.buildSlice 2 1 [(.str []),(.str [])] [(0,(2,(.tmp 75)))]),none⟩⟩,⟨16,65535,⟨(some 77),(.append 2 (.tmp 62) (.tmp 76)),none⟩⟩,⟨17,131071,⟨(some 78),(.fieldAddr 4 (.tmp 8)),none⟩⟩,⟨18,262143,⟨none,(.store 1 (.tmp 78) (.tmp 77)),none⟩⟩]
def aQj:List AStep := [⟨some 59,.mov (.tmp 9),none⟩,⟨some 60,.bin .add (.tmp 59) (.con (.int .i64 1)),none⟩,⟨some 9,.mov (.tmp 60),none⟩]
def aJi:ACode:=(.seq (.seq (.ops aJV) (.cond (.tmp 58) .skip (.exit 4))) (.seq (.block 5 (.draw aIx)) (.ops aQj)))
def aJM:List AStep := [⟨some 10,.mov (.con (.int .i64 0)),none⟩]
def aJK:List AStep := [⟨some 79,.mov (.tmp 10),none⟩,⟨some 80,.fieldAddr 5 (.tmp 7),none⟩,⟨some 81,.load false 1 (.tmp 80),none⟩,⟨some 82,.len (.tmp 81),none⟩,⟨some 83,.bin .lss (.tmp 79) (.tmp 82),none⟩]
def aJL:List DStep := [⟨0,0,⟨(some 86),(.fieldAddr 5 (.tmp 8)),none⟩⟩,⟨1,1,⟨(some 87),(.load false 1 (.tmp 86)),none⟩⟩,⟨2,0,⟨(some 88),(.fieldAddr 5 (.tmp 7)),none⟩⟩,⟨3,4,⟨(some 89),(.load false 1 (.tmp 88)),none⟩⟩,⟨4,0,⟨(some 90),(.mov (.tmp 10)),none⟩⟩,⟨5,28,⟨(some 91),(.indexAddr 3 (.tmp 89) (.tmp 90)),none⟩⟩,⟨6,60,⟨(some 92),(.fieldAddr 0 (.tmp 91)),none⟩⟩,⟨7,124,⟨(some 93),(.load false 1 (.tmp 92)),none⟩⟩,⟨8,0,⟨(some 94),(.fieldAddr 5 (.tmp 7)),none⟩⟩,⟨9,256,⟨(some 95),(.load false 1 (.tmp 94)),none⟩⟩,⟨10,0,⟨(some 96),(.mov (.tmp 10)),none⟩⟩,⟨11,1792,⟨(some 97),(.indexAddr 3 (.tmp 95) (.tmp 96)),none⟩⟩,⟨12,3840,⟨(some 98),(.fieldAddr 1 (.tmp 97)),none⟩⟩,⟨13,7936,⟨(some 99),(.load false 1 (.tmp 98)),none⟩⟩,⟨14,0,⟨(some 100),(.fieldAddr 5 (.tmp 7)),none⟩⟩,⟨15,16384,⟨(some 101),(.load false 1 (.tmp 100)),none⟩⟩,⟨16,0,⟨(some 102),(.mov (.tmp 10)),none⟩⟩,⟨17,114688,⟨(some 103),(.indexAddr 3 (.tmp 101) (.tmp 102)),none⟩⟩,⟨18,245760,⟨(some 104),(.fieldAddr 2 (.tmp 103)),none⟩⟩,⟨19,507904,⟨(some 105),(.load false 1 (.tmp 104)),none⟩⟩,⟨20,1048572,⟨(some 106),(.build [(.int .i64 0),(.str []),(.str [])] [(0,(1,(.tmp 93))),(1,(1,(.tmp 99))),(2,(1,(.tmp 105)))]),none⟩⟩,⟨21,2097148,⟨(some 107),(.buildSlice 3 1 [(.int .i64 0),(.str []),(.str [])] [(0,(3,(.tmp 106)))]),none⟩⟩,⟨22,4194303,⟨(some 108),(.append 3 (.tmp 87) (.tmp 107)),none⟩⟩,⟨23,8388607,⟨(some 109),(.fieldAddr 5 (.tmp 8)),none⟩⟩,⟨24,16777215,⟨none,(.store 1 (.tmp 109) (.tmp 108)),none⟩⟩]
def aQs:List AStep := [⟨some 84,.mov (.tmp 10),none⟩,⟨some 85,.bin .add (.tmp 84) (.con (.int .i64 1)),none⟩,⟨some 10,.mov (.tmp 85),none⟩]
def aJS:ACode:=(.seq (.seq (.ops aJK) (.cond (.tmp 83) .skip (.exit 6))) (.seq (.block 7 (.draw aJL)) (.ops aQs)))
def aJl:List AStep := [⟨some 110,.fieldAddr 1 (.tmp 5),none⟩,⟨some 111,.load false 1 (.tmp 110),none⟩,⟨some 112,.load true 6 (.tmp 8),none⟩,⟨some 113,.buildSlice 6 1 [(.str []),(.str []),(.str []),(.str []),.nils,.nils] [(0,(6,(.tmp 112)))],none⟩,⟨some 114,.append 6 (.tmp 111) (.tmp 113),none⟩,⟨some 115,.fieldAddr 1 (.tmp 5),none⟩,⟨none,.store 1 (.tmp 115) (.tmp 114),none⟩]
def aQl:List AStep := [⟨some 34,.mov (.tmp 6),none⟩,⟨some 35,.bin .add (.tmp 34) (.con (.int .i64 1)),none⟩,⟨some 6,.mov (.tmp 35),none⟩]
def aJX:ACode:=(.seq (.seq (.ops aKg) (.cond (.tmp 33) .skip (.exit 2))) (.seq (.block 3 (.seq (.ops aKv) (.seq (.ops aKb) (.seq (.seq (.ops aK3) (.block 4 (.loop aJi))) (.seq (.seq (.ops aJM) (.block 6 (.loop aJS))) (.ops aJl)))))) (.ops aQl)))
def aJg:List AStep := [⟨some 116,.mov (.tmp 3),none⟩,⟨some 117,.load true 2 (.tmp 5),none⟩,⟨some 118,.buildSlice 2 1 [(.str []),.nils] [(0,(2,(.tmp 117)))],none⟩,⟨some 119,.append 2 (.tmp 116) (.tmp 118),none⟩,⟨some 3,.mov (.tmp 119),none⟩]
def aQm:List AStep := [⟨some 16,.mov (.tmp 4),none⟩,⟨some 17,.bin .add (.tmp 16) (.con (.int .i64 1)),none⟩,⟨some 4,.mov (.tmp 17),none⟩]
def aQh:ACode:=(.seq (.seq (.ops aKj) (.cond (.tmp 15) .skip (.exit 0))) (.seq (.block 1 (.seq (.ops aKw) (.seq (.seq (.ops aKi) (.block 2 (.loop aJX))) (.ops aJg)))) (.ops aQm)))
def aJh:List AStep := [⟨some 120,.mov (.tmp 3),none⟩,⟨some 2,.mov (.tmp 120),none⟩]
def aS9:ACode:=(.seq (.ops aKc) (.seq (.ops aKo) (.seq (.seq (.ops aKh) (.block 0 (.loop aQh))) (.seq (.ops aJh) .ret))))
def aGH:AFunc:=⟨121,[(.tmp 2)],aS9⟩
/-! strata_Levels -/
/-! token_All -/
def aRS:List AStep := [⟨some 2,.mov (.con .nils),none⟩,⟨some 3,.mov (.con (.int .i64 0)),none⟩,⟨some 4,.mov (.con (.int .i64 0)),none⟩]
def aR2:List AStep := [⟨some 12,.mov (.tmp 0),none⟩,⟨some 13,.lenT (.tmp 12),none⟩,⟨some 14,.bin .gtr (.tmp 13) (.con (.int .i64 2048)),none⟩]
def aSG:List AStep := [⟨some 2,.mov (.con .nils),none⟩,⟨some 3,.mov (.con (.int .i64 13)),none⟩,⟨some 4,.mov (.con (.int .i64 0)),none⟩]
def aRC:List AStep := [⟨some 15,.mov (.tmp 0),none⟩,⟨some 16,.call (.con (.func aFi [])) [(.tmp 15)],none⟩,⟨some 5,.mov (.tmp 16),none⟩]
def aRr:List AStep := [⟨some 17,.mov (.tmp 5),none⟩,⟨some 18,.bin .geq (.tmp 17) (.con (.int .i64 0)),none⟩]
def aSJ:List AStep := [⟨some 19,.mov (.tmp 5),none⟩,⟨some 2,.mov (.con .nils),none⟩,⟨some 3,.mov (.con (.int .i64 11)),none⟩,⟨some 4,.mov (.tmp 19),none⟩]
def aRA:List AStep := [⟨some 20,.mov (.tmp 0),none⟩,⟨some 21,.build [(.str []),(.int .i64 0),.nils,(.int .i64 0)] [(0,(1,(.tmp 20)))],none⟩,⟨some 22,.box (.tmp 21),none⟩,⟨some 6,.mov (.tmp 22),none⟩]
def aRN:List AStep := [⟨(some 23),.makeMap,none⟩,⟨some 24,.mov (.tmp 6),none⟩,⟨some 25,.makeMeth aAU (.tmp 24),none⟩,⟨none,.mapPut .int (.tmp 23) (.con (.int .u8 32)) (.tmp 25),none⟩,⟨some 26,.mov (.tmp 6),none⟩,⟨some 27,.makeMeth aAU (.tmp 26),none⟩,⟨none,.mapPut .int (.tmp 23) (.con (.int .u8 9)) (.tmp 27),none⟩,⟨some 28,.mov (.tmp 6),none⟩,⟨some 29,.makeMeth aAU (.tmp 28),none⟩,⟨none,.mapPut .int (.tmp 23) (.con (.int .u8 10)) (.tmp 29),none⟩,⟨some 30,.mov (.tmp 6),none⟩,⟨some 31,.makeMeth aAh (.tmp 30),none⟩,⟨none,.mapPut .int (.tmp 23) (.con (.int .u8 47)) (.tmp 31),none⟩,⟨some 32,.mov (.tmp 23),none⟩,⟨some 7,.mov (.tmp 32),none⟩]
def aRp:List AStep := [⟨some 33,.buildSlice 1 12 [(.int .u8 0)] [(0,(1,(.con (.int .u8 123)))),(1,(1,(.con (.int .u8 125)))),(2,(1,(.con (.int .u8 40)))),(3,(1,(.con (.int .u8 41)))),(4,(1,(.con (.int .u8 58)))),(5,(1,(.con (.int .u8 44)))),(6,(1,(.con (.int .u8 59)))),(7,(1,(.con (.int .u8 124)))),(8,(1,(.con (.int .u8 38)))),(9,(1,(.con (.int .u8 45)))),(10,(1,(.con (.int .u8 46)))),(11,(1,(.con (.int .u8 35))))],none⟩,⟨some 34,.cvB2B (.tmp 33),none⟩,⟨some 35,.len (.tmp 34),none⟩,⟨some 36,.mov (.con (.int .i64 0)),none⟩]
def aR8:List AStep := [⟨some 37,.bin .lss (.tmp 36) (.tmp 35),none⟩]
def aQ0:List AStep := [⟨some 38,.indexAddr 1 (.tmp 34) (.tmp 36),none⟩,⟨some 39,.load false 1 (.tmp 38),none⟩,⟨some 9,.mov (.tmp 39),none⟩]
def aPo:List AStep := [⟨some 40,.mov (.tmp 7),none⟩,⟨some 41,.mov (.tmp 9),none⟩,⟨some 42,.mov (.tmp 6),none⟩,⟨some 43,.makeMeth aAN (.tmp 42),none⟩,⟨none,.mapPut .int (.tmp 40) (.tmp 41) (.tmp 43),none⟩]
def aQT:List AStep := [⟨some 44,.bin .add (.tmp 36) (.con (.int .i64 1)),none⟩,⟨some 36,.mov (.tmp 44),none⟩]
def aPv:ACode:=(.seq (.ops aR8) (.seq (.cond (.tmp 37) .skip (.exit 0)) (.seq (.block 1 (.seq (.ops aQ0) (.ops aPo))) (.ops aQT))))
def aQK:List AStep := [⟨some 45,.mov (.tmp 6),none⟩,⟨some 46,.nilCheck (.tmp 45),none⟩,⟨some 47,.fieldAddr 1 (.tmp 46),none⟩,⟨some 48,.load false 1 (.tmp 47),none⟩,⟨some 49,.mov (.tmp 0),none⟩,⟨some 50,.lenT (.tmp 49),none⟩,⟨some 51,.bin .lss (.tmp 48) (.tmp 50),none⟩]
def aEl:List AStep := [⟨some 53,.mov (.tmp 7),none⟩,⟨some 54,.mov (.tmp 0),none⟩,⟨some 55,.mov (.tmp 6),none⟩,⟨some 56,.nilCheck (.tmp 55),none⟩,⟨some 57,.fieldAddr 1 (.tmp 56),none⟩,⟨some 58,.load false 1 (.tmp 57),none⟩,⟨some 59,.indexStr (.tmp 54) (.tmp 58),none⟩,⟨some 60,.mapGet .int true .nilf (.tmp 53) (.tmp 59),none⟩,⟨some 52,.mov (.tmp 60),none⟩,⟨some 61,.extract (.tmp 52) 0,none⟩,⟨some 62,.extract (.tmp 52) 1,none⟩,⟨some 10,.mov (.tmp 61),none⟩,⟨some 11,.mov (.tmp 62),none⟩]
def aEp:List AStep := [⟨some 63,.mov (.tmp 11),none⟩,⟨some 64,.not (.tmp 63),none⟩]
def aQL:List AStep := [⟨some 65,.mov (.tmp 6),none⟩,⟨some 66,.makeMeth aCa (.tmp 65),none⟩,⟨some 10,.mov (.tmp 66),none⟩]
def aLK:List AStep := [⟨some 67,.mov (.tmp 10),none⟩,⟨some 68,.call (.tmp 67) [],none⟩]
def aLH:List AStep := [⟨some 69,.mov (.tmp 6),none⟩,⟨some 70,.nilCheck (.tmp 69),none⟩,⟨some 71,.fieldAddr 3 (.tmp 70),none⟩,⟨some 72,.load false 1 (.tmp 71),none⟩,⟨some 73,.bin .neq (.tmp 72) (.con (.int .i64 0)),none⟩]
def aLE:List DStep := [⟨0,0,⟨(some 74),(.mov (.tmp 6)),none⟩⟩,⟨1,1,⟨(some 75),(.nilCheck (.tmp 74)),none⟩⟩,⟨2,3,⟨(some 76),(.fieldAddr 3 (.tmp 75)),none⟩⟩,⟨3,7,⟨(some 77),(.load false 1 (.tmp 76)),none⟩⟩,⟨4,0,⟨(some 78),(.mov (.tmp 6)),none⟩⟩,⟨5,16,⟨(some 79),(.nilCheck (.tmp 78)),none⟩⟩,⟨6,48,⟨(some 80),(.fieldAddr 1 (.tmp 79)),none⟩⟩,⟨7,112,⟨(some 81),(.load false 1 (.tmp 80)),none⟩⟩,⟨8,0,⟨(some 2),(.mov (.con .nils)),none⟩⟩,⟨9,271,⟨(some 3),(.mov (.tmp 77)),none⟩⟩,⟨10,1023,⟨(some 4),(.mov (.tmp 81)),none⟩⟩]
def aPy:ACode:=(.seq (.seq (.ops aQK) (.cond (.tmp 51) .skip (.exit 2))) (.block 3 (.seq (.ops aEl) (.seq (.seq (.ops aEp) (.cond (.tmp 64) (.ops aQL) .skip)) (.seq (.ops aLK) (.seq (.ops aLH) (.cond (.tmp 73) (.seq (.draw aLE) .ret) .skip)))))))
def aPj:List AStep := [⟨some 82,.mov (.tmp 6),none⟩,⟨some 83,.call (.con (.func aCk [])) [(.tmp 82),(.con (.int .i64 3)),(.con (.int .i64 0))],none⟩]
def aQV:List AStep := [⟨some 84,.mov (.tmp 6),none⟩,⟨some 85,.nilCheck (.tmp 84),none⟩,⟨some 86,.fieldAddr 2 (.tmp 85),none⟩,⟨some 87,.load false 1 (.tmp 86),none⟩,⟨some 2,.mov (.tmp 87),none⟩,⟨some 3,.mov (.con (.int .i64 0)),none⟩,⟨some 4,.mov (.con (.int .i64 0)),none⟩]
def aXy:ACode:=(.seq (.ops aRS) (.seq (.seq (.ops aR2) (.cond (.tmp 14) (.seq (.ops aSG) .ret) .skip)) (.seq (.seq (.ops aRC) (.seq (.ops aRr) (.cond (.tmp 18) (.seq (.ops aSJ) .ret) .skip))) (.seq (.ops aRA) (.seq (.ops aRN) (.seq (.seq (.ops aRp) (.block 0 (.loop aPv))) (.seq (.block 2 (.loop aPy)) (.seq (.ops aPj) (.seq (.ops aQV) .ret)))))))))
def aGc:AFunc:=⟨88,[(.tmp 2),(.tmp 3),(.tmp 4)],aXy⟩
/-! parse_Parse_1 -/
def aT9:List AStep := [⟨some 3,.mov (.tmp 6),none⟩]
def aGt:List AStep := [⟨some 8,.mov (.tmp 3),none⟩,⟨some 9,.assert aEq (.agg [(.int .i64 0),(.int .i64 0)]) true (.tmp 8),none⟩,⟨some 7,.mov (.tmp 9),none⟩,⟨some 10,.extract (.tmp 7) 0,none⟩,⟨some 11,.extract (.tmp 7) 1,none⟩,⟨some 4,.alloc [(.int .i64 0),(.int .i64 0)],none⟩,⟨none,.store 2 (.tmp 4) (.tmp 10),none⟩,⟨some 5,.mov (.tmp 11),none⟩]
def aGv:List AStep := [⟨some 12,.mov (.tmp 5),none⟩]
def aLv:List DStep := [⟨0,0,⟨(some 13),(.build [.nils] []),none⟩⟩,⟨1,0,⟨(some 14),(.fieldAddr 0 (.tmp 4)),none⟩⟩,⟨2,2,⟨(some 15),(.load false 1 (.tmp 14)),none⟩⟩,⟨3,0,⟨(some 16),(.fieldAddr 1 (.tmp 4)),none⟩⟩,⟨4,8,⟨(some 17),(.load false 1 (.tmp 16)),none⟩⟩,⟨5,1,⟨none,(.store 1 (.tmp 0) (.tmp 13)),none⟩⟩,⟨6,39,⟨none,(.store 1 (.tmp 1) (.tmp 15)),none⟩⟩,⟨7,127,⟨none,(.store 1 (.tmp 2) (.tmp 17)),none⟩⟩]
def aLm:List AStep := [⟨some 18,.mov (.tmp 3),none⟩,⟨some 19,.eq .nilI true (.tmp 18) (.con .nili),none⟩]
def aT8:List AStep := [⟨some 20,.mov (.tmp 3),none⟩,⟨none,.panic (.tmp 20),none⟩]
def aIC:ACode:=(.seq (.ops aGt) (.seq (.ops aGv) (.cond (.tmp 12) (.draw aLv) (.seq (.ops aLm) (.cond (.tmp 19) (.ops aT8) .skip)))))
def aD7:ARec:=⟨21,6,aT9,aIC⟩
/-! parse_reader_schema -/
def aG5:List AStep := [⟨some 2,.alloc [.nils],none⟩]
def aGL:List AStep := [⟨some 3,.alloc [.nils],none⟩]
def aG4:List AStep := [⟨some 5,.mov (.tmp 0),none⟩,⟨some 6,.call (.con (.func aAW [])) [(.tmp 5),(.con (.str [116,121,112,101]))],none⟩]
def aGQ:List AStep := [⟨some 7,.mov (.tmp 0),none⟩,⟨some 8,.call (.con (.func aA1 [])) [(.tmp 7)],none⟩,⟨some 9,.build [(.str []),.nils] [(0,(1,(.tmp 8)))],none⟩,⟨some 4,.alloc [(.str []),.nils],none⟩,⟨none,.store 2 (.tmp 4) (.tmp 9),none⟩]
def aGJ:List AStep := [⟨some 10,.mov (.tmp 0),none⟩,⟨some 11,.call (.con (.func aAY [])) [(.tmp 10),(.con (.str [123]))],none⟩]
def aG8:List AStep := [⟨some 12,.mov (.tmp 0),none⟩,⟨some 13,.call (.con (.func aAW [])) [(.tmp 12),(.con (.str [114,101,108]))],none⟩]
def aGY:List DStep := [⟨0,0,⟨(some 14),(.fieldAddr 1 (.tmp 4)),none⟩⟩,⟨1,1,⟨(some 15),(.load false 1 (.tmp 14)),none⟩⟩,⟨2,0,⟨(some 16),(.mov (.tmp 0)),none⟩⟩,⟨3,4,⟨(some 17),(.call (.con (.func aFX [])) [(.tmp 16)]),none⟩⟩,⟨4,12,⟨(some 18),(.buildSlice 6 1 [(.str []),(.str []),(.str []),(.str []),.nils,.nils] [(0,(6,(.tmp 17)))]),none⟩⟩,⟨5,31,⟨(some 19),(.append 6 (.tmp 15) (.tmp 18)),none⟩⟩,⟨6,63,⟨(some 20),(.fieldAddr 1 (.tmp 4)),none⟩⟩,⟨7,127,⟨none,(.store 1 (.tmp 20) (.tmp 19)),none⟩⟩]
def aDe:ACode:=(.seq (.seq (.ops aG8) (.cond (.tmp 13) .skip (.exit 2))) (.block 3 (.draw aGY)))
def aGd:List AStep := [⟨some 21,.mov (.tmp 0),none⟩,⟨some 22,.call (.con (.func aAY [])) [(.tmp 21),(.con (.str [125]))],none⟩]
def aGb:List AStep := [⟨some 23,.fieldAddr 0 (.tmp 3),none⟩,⟨some 24,.load false 1 (.tmp 23),none⟩,⟨some 25,.load true 2 (.tmp 4),none⟩,⟨some 26,.buildSlice 2 1 [(.str []),.nils] [(0,(2,(.tmp 25)))],none⟩,⟨some 27,.append 2 (.tmp 24) (.tmp 26),none⟩,⟨some 28,.fieldAddr 0 (.tmp 3),none⟩,⟨none,.store 1 (.tmp 28) (.tmp 27),none⟩]
def aFx:ACode:=(.seq (.seq (.ops aG4) (.cond (.tmp 6) .skip (.exit 0))) (.block 1 (.seq (.ops aGQ) (.seq (.ops aGJ) (.seq (.block 2 (.loop aDe)) (.seq (.ops aGd) (.ops aGb)))))))
def aGA:List AStep := [⟨some 29,.mov (.tmp 0),none⟩,⟨some 30,.nilCheck (.tmp 29),none⟩,⟨some 31,.fieldAddr 0 (.tmp 30),none⟩,⟨some 32,.load false 1 (.tmp 31),none⟩,⟨some 33,.indexAddr 3 (.tmp 32) (.con (.int .i64 0)),none⟩,⟨some 34,.fieldAddr 0 (.tmp 33),none⟩,⟨some 35,.load false 1 (.tmp 34),none⟩,⟨some 36,.bin .neq (.tmp 35) (.con (.int .i64 3)),none⟩]
def aFu:List AStep := [⟨some 37,.mov (.tmp 0),none⟩,⟨some 38,.call (.con (.func aBK [])) [(.tmp 37),(.con (.int .i64 30))],none⟩]
def aFt:List AStep := [⟨some 39,.load true 1 (.tmp 3),none⟩,⟨none,.store 1 (.tmp 2) (.tmp 39),none⟩]
def aNu:ACode:=(.seq (.ops aG5) (.seq (.ops aGL) (.seq (.block 0 (.loop aFx)) (.seq (.seq (.ops aGA) (.cond (.tmp 36) (.ops aFu) .skip)) (.seq (.ops aFt) .ret)))))
def aDg:AFunc:=⟨40,[(.cell 2 true 1)],aNu⟩
/-! check_counts -/
def aNG:List AStep := [⟨some 1,.box (.tmp 0),none⟩,⟨some 2,.mov (.con (.int .i64 0)),none⟩,⟨some 3,.mov (.con (.str [])),none⟩]
def aMz:List AStep := [⟨some 10,.fieldAddr 0 (.tmp 1),none⟩,⟨some 11,.load false 1 (.tmp 10),none⟩,⟨some 12,.len (.tmp 11),none⟩,⟨some 13,.bin .gtr (.tmp 12) (.con (.int .i64 8)),none⟩]
def aM0:List AStep := [⟨some 2,.mov (.con (.int .i64 13)),none⟩,⟨some 3,.mov (.con (.str [])),none⟩]
def aMe:List AStep := [⟨some 14,.fieldAddr 0 (.tmp 1),none⟩,⟨some 15,.load false 1 (.tmp 14),none⟩,⟨some 16,.len (.tmp 15),none⟩,⟨some 17,.mov (.con (.int .i64 0)),none⟩]
def aMu:List AStep := [⟨some 18,.bin .lss (.tmp 17) (.tmp 16),none⟩]
def aNB:List AStep := [⟨some 19,.mov (.tmp 17),none⟩,⟨some 20,.indexAddr 2 (.tmp 15) (.tmp 17),none⟩,⟨some 21,.load true 2 (.tmp 20),none⟩,⟨some 5,.alloc [(.str []),.nils],none⟩,⟨some 4,.mov (.tmp 19),none⟩,⟨none,.store 2 (.tmp 5) (.tmp 21),none⟩]
def aMk:List DStep := [⟨0,0,⟨(some 23),(.fieldAddr 0 (.tmp 1)),none⟩⟩,⟨1,1,⟨(some 24),(.load false 1 (.tmp 23)),none⟩⟩,⟨2,0,⟨(some 25),(.mov (.tmp 4)),none⟩⟩,⟨3,7,⟨(some 26),(.sliceS 2 (.tmp 24) none (some (.tmp 25))),none⟩⟩,⟨4,15,⟨(some 27),(.build [.nils] [(0,(1,(.tmp 26)))]),none⟩⟩,⟨5,0,⟨(some 28),(.fieldAddr 0 (.tmp 5)),none⟩⟩,⟨6,32,⟨(some 29),(.load false 1 (.tmp 28)),none⟩⟩,⟨11,0,⟨(some 6),(.alloc [(.str []),.nils]),none⟩⟩,⟨7,127,⟨(some 30),(.call (.con (.func aDk [])) [(.tmp 27),(.tmp 29)]),none⟩⟩,⟨8,255,⟨(some 22),(.mov (.tmp 30)),none⟩⟩,⟨9,511,⟨(some 31),(.extract (.tmp 22) 0),none⟩⟩,⟨10,511,⟨(some 32),(.extract (.tmp 22) 1),none⟩⟩,⟨12,3071,⟨none,(.store 2 (.tmp 6) (.tmp 31)),none⟩⟩,⟨13,8191,⟨(some 7),(.mov (.tmp 32)),none⟩⟩]
def aNH:List AStep := [⟨some 33,.mov (.tmp 7),none⟩]
def aMl:List DStep := [⟨0,0,⟨(some 34),(.fieldAddr 0 (.tmp 5)),none⟩⟩,⟨1,1,⟨(some 35),(.load false 1 (.tmp 34)),none⟩⟩,⟨2,0,⟨(some 2),(.mov (.con (.int .i64 32))),none⟩⟩,⟨3,7,⟨(some 3),(.mov (.tmp 35)),none⟩⟩]
def aMp:List AStep := [⟨some 36,.fieldAddr 1 (.tmp 5),none⟩,⟨some 37,.load false 1 (.tmp 36),none⟩,⟨some 38,.len (.tmp 37),none⟩,⟨some 39,.bin .gtr (.tmp 38) (.con (.int .i64 12)),none⟩]
def aLy:List DStep := [⟨0,0,⟨(some 40),(.fieldAddr 0 (.tmp 5)),none⟩⟩,⟨1,1,⟨(some 41),(.load false 1 (.tmp 40)),none⟩⟩,⟨2,0,⟨(some 2),(.mov (.con (.int .i64 13))),none⟩⟩,⟨3,7,⟨(some 3),(.mov (.tmp 41)),none⟩⟩]
def aGs:List AStep := [⟨some 42,.fieldAddr 1 (.tmp 5),none⟩,⟨some 43,.load false 1 (.tmp 42),none⟩,⟨some 44,.len (.tmp 43),none⟩,⟨some 45,.mov (.con (.int .i64 0)),none⟩]
def aMJ:List AStep := [⟨some 46,.bin .lss (.tmp 45) (.tmp 44),none⟩]
def aMI:List AStep := [⟨some 47,.mov (.tmp 45),none⟩,⟨some 48,.indexAddr 6 (.tmp 43) (.tmp 45),none⟩,⟨some 49,.load true 6 (.tmp 48),none⟩,⟨some 9,.alloc [(.str []),(.str []),(.str []),(.str []),.nils,.nils],none⟩,⟨some 8,.mov (.tmp 47),none⟩,⟨none,.store 6 (.tmp 9) (.tmp 49),none⟩]
def aMO:List DStep := [⟨0,0,⟨(some 50),(.fieldAddr 1 (.tmp 5)),none⟩⟩,⟨1,1,⟨(some 51),(.load false 1 (.tmp 50)),none⟩⟩,⟨2,0,⟨(some 52),(.mov (.tmp 8)),none⟩⟩,⟨3,7,⟨(some 53),(.sliceS 6 (.tmp 51) none (some (.tmp 52))),none⟩⟩,⟨4,15,⟨(some 54),(.build [(.str []),.nils] [(1,(1,(.tmp 53)))]),none⟩⟩,⟨5,0,⟨(some 55),(.fieldAddr 0 (.tmp 9)),none⟩⟩,⟨6,32,⟨(some 56),(.load false 1 (.tmp 55)),none⟩⟩,⟨7,127,⟨(some 57),(.call (.con (.func aCf [])) [(.tmp 54),(.tmp 56)]),none⟩⟩]
def aLz:List AStep := [⟨some 58,.load true 2 (.tmp 5),none⟩,⟨some 59,.load true 6 (.tmp 9),none⟩,⟨some 60,.call (.con (.func aF0 [])) [(.tmp 58),(.tmp 59)],none⟩,⟨some 2,.mov (.con (.int .i64 32)),none⟩,⟨some 3,.mov (.tmp 60),none⟩]
def aLq:List AStep := [⟨some 61,.fieldAddr 5 (.tmp 9),none⟩,⟨some 62,.load false 1 (.tmp 61),none⟩,⟨some 63,.len (.tmp 62),none⟩,⟨some 64,.bin .gtr (.tmp 63) (.con (.int .i64 16)),none⟩]
def aMP:List AStep := [⟨some 65,.load true 2 (.tmp 5),none⟩,⟨some 66,.load true 6 (.tmp 9),none⟩,⟨some 67,.call (.con (.func aF0 [])) [(.tmp 65),(.tmp 66)],none⟩,⟨some 2,.mov (.con (.int .i64 13)),none⟩,⟨some 3,.mov (.tmp 67),none⟩]
def aLn:List AStep := [⟨some 68,.bin .add (.tmp 45) (.con (.int .i64 1)),none⟩,⟨some 45,.mov (.tmp 68),none⟩]
def aGz:ACode:=(.seq (.ops aMJ) (.seq (.cond (.tmp 46) .skip (.exit 2)) (.seq (.block 3 (.seq (.ops aMI) (.seq (.seq (.draw aMO) (.cond (.tmp 57) (.seq (.ops aLz) .ret) .skip)) (.seq (.ops aLq) (.cond (.tmp 64) (.seq (.ops aMP) .ret) .skip))))) (.ops aLn))))
def aLp:List AStep := [⟨some 69,.bin .add (.tmp 17) (.con (.int .i64 1)),none⟩,⟨some 17,.mov (.tmp 69),none⟩]
def aLw:ACode:=(.seq (.ops aMu) (.seq (.cond (.tmp 18) .skip (.exit 0)) (.seq (.block 1 (.seq (.ops aNB) (.seq (.seq (.draw aMk) (.seq (.ops aNH) (.cond (.tmp 33) (.seq (.draw aMl) .ret) .skip))) (.seq (.seq (.ops aMp) (.cond (.tmp 39) (.seq (.draw aLy) .ret) .skip)) (.seq (.ops aGs) (.block 2 (.loop aGz))))))) (.ops aLp))))
def aMK:List AStep := [⟨some 2,.mov (.con (.int .i64 0)),none⟩,⟨some 3,.mov (.con (.str [])),none⟩]
def aUm:ACode:=(.seq (.ops aNG) (.seq (.seq (.ops aMz) (.cond (.tmp 13) (.seq (.ops aM0) .ret) .skip)) (.seq (.seq (.ops aMe) (.block 0 (.loop aLw))) (.seq (.ops aMK) .ret))))
def aCe:AFunc:=⟨70,[(.tmp 2),(.tmp 3)],aUm⟩
/-! check_path -/
def aP9:List AStep := [⟨some 2,.box (.tmp 0),none⟩,⟨some 3,.box (.tmp 1),none⟩,⟨some 4,.mov (.con (.str [])),none⟩]
def aPt:List AStep := [⟨some 5,.fieldAddr 0 (.tmp 2),none⟩,⟨some 6,.load false 1 (.tmp 5),none⟩,⟨some 7,.bin .add (.tmp 6) (.con (.str [46])),none⟩,⟨some 8,.fieldAddr 0 (.tmp 3),none⟩,⟨some 9,.load false 1 (.tmp 8),none⟩,⟨some 10,.bin .add (.tmp 7) (.tmp 9),none⟩,⟨some 4,.mov (.tmp 10),none⟩]
def aX1:ACode:=(.seq (.ops aP9) (.seq (.ops aPt) .ret))
def aLk:AFunc:=⟨11,[(.tmp 4)],aX1⟩
/-! check_has -/
def aRh:List AStep := [⟨some 2,.box (.tmp 0),none⟩,⟨some 3,.box (.tmp 1),none⟩,⟨some 4,.mov (.con (.bool false)),none⟩]
def aRG:List AStep := [⟨some 5,.fieldAddr 1 (.tmp 2),none⟩,⟨some 6,.load false 1 (.tmp 5),none⟩,⟨some 7,.makeFunc aLP [(.tmp 3)],none⟩,⟨some 8,.call (.con (.func aAo [])) [(.tmp 6),(.tmp 7)],none⟩,⟨some 4,.mov (.tmp 8),none⟩]
def aXg:ACode:=(.seq (.ops aRh) (.seq (.ops aRG) .ret))
def aN6:AFunc:=⟨9,[(.tmp 4)],aXg⟩
/-! check_subs -/
def aQF:List AStep := [⟨some 2,.box (.tmp 0),none⟩,⟨some 4,.mov (.con (.int .i64 0)),none⟩]
def aPu:List AStep := [⟨some 9,.mov (.tmp 1),none⟩,⟨some 10,.len (.tmp 9),none⟩,⟨some 11,.mov (.con (.int .i64 0)),none⟩]
def aQQ:List AStep := [⟨some 12,.bin .lss (.tmp 11) (.tmp 10),none⟩]
def aQY:List AStep := [⟨some 13,.mov (.tmp 11),none⟩,⟨some 14,.indexAddr 2 (.tmp 9) (.tmp 11),none⟩,⟨some 15,.load true 2 (.tmp 14),none⟩,⟨some 6,.alloc [(.str []),(.str [])],none⟩,⟨some 5,.mov (.tmp 13),none⟩,⟨none,.store 2 (.tmp 6) (.tmp 15),none⟩]
def aQG:List AStep := [⟨some 17,.load true 1 (.tmp 2),none⟩,⟨some 18,.fieldAddr 0 (.tmp 6),none⟩,⟨some 19,.load false 1 (.tmp 18),none⟩,⟨some 20,.call (.con (.func aDk [])) [(.tmp 17),(.tmp 19)],none⟩,⟨some 16,.mov (.tmp 20),none⟩,⟨some 21,.extract (.tmp 16) 0,none⟩,⟨some 22,.extract (.tmp 16) 1,none⟩,⟨some 7,.alloc [(.str []),.nils],none⟩,⟨none,.store 2 (.tmp 7) (.tmp 21),none⟩,⟨some 8,.mov (.tmp 22),none⟩]
def aGf:List AStep := [⟨some 24,.mov (.tmp 8),none⟩,⟨some 25,.not (.tmp 24),none⟩,⟨some 26,.mov (.tmp 25),none⟩,⟨some 27,.fieldAddr 1 (.tmp 6),(some (26,false))⟩,⟨some 28,.load false 1 (.tmp 27),(some (26,false))⟩,⟨some 29,.bin .neq (.tmp 28) (.con (.str [])),(some (26,false))⟩,⟨some 30,.mov (.tmp 29),(some (26,false))⟩,⟨some 31,.load true 2 (.tmp 7),(some (30,true))⟩,⟨some 32,.fieldAddr 1 (.tmp 6),(some (30,true))⟩,⟨some 33,.load false 1 (.tmp 32),(some (30,true))⟩,⟨some 34,.call (.con (.func aCf [])) [(.tmp 31),(.tmp 33)],(some (30,true))⟩,⟨some 35,.not (.tmp 34),(some (30,true))⟩,⟨some 36,.pick (.tmp 30) (.tmp 35) (.con (.bool false)),(some (26,false))⟩,⟨some 37,.pick (.tmp 26) (.con (.bool true)) (.tmp 36),none⟩,⟨some 23,.mov (.tmp 37),none⟩]
def aLA:List AStep := [⟨some 4,.mov (.con (.int .i64 31)),none⟩]
def aLJ:List DStep := [⟨0,0,⟨(some 39),(.mov (.tmp 1)),none⟩⟩,⟨1,0,⟨(some 40),(.mov (.tmp 5)),none⟩⟩,⟨2,3,⟨(some 41),(.sliceS 2 (.tmp 39) none (some (.tmp 40))),none⟩⟩,⟨3,0,⟨(some 42),(.load true 2 (.tmp 6)),none⟩⟩,⟨4,15,⟨(some 43),(.call (.con (.func aBB [])) [(.tmp 41),(.tmp 42)]),none⟩⟩,⟨5,31,⟨(some 38),(.mov (.tmp 43)),none⟩⟩]
def aLD:List AStep := [⟨some 4,.mov (.con (.int .i64 32)),none⟩]
def aGh:List AStep := [⟨some 44,.bin .add (.tmp 11) (.con (.int .i64 1)),none⟩,⟨some 11,.mov (.tmp 44),none⟩]
def aOg:ACode:=(.seq (.ops aQQ) (.seq (.cond (.tmp 12) .skip (.exit 0)) (.seq (.block 1 (.seq (.ops aQY) (.seq (.ops aQG) (.block 2 (.seq (.ops aGf) (.cond (.tmp 23) (.seq (.ops aLA) .ret) (.seq (.draw aLJ) (.cond (.tmp 38) (.seq (.ops aLD) .ret) .skip)))))))) (.ops aGh))))
def aFk:List AStep := [⟨some 4,.mov (.con (.int .i64 0)),none⟩]
def aWq:ACode:=(.seq (.ops aQF) (.seq (.seq (.ops aPu) (.block 0 (.loop aOg))) (.seq (.ops aFk) .ret)))
def aDM:AFunc:=⟨45,[(.tmp 4)],aWq⟩
/-! check_op -/
def aTB:List AStep := [⟨some 3,.box (.tmp 0),none⟩,⟨some 4,.box (.tmp 1),none⟩,⟨some 5,.box (.tmp 2),none⟩,⟨some 6,.mov (.con (.bool false)),none⟩]
def aSw:List AStep := [⟨some 9,.fieldAddr 0 (.tmp 5),none⟩,⟨some 10,.load false 1 (.tmp 9),none⟩]
def aSb:List AStep := [⟨some 12,.bin .eql (.tmp 10) (.con (.int .i64 2)),none⟩,⟨some 11,.mov (.tmp 12),none⟩]
def aSz:List AStep := [⟨some 13,.load true 2 (.tmp 4),none⟩,⟨some 14,.fieldAddr 1 (.tmp 5),none⟩,⟨some 15,.load false 1 (.tmp 14),none⟩,⟨some 16,.call (.con (.func aCf [])) [(.tmp 13),(.tmp 15)],none⟩,⟨some 6,.mov (.tmp 16),none⟩]
def aSj:List AStep := [⟨some 18,.bin .eql (.tmp 10) (.con (.int .i64 3)),none⟩,⟨some 17,.mov (.tmp 18),none⟩]
def aSs:List AStep := [⟨some 20,.load true 1 (.tmp 3),none⟩,⟨some 21,.fieldAddr 0 (.tmp 4),none⟩,⟨some 22,.load false 1 (.tmp 21),none⟩,⟨some 23,.fieldAddr 1 (.tmp 5),none⟩,⟨some 24,.load false 1 (.tmp 23),none⟩,⟨some 25,.call (.con (.func aLt [])) [(.tmp 20),(.tmp 22),(.tmp 24)],none⟩,⟨some 19,.mov (.tmp 25),none⟩,⟨some 26,.extract (.tmp 19) 0,none⟩,⟨some 27,.extract (.tmp 19) 1,none⟩,⟨some 7,.alloc [(.str []),(.str []),(.str []),(.str []),.nils,.nils],none⟩,⟨none,.store 6 (.tmp 7) (.tmp 26),none⟩,⟨some 8,.mov (.tmp 27),none⟩]
def aNO:List AStep := [⟨some 28,.mov (.tmp 8),none⟩,⟨some 29,.mov (.tmp 28),none⟩,⟨some 30,.load true 1 (.tmp 3),(some (29,true))⟩,⟨some 31,.load true 6 (.tmp 7),(some (29,true))⟩,⟨some 32,.fieldAddr 2 (.tmp 5),(some (29,true))⟩,⟨some 33,.load false 1 (.tmp 32),(some (29,true))⟩,⟨some 34,.call (.con (.func aLC [])) [(.tmp 30),(.tmp 31),(.tmp 33)],(some (29,true))⟩,⟨some 35,.pick (.tmp 29) (.tmp 34) (.con (.bool false)),none⟩,⟨some 6,.mov (.tmp 35),none⟩]
def aSh:List AStep := [⟨some 6,.mov (.con (.bool true)),none⟩]
def aZC:ACode:=(.seq (.ops aTB) (.seq (.seq (.ops aSw) (.block 0 (.seq (.ops aSb) (.cond (.tmp 11) (.seq (.ops aSz) .ret) (.seq (.ops aSj) (.cond (.tmp 17) (.seq (.ops aSs) (.seq (.ops aNO) .ret)) .skip)))))) (.seq (.ops aSh) .ret)))
def aFq:AFunc:=⟨36,[(.tmp 6)],aZC⟩
/-! strata_numbers -/
def aL0:List AStep := [⟨some 1,.box (.tmp 0),none⟩,⟨some 2,.mov (.con .nilm),none⟩]
def aL3:List AStep := [⟨(some 8),.makeMap,none⟩,⟨some 3,.mov (.tmp 8),none⟩]
def aL8:List AStep := [⟨some 9,.fieldAddr 0 (.tmp 1),none⟩,⟨some 10,.load false 1 (.tmp 9),none⟩,⟨some 11,.len (.tmp 10),none⟩,⟨some 12,.mov (.con (.int .i64 0)),none⟩]
def aS0:List AStep := [⟨some 13,.bin .lss (.tmp 12) (.tmp 11),none⟩]
def aLZ:List AStep := [⟨some 14,.indexAddr 2 (.tmp 10) (.tmp 12),none⟩,⟨some 15,.load true 2 (.tmp 14),none⟩,⟨some 5,.alloc [(.str []),.nils],none⟩,⟨none,.store 2 (.tmp 5) (.tmp 15),none⟩]
def aLW:List AStep := [⟨some 16,.fieldAddr 1 (.tmp 5),none⟩,⟨some 17,.load false 1 (.tmp 16),none⟩,⟨some 18,.len (.tmp 17),none⟩,⟨some 19,.mov (.con (.int .i64 0)),none⟩]
def aSY:List AStep := [⟨some 20,.bin .lss (.tmp 19) (.tmp 18),none⟩]
def aL1:List AStep := [⟨some 21,.indexAddr 6 (.tmp 17) (.tmp 19),none⟩,⟨some 22,.load true 6 (.tmp 21),none⟩,⟨some 7,.alloc [(.str []),(.str []),(.str []),(.str []),.nils,.nils],none⟩,⟨none,.store 6 (.tmp 7) (.tmp 22),none⟩]
def aL2:List AStep := [⟨some 23,.mov (.tmp 3),none⟩,⟨some 24,.fieldAddr 0 (.tmp 5),none⟩,⟨some 25,.load false 1 (.tmp 24),none⟩,⟨some 26,.fieldAddr 0 (.tmp 7),none⟩,⟨some 27,.load false 1 (.tmp 26),none⟩,⟨some 28,.build [(.str []),(.str [])] [(0,(1,(.tmp 25))),(1,(1,(.tmp 27)))],none⟩,⟨some 29,.mov (.tmp 3),none⟩,⟨some 30,.lenM (.tmp 29),none⟩,⟨none,.mapPut (.flat [.s,.s]) (.tmp 23) (.tmp 28) (.tmp 30),none⟩]
def aS6:List AStep := [⟨some 31,.bin .add (.tmp 19) (.con (.int .i64 1)),none⟩,⟨some 19,.mov (.tmp 31),none⟩]
def aSI:ACode:=(.seq (.ops aSY) (.seq (.cond (.tmp 20) .skip (.exit 2)) (.seq (.block 3 (.seq (.ops aL1) (.ops aL2))) (.ops aS6))))
def aSH:List AStep := [⟨some 32,.bin .add (.tmp 12) (.con (.int .i64 1)),none⟩,⟨some 12,.mov (.tmp 32),none⟩]
def aRV:ACode:=(.seq (.ops aS0) (.seq (.cond (.tmp 13) .skip (.exit 0)) (.seq (.block 1 (.seq (.ops aLZ) (.seq (.ops aLW) (.block 2 (.loop aSI))))) (.ops aSH))))
def aKd:List AStep := [⟨some 33,.mov (.tmp 3),none⟩,⟨some 2,.mov (.tmp 33),none⟩]
def aTT:ACode:=(.seq (.ops aL0) (.seq (.ops aL3) (.seq (.seq (.ops aL8) (.block 0 (.loop aRV))) (.seq (.ops aKd) .ret))))
def aGy:AFunc:=⟨34,[(.tmp 2)],aTT⟩
/-! strata_nots -/
def aOu:List AStep := [⟨some 2,.mov (.con .nils),none⟩]
def aNv:List AStep := [⟨some 9,.mov (.tmp 0),none⟩,⟨some 10,.len (.tmp 9),none⟩,⟨some 11,.makeSlice 1 1 [(.bool false)] (.tmp 10) (.tmp 10),none⟩,⟨some 3,.mov (.tmp 11),none⟩]
def aNe:List AStep := [⟨some 4,.mov (.con .nils),none⟩]
def aOG:List AStep := [⟨some 12,.mov (.tmp 0),none⟩,⟨some 13,.len (.tmp 12),none⟩,⟨some 14,.mov (.con (.int .i64 0)),none⟩]
def aUq:List AStep := [⟨some 15,.bin .lss (.tmp 14) (.tmp 13),none⟩]
def aOc:List AStep := [⟨some 16,.mov (.tmp 14),none⟩,⟨some 17,.indexAddr 3 (.tmp 12) (.tmp 14),none⟩,⟨some 18,.load true 3 (.tmp 17),none⟩,⟨some 6,.alloc [(.int .i64 0),(.str []),(.str [])],none⟩,⟨some 5,.mov (.tmp 16),none⟩,⟨none,.store 3 (.tmp 6) (.tmp 18),none⟩]
def aFn:List AStep := [⟨some 19,.fieldAddr 0 (.tmp 6),none⟩,⟨some 20,.load false 1 (.tmp 19),none⟩,⟨some 21,.bin .lss (.tmp 20) (.con (.int .i64 4)),none⟩,⟨some 22,.mov (.tmp 21),none⟩,⟨some 23,.mov (.tmp 4),(some (22,false))⟩,⟨some 24,.len (.tmp 23),(some (22,false))⟩,⟨some 25,.bin .lss (.tmp 24) (.con (.int .i64 2)),(some (22,false))⟩,⟨some 26,.pick (.tmp 22) (.con (.bool true)) (.tmp 25),none⟩]
def aJw:List AStep := [⟨some 27,.mov (.tmp 4),none⟩,⟨some 28,.mov (.tmp 5),none⟩,⟨some 29,.buildSlice 1 1 [(.int .i64 0)] [(0,(1,(.tmp 28)))],none⟩,⟨some 30,.append 1 (.tmp 27) (.tmp 29),none⟩,⟨some 4,.mov (.tmp 30),none⟩]
def aKH:List AStep := [⟨some 31,.mov (.tmp 4),none⟩,⟨some 32,.len (.tmp 31),none⟩,⟨some 33,.bin .sub (.tmp 32) (.con (.int .i64 1)),none⟩,⟨some 7,.mov (.tmp 33),none⟩]
def aJm:List AStep := [⟨some 34,.mov (.tmp 4),none⟩,⟨some 35,.mov (.tmp 7),none⟩,⟨some 36,.indexAddr 1 (.tmp 34) (.tmp 35),none⟩,⟨some 37,.load false 1 (.tmp 36),none⟩,⟨some 8,.mov (.tmp 37),none⟩]
def aFS:List AStep := [⟨some 38,.fieldAddr 0 (.tmp 6),none⟩,⟨some 39,.load false 1 (.tmp 38),none⟩,⟨some 40,.bin .eql (.tmp 39) (.con (.int .i64 6)),none⟩,⟨some 41,.mov (.tmp 40),none⟩,⟨some 42,.mov (.tmp 8),(some (41,true))⟩,⟨some 43,.mov (.tmp 5),(some (41,true))⟩,⟨some 44,.bin .lss (.tmp 42) (.tmp 43),(some (41,true))⟩,⟨some 45,.pick (.tmp 41) (.tmp 44) (.con (.bool false)),none⟩]
def aMc:List AStep := [⟨some 48,.mov (.tmp 3),none⟩,⟨some 49,.mov (.tmp 8),none⟩,⟨some 50,.indexAddr 1 (.tmp 48) (.tmp 49),none⟩,⟨none,.store 1 (.tmp 50) (.con (.bool true)),none⟩]
def aNJ:List AStep := [⟨some 46,.mov (.tmp 8),none⟩,⟨some 47,.bin .add (.tmp 46) (.con (.int .i64 1)),none⟩,⟨some 8,.mov (.tmp 47),none⟩]
def aFQ:ACode:=(.seq (.seq (.ops aFS) (.cond (.tmp 45) .skip (.exit 2))) (.seq (.block 3 (.ops aMc)) (.ops aNJ)))
def aFK:List AStep := [⟨some 51,.mov (.tmp 4),none⟩,⟨some 52,.mov (.tmp 7),none⟩,⟨some 53,.sliceS 1 (.tmp 51) none (some (.tmp 52)),none⟩,⟨some 4,.mov (.tmp 53),none⟩]
def aUB:List AStep := [⟨some 54,.bin .add (.tmp 14) (.con (.int .i64 1)),none⟩,⟨some 14,.mov (.tmp 54),none⟩]
def aTm:ACode:=(.seq (.ops aUq) (.seq (.cond (.tmp 15) .skip (.exit 0)) (.seq (.block 1 (.seq (.ops aOc) (.seq (.seq (.ops aFn) (.cond (.tmp 26) (.seq (.ops aJw) (.exit 1)) .skip)) (.seq (.ops aKH) (.seq (.seq (.ops aJm) (.block 2 (.loop aFQ))) (.ops aFK)))))) (.ops aUB))))
def aFR:List AStep := [⟨some 55,.mov (.tmp 3),none⟩,⟨some 2,.mov (.tmp 55),none⟩]
def aVn:ACode:=(.seq (.ops aOu) (.seq (.ops aNv) (.seq (.ops aNe) (.seq (.seq (.ops aOG) (.block 0 (.loop aTm))) (.seq (.ops aFR) .ret)))))
def aEm:AFunc:=⟨56,[(.tmp 2)],aVn⟩
/-! strata_to -/
def aRb:List AStep := [⟨some 3,.box (.tmp 0),none⟩,⟨some 4,.box (.tmp 1),none⟩,⟨some 5,.box (.tmp 2),none⟩,⟨some 6,.mov (.con .nils),none⟩]
def aRB:List AStep := [⟨some 7,.mov (.con .nils),none⟩]
def aQx:List AStep := [⟨some 12,.fieldAddr 0 (.tmp 5),none⟩,⟨some 13,.load false 1 (.tmp 12),none⟩]
def aRO:List AStep := [⟨some 15,.bin .eql (.tmp 13) (.con (.int .i64 1)),none⟩,⟨some 14,.mov (.tmp 15),none⟩]
def aRL:List AStep := [⟨some 16,.fieldAddr 4 (.tmp 4),none⟩,⟨some 17,.load false 1 (.tmp 16),none⟩,⟨some 18,.len (.tmp 17),none⟩,⟨some 19,.mov (.con (.int .i64 0)),none⟩]
def aXC:List AStep := [⟨some 20,.bin .lss (.tmp 19) (.tmp 18),none⟩]
def aRM:List AStep := [⟨some 21,.indexAddr 2 (.tmp 17) (.tmp 19),none⟩,⟨some 22,.load true 2 (.tmp 21),none⟩,⟨some 9,.alloc [(.str []),(.str [])],none⟩,⟨none,.store 2 (.tmp 9) (.tmp 22),none⟩]
def aRn:List AStep := [⟨some 23,.mov (.tmp 7),none⟩,⟨some 24,.fieldAddr 0 (.tmp 9),none⟩,⟨some 25,.load false 1 (.tmp 24),none⟩,⟨some 26,.fieldAddr 1 (.tmp 9),none⟩,⟨some 27,.load false 1 (.tmp 26),none⟩,⟨some 28,.build [(.str []),(.str [])] [(0,(1,(.tmp 25))),(1,(1,(.tmp 27)))],none⟩,⟨some 29,.buildSlice 2 1 [(.str []),(.str [])] [(0,(2,(.tmp 28)))],none⟩,⟨some 30,.append 2 (.tmp 23) (.tmp 29),none⟩,⟨some 7,.mov (.tmp 30),none⟩]
def aWm:List AStep := [⟨some 31,.bin .add (.tmp 19) (.con (.int .i64 1)),none⟩,⟨some 19,.mov (.tmp 31),none⟩]
def aXA:ACode:=(.seq (.ops aXC) (.seq (.cond (.tmp 20) .skip (.exit 1)) (.seq (.block 2 (.seq (.ops aRM) (.ops aRn))) (.ops aWm))))
def aQI:List AStep := [⟨some 33,.bin .eql (.tmp 13) (.con (.int .i64 2)),none⟩,⟨some 32,.mov (.tmp 33),none⟩]
def aQH:List AStep := [⟨some 34,.mov (.tmp 7),none⟩,⟨some 35,.fieldAddr 0 (.tmp 3),none⟩,⟨some 36,.load false 1 (.tmp 35),none⟩,⟨some 37,.fieldAddr 1 (.tmp 5),none⟩,⟨some 38,.load false 1 (.tmp 37),none⟩,⟨some 39,.build [(.str []),(.str [])] [(0,(1,(.tmp 36))),(1,(1,(.tmp 38)))],none⟩,⟨some 40,.buildSlice 2 1 [(.str []),(.str [])] [(0,(2,(.tmp 39)))],none⟩,⟨some 41,.append 2 (.tmp 34) (.tmp 40),none⟩,⟨some 7,.mov (.tmp 41),none⟩]
def aQJ:List AStep := [⟨some 43,.bin .eql (.tmp 13) (.con (.int .i64 3)),none⟩,⟨some 42,.mov (.tmp 43),none⟩]
def aPr:List AStep := [⟨some 44,.load true 2 (.tmp 3),none⟩,⟨some 45,.fieldAddr 1 (.tmp 5),none⟩,⟨some 46,.load false 1 (.tmp 45),none⟩,⟨some 47,.call (.con (.func aGo [])) [(.tmp 44),(.tmp 46)],none⟩,⟨some 48,.len (.tmp 47),none⟩,⟨some 49,.mov (.con (.int .i64 0)),none⟩]
def aVm:List AStep := [⟨some 50,.bin .lss (.tmp 49) (.tmp 48),none⟩]
def aPi:List AStep := [⟨some 51,.indexAddr 1 (.tmp 47) (.tmp 49),none⟩,⟨some 52,.load false 1 (.tmp 51),none⟩,⟨some 11,.mov (.tmp 52),none⟩]
def aQX:List AStep := [⟨some 53,.mov (.tmp 7),none⟩,⟨some 54,.mov (.tmp 11),none⟩,⟨some 55,.fieldAddr 2 (.tmp 5),none⟩,⟨some 56,.load false 1 (.tmp 55),none⟩,⟨some 57,.build [(.str []),(.str [])] [(0,(1,(.tmp 54))),(1,(1,(.tmp 56)))],none⟩,⟨some 58,.buildSlice 2 1 [(.str []),(.str [])] [(0,(2,(.tmp 57)))],none⟩,⟨some 59,.append 2 (.tmp 53) (.tmp 58),none⟩,⟨some 7,.mov (.tmp 59),none⟩]
def aVk:List AStep := [⟨some 60,.bin .add (.tmp 49) (.con (.int .i64 1)),none⟩,⟨some 49,.mov (.tmp 60),none⟩]
def aWB:ACode:=(.seq (.ops aVm) (.seq (.cond (.tmp 50) .skip (.exit 3)) (.seq (.block 4 (.seq (.ops aPi) (.ops aQX))) (.ops aVk))))
def aKy:List AStep := [⟨some 61,.mov (.tmp 7),none⟩,⟨some 6,.mov (.tmp 61),none⟩]
def aYF:ACode:=(.seq (.ops aRb) (.seq (.ops aRB) (.seq (.seq (.ops aQx) (.block 0 (.seq (.ops aRO) (.cond (.tmp 14) (.seq (.ops aRL) (.block 1 (.loop aXA))) (.seq (.ops aQI) (.cond (.tmp 32) (.ops aQH) (.seq (.ops aQJ) (.cond (.tmp 42) (.seq (.ops aPr) (.block 3 (.loop aWB))) .skip)))))))) (.seq (.ops aKy) .ret))))
def aKX:AFunc:=⟨62,[(.tmp 6)],aYF⟩
/-! strata_compare -/
def aLa:List AStep := [⟨some 2,.box (.tmp 0),none⟩,⟨some 3,.box (.tmp 1),none⟩,⟨some 4,.mov (.con (.int .i64 0)),none⟩]
def aLY:List AStep := [⟨some 5,.mov (.con (.func aF4 [])),none⟩]
def aL9:List DStep := [⟨0,0,⟨(some 6),(.fieldAddr 0 (.tmp 2)),none⟩⟩,⟨1,1,⟨(some 7),(.load false 1 (.tmp 6)),none⟩⟩,⟨2,0,⟨(some 8),(.fieldAddr 0 (.tmp 3)),none⟩⟩,⟨3,4,⟨(some 9),(.load false 1 (.tmp 8)),none⟩⟩,⟨5,0,⟨(some 11),(.fieldAddr 1 (.tmp 2)),none⟩⟩,⟨6,32,⟨(some 12),(.load false 1 (.tmp 11)),none⟩⟩,⟨7,0,⟨(some 13),(.fieldAddr 1 (.tmp 3)),none⟩⟩,⟨8,128,⟨(some 14),(.load false 1 (.tmp 13)),none⟩⟩,⟨10,0,⟨(some 16),(.mov (.tmp 5)),none⟩⟩,⟨11,0,⟨(some 17),(.load true 3 (.tmp 2)),none⟩⟩,⟨13,0,⟨(some 19),(.mov (.tmp 5)),none⟩⟩,⟨14,0,⟨(some 20),(.load true 3 (.tmp 3)),none⟩⟩,⟨4,15,⟨(some 10),(.call (.con (.func aDE [])) [(.tmp 7),(.tmp 9)]),none⟩⟩,⟨9,511,⟨(some 15),(.call (.con (.func aDE [])) [(.tmp 12),(.tmp 14)]),none⟩⟩,⟨12,4095,⟨(some 18),(.call (.tmp 16) [(.tmp 17)]),none⟩⟩,⟨15,32767,⟨(some 21),(.call (.tmp 19) [(.tmp 20)]),none⟩⟩,⟨16,65535,⟨(some 22),(.call (.con (.func aDE [])) [(.tmp 18),(.tmp 21)]),none⟩⟩,⟨17,131071,⟨(some 23),(.buildSlice 1 3 [(.int .i64 0)] [(0,(1,(.tmp 10))),(1,(1,(.tmp 15))),(2,(1,(.tmp 22)))]),none⟩⟩,⟨18,262143,⟨(some 24),(.call (.con (.func aMN [])) [(.tmp 23)]),none⟩⟩,⟨19,524287,⟨(some 4),(.mov (.tmp 24)),none⟩⟩]
def aTZ:ACode:=(.seq (.ops aLa) (.seq (.ops aLY) (.seq (.draw aL9) .ret)))
def aHD:AFunc:=⟨25,[(.tmp 4)],aTZ⟩
/-! slices_Compact_strata_Edge_strata_Edge -/
def aBo:List AStep := [⟨some 2,.mov (.con .nils),none⟩]
def aBp:List AStep := [⟨some 6,.mov (.tmp 0),none⟩,⟨some 7,.len (.tmp 6),none⟩,⟨some 8,.bin .lss (.tmp 7) (.con (.int .i64 2)),none⟩]
def aBr:List AStep := [⟨some 9,.mov (.tmp 0),none⟩,⟨some 2,.mov (.tmp 9),none⟩]
def aBe:List AStep := [⟨some 3,.mov (.con (.int .i64 1)),none⟩]
def aBs:List AStep := [⟨some 10,.mov (.tmp 3),none⟩,⟨some 11,.mov (.tmp 0),none⟩,⟨some 12,.len (.tmp 11),none⟩,⟨some 13,.bin .lss (.tmp 10) (.tmp 12),none⟩]
def aBk:List DStep := [⟨0,0,⟨(some 16),(.mov (.tmp 0)),none⟩⟩,⟨1,0,⟨(some 17),(.mov (.tmp 3)),none⟩⟩,⟨2,3,⟨(some 18),(.indexAddr 3 (.tmp 16) (.tmp 17)),none⟩⟩,⟨3,7,⟨(some 19),(.load true 3 (.tmp 18)),none⟩⟩,⟨4,0,⟨(some 20),(.mov (.tmp 0)),none⟩⟩,⟨5,0,⟨(some 21),(.mov (.tmp 3)),none⟩⟩,⟨6,32,⟨(some 22),(.bin .sub (.tmp 21) (.con (.int .i64 1))),none⟩⟩,⟨7,112,⟨(some 23),(.indexAddr 3 (.tmp 20) (.tmp 22)),none⟩⟩,⟨8,240,⟨(some 24),(.load true 3 (.tmp 23)),none⟩⟩,⟨9,511,⟨(some 25),(.eq (.flatK [.i,.i,.b]) false (.tmp 19) (.tmp 24)),none⟩⟩]
def aBh:List AStep := [⟨some 26,.mov (.tmp 0),none⟩,⟨some 27,.mov (.tmp 3),none⟩,⟨some 28,.sliceS 3 (.tmp 26) (some (.tmp 27)) none,none⟩,⟨some 4,.mov (.tmp 28),none⟩]
def aBj:List AStep := [⟨some 5,.mov (.con (.int .i64 1)),none⟩]
def aBq:List AStep := [⟨some 29,.mov (.tmp 5),none⟩,⟨some 30,.mov (.tmp 4),none⟩,⟨some 31,.len (.tmp 30),none⟩,⟨some 32,.bin .lss (.tmp 29) (.tmp 31),none⟩]
def aBg:List DStep := [⟨0,0,⟨(some 35),(.mov (.tmp 4)),none⟩⟩,⟨1,0,⟨(some 36),(.mov (.tmp 5)),none⟩⟩,⟨2,3,⟨(some 37),(.indexAddr 3 (.tmp 35) (.tmp 36)),none⟩⟩,⟨3,7,⟨(some 38),(.load true 3 (.tmp 37)),none⟩⟩,⟨4,0,⟨(some 39),(.mov (.tmp 4)),none⟩⟩,⟨5,0,⟨(some 40),(.mov (.tmp 5)),none⟩⟩,⟨6,32,⟨(some 41),(.bin .sub (.tmp 40) (.con (.int .i64 1))),none⟩⟩,⟨7,112,⟨(some 42),(.indexAddr 3 (.tmp 39) (.tmp 41)),none⟩⟩,⟨8,240,⟨(some 43),(.load true 3 (.tmp 42)),none⟩⟩,⟨9,511,⟨(some 44),(.eq (.flatK [.i,.i,.b]) true (.tmp 38) (.tmp 43)),none⟩⟩]
def aB9:List AStep := [⟨some 45,.mov (.tmp 0),none⟩,⟨some 46,.mov (.tmp 3),none⟩,⟨some 47,.mov (.tmp 4),none⟩,⟨some 48,.mov (.tmp 5),none⟩,⟨some 49,.indexAddr 3 (.tmp 47) (.tmp 48),none⟩,⟨some 50,.load true 3 (.tmp 49),none⟩,⟨some 51,.indexAddr 3 (.tmp 45) (.tmp 46),none⟩,⟨none,.store 3 (.tmp 51) (.tmp 50),none⟩]
def aBa:List AStep := [⟨some 52,.mov (.tmp 3),none⟩,⟨some 53,.bin .add (.tmp 52) (.con (.int .i64 1)),none⟩,⟨some 3,.mov (.tmp 53),none⟩]
def aAl:List AStep := [⟨some 33,.mov (.tmp 5),none⟩,⟨some 34,.bin .add (.tmp 33) (.con (.int .i64 1)),none⟩,⟨some 5,.mov (.tmp 34),none⟩]
def aB3:ACode:=(.seq (.seq (.ops aBq) (.cond (.tmp 32) .skip (.exit 2))) (.seq (.block 3 (.seq (.draw aBg) (.cond (.tmp 44) (.seq (.ops aB9) (.ops aBa)) .skip))) (.ops aAl)))
def aB8:List AStep := [⟨some 54,.mov (.tmp 0),none⟩,⟨some 55,.mov (.tmp 3),none⟩,⟨some 56,.sliceS 3 (.tmp 54) (some (.tmp 55)) none,none⟩,⟨none,.clear 3 [(.int .i64 0),(.int .i64 0),(.bool false)] (.tmp 56),none⟩]
def aB2:List AStep := [⟨some 57,.mov (.tmp 0),none⟩,⟨some 58,.mov (.tmp 3),none⟩,⟨some 59,.sliceS 3 (.tmp 57) none (some (.tmp 58)),none⟩,⟨some 2,.mov (.tmp 59),none⟩]
def aB4:List AStep := [⟨some 14,.mov (.tmp 3),none⟩,⟨some 15,.bin .add (.tmp 14) (.con (.int .i64 1)),none⟩,⟨some 3,.mov (.tmp 15),none⟩]
def aBV:ACode:=(.seq (.seq (.ops aBs) (.cond (.tmp 13) .skip (.exit 0))) (.seq (.block 1 (.seq (.draw aBk) (.cond (.tmp 25) (.seq (.ops aBh) (.seq (.seq (.ops aBj) (.block 2 (.loop aB3))) (.seq (.ops aB8) (.seq (.ops aB2) .ret)))) .skip))) (.ops aB4)))
def aBY:List AStep := [⟨some 60,.mov (.tmp 0),none⟩,⟨some 2,.mov (.tmp 60),none⟩]
def aE1:ACode:=(.seq (.ops aBo) (.seq (.seq (.ops aBp) (.cond (.tmp 8) (.seq (.ops aBr) .ret) .skip)) (.seq (.seq (.ops aBe) (.block 0 (.loop aBV))) (.seq (.ops aBY) .ret))))
def aAZ:AFunc:=⟨61,[(.tmp 2)],aE1⟩
/-! doormanref10_Not -/
def aJY:List AStep := [⟨some 4,.mov (.con (.bool false)),none⟩]
def aJ4:List AStep := [⟨some 6,.mov (.tmp 1),none⟩,⟨some 7,.bin .add (.tmp 6) (.con (.int .i64 1)),none⟩,⟨some 5,.mov (.tmp 7),none⟩]
def aJR:List AStep := [⟨some 8,.mov (.tmp 5),none⟩,⟨some 9,.mov (.tmp 0),none⟩,⟨some 10,.len (.tmp 9),none⟩,⟨some 11,.bin .lss (.tmp 8) (.tmp 10),none⟩]
def aEz:List AStep := [⟨some 14,.mov (.tmp 0),none⟩,⟨some 15,.mov (.tmp 5),none⟩,⟨some 16,.indexAddr 3 (.tmp 14) (.tmp 15),none⟩,⟨some 17,.fieldAddr 0 (.tmp 16),none⟩,⟨some 18,.load false 1 (.tmp 17),none⟩,⟨some 19,.bin .eql (.tmp 18) (.con (.int .i64 6)),none⟩,⟨some 20,.mov (.tmp 19),none⟩,⟨some 21,.mov (.tmp 0),(some (20,true))⟩,⟨some 22,.mov (.tmp 5),(some (20,true))⟩,⟨some 23,.bin .sub (.tmp 22) (.con (.int .i64 1)),(some (20,true))⟩,⟨some 24,.call (.con (.func aBM [])) [(.tmp 21),(.tmp 23)],(some (20,true))⟩,⟨some 25,.mov (.tmp 1),(some (20,true))⟩,⟨some 26,.bin .leq (.tmp 24) (.tmp 25),(some (20,true))⟩,⟨some 27,.pick (.tmp 20) (.tmp 26) (.con (.bool false)),none⟩]
def aIw:List AStep := [⟨some 4,.mov (.con (.bool true)),none⟩]
def aQ2:List AStep := [⟨some 12,.mov (.tmp 5),none⟩,⟨some 13,.bin .add (.tmp 12) (.con (.int .i64 1)),none⟩,⟨some 5,.mov (.tmp 13),none⟩]
def aQ4:ACode:=(.seq (.seq (.ops aJR) (.cond (.tmp 11) .skip (.exit 0))) (.seq (.block 1 (.seq (.ops aEz) (.cond (.tmp 27) (.seq (.ops aIw) .ret) .skip))) (.ops aQ2)))
def aIy:List AStep := [⟨some 4,.mov (.con (.bool false)),none⟩]
def aRX:ACode:=(.seq (.ops aJY) (.seq (.seq (.ops aJ4) (.block 0 (.loop aQ4))) (.seq (.ops aIy) .ret)))
def aD1:AFunc:=⟨28,[(.tmp 4)],aRX⟩
/-! doormanref10_add -/
def aJT:List AStep := [⟨some 3,.box (.tmp 1),none⟩,⟨some 4,.mov (.con .nils),none⟩]
def aJ0:List AStep := [⟨some 5,.mov (.con (.int .i64 0)),none⟩]
def aFB:List DStep := [⟨0,0,⟨(some 7),(.mov (.tmp 5)),none⟩⟩,⟨1,0,⟨(some 8),(.mov (.tmp 0)),none⟩⟩,⟨2,2,⟨(some 9),(.len (.tmp 8)),none⟩⟩,⟨3,7,⟨(some 10),(.bin .lss (.tmp 7) (.tmp 9)),none⟩⟩,⟨4,15,⟨(some 11),(.mov (.tmp 10)),none⟩⟩,⟨5,31,⟨(some 12),(.mov (.tmp 0)),(some (11,true))⟩⟩,⟨6,31,⟨(some 13),(.mov (.tmp 5)),(some (11,true))⟩⟩,⟨7,127,⟨(some 14),(.indexAddr 3 (.tmp 12) (.tmp 13)),(some (11,true))⟩⟩,⟨8,255,⟨(some 15),(.load true 3 (.tmp 14)),(some (11,true))⟩⟩,⟨9,31,⟨(some 16),(.load true 3 (.tmp 3)),(some (11,true))⟩⟩,⟨10,1023,⟨(some 17),(.call (.con (.func aEV [])) [(.tmp 15),(.tmp 16)]),(some (11,true))⟩⟩,⟨11,2047,⟨(some 18),(.pick (.tmp 11) (.tmp 17) (.con (.bool false))),none⟩⟩]
def aJa:List AStep := [⟨some 19,.mov (.tmp 5),none⟩,⟨some 20,.bin .add (.tmp 19) (.con (.int .i64 1)),none⟩,⟨some 5,.mov (.tmp 20),none⟩]
def aJB:ACode:=(.seq (.seq (.draw aFB) (.cond (.tmp 18) .skip (.exit 0))) (.block 1 (.ops aJa)))
def aC9:List DStep := [⟨0,0,⟨(some 21),(.fieldAddr 1 (.tmp 3)),none⟩⟩,⟨1,1,⟨(some 22),(.load false 1 (.tmp 21)),none⟩⟩,⟨2,3,⟨(some 23),(.bin .lss (.tmp 22) (.con (.int .i64 0))),none⟩⟩,⟨3,7,⟨(some 24),(.mov (.tmp 23)),none⟩⟩,⟨4,15,⟨(some 25),(.mov (.tmp 5)),(some (24,false))⟩⟩,⟨5,15,⟨(some 26),(.mov (.tmp 0)),(some (24,false))⟩⟩,⟨6,47,⟨(some 27),(.len (.tmp 26)),(some (24,false))⟩⟩,⟨7,127,⟨(some 28),(.bin .lss (.tmp 25) (.tmp 27)),(some (24,false))⟩⟩,⟨8,255,⟨(some 29),(.mov (.tmp 28)),(some (24,false))⟩⟩,⟨9,511,⟨(some 30),(.mov (.tmp 0)),(some (29,true))⟩⟩,⟨10,511,⟨(some 31),(.mov (.tmp 5)),(some (29,true))⟩⟩,⟨11,2047,⟨(some 32),(.indexAddr 3 (.tmp 30) (.tmp 31)),(some (29,true))⟩⟩,⟨12,4095,⟨(some 33),(.load true 3 (.tmp 32)),(some (29,true))⟩⟩,⟨13,511,⟨(some 34),(.load true 3 (.tmp 3)),(some (29,true))⟩⟩,⟨14,16383,⟨(some 35),(.eq (.flatK [.i,.i,.b]) false (.tmp 33) (.tmp 34)),(some (29,true))⟩⟩,⟨15,32767,⟨(some 36),(.pick (.tmp 29) (.tmp 35) (.con (.bool false))),(some (24,false))⟩⟩,⟨16,65535,⟨(some 37),(.pick (.tmp 24) (.con (.bool true)) (.tmp 36)),none⟩⟩]
def aDQ:List AStep := [⟨some 38,.mov (.tmp 0),none⟩,⟨some 4,.mov (.tmp 38),none⟩]
def aCb:List AStep := [⟨some 6,.mov (.con .nils),none⟩]
def aC6:List AStep := [⟨some 39,.mov (.tmp 6),none⟩,⟨some 40,.mov (.tmp 0),none⟩,⟨some 41,.mov (.tmp 5),none⟩,⟨some 42,.sliceS 3 (.tmp 40) none (some (.tmp 41)),none⟩,⟨some 43,.append 3 (.tmp 39) (.tmp 42),none⟩,⟨some 6,.mov (.tmp 43),none⟩]
def aC5:List AStep := [⟨some 44,.mov (.tmp 6),none⟩,⟨some 45,.load true 3 (.tmp 3),none⟩,⟨some 46,.buildSlice 3 1 [(.int .i64 0),(.int .i64 0),(.bool false)] [(0,(3,(.tmp 45)))],none⟩,⟨some 47,.append 3 (.tmp 44) (.tmp 46),none⟩,⟨some 6,.mov (.tmp 47),none⟩]
def aBv:List AStep := [⟨some 48,.mov (.tmp 6),none⟩,⟨some 49,.mov (.tmp 0),none⟩,⟨some 50,.mov (.tmp 5),none⟩,⟨some 51,.sliceS 3 (.tmp 49) (some (.tmp 50)) none,none⟩,⟨some 52,.append 3 (.tmp 48) (.tmp 51),none⟩,⟨some 4,.mov (.tmp 52),none⟩]
def aRY:ACode:=(.seq (.ops aJT) (.seq (.ops aJ0) (.seq (.block 0 (.loop aJB)) (.seq (.seq (.draw aC9) (.cond (.tmp 37) (.seq (.ops aDQ) .ret) .skip)) (.seq (.ops aCb) (.seq (.ops aC6) (.seq (.ops aC5) (.seq (.ops aBv) .ret))))))))
def aBE:AFunc:=⟨53,[(.tmp 4)],aRY⟩
/-! doormanref10_Number -/
def aGZ:List AStep := [⟨some 6,.mov (.con (.int .i64 0)),none⟩]
def aGR:List AStep := [⟨some 7,.mov (.con (.int .i64 0)),none⟩]
def aGX:List AStep := [⟨some 8,.mov (.con (.int .i64 0)),none⟩]
def aGS:List AStep := [⟨some 10,.mov (.tmp 8),none⟩,⟨some 11,.mov (.tmp 0),none⟩,⟨some 12,.len (.tmp 11),none⟩,⟨some 13,.bin .lss (.tmp 10) (.tmp 12),none⟩]
def aGK:List AStep := [⟨some 16,.mov (.tmp 0),none⟩,⟨some 17,.mov (.tmp 8),none⟩,⟨some 18,.indexAddr 2 (.tmp 16) (.tmp 17),none⟩,⟨some 19,.load true 2 (.tmp 18),none⟩,⟨some 20,.mov (.tmp 2),none⟩,⟨some 21,.call (.con (.func aDY [])) [(.tmp 19),(.tmp 20)],none⟩,⟨some 9,.mov (.tmp 21),none⟩]
def aG3:List AStep := [⟨some 22,.mov (.tmp 0),none⟩,⟨some 23,.mov (.tmp 8),none⟩,⟨some 24,.indexAddr 2 (.tmp 22) (.tmp 23),none⟩,⟨some 25,.fieldAddr 0 (.tmp 24),none⟩,⟨some 26,.load false 1 (.tmp 25),none⟩,⟨some 27,.mov (.tmp 1),none⟩,⟨some 28,.bin .eql (.tmp 26) (.tmp 27),none⟩]
def aDa:List AStep := [⟨some 29,.mov (.tmp 9),none⟩,⟨some 30,.bin .lss (.tmp 29) (.con (.int .i64 0)),none⟩]
def aG1:List AStep := [⟨some 6,.mov (.con (.int .i64 (-1))),none⟩]
def aG2:List AStep := [⟨some 31,.mov (.tmp 7),none⟩,⟨some 32,.mov (.tmp 9),none⟩,⟨some 33,.bin .add (.tmp 31) (.tmp 32),none⟩,⟨some 6,.mov (.tmp 33),none⟩]
def aGU:List AStep := [⟨some 34,.mov (.tmp 7),none⟩,⟨some 35,.mov (.tmp 0),none⟩,⟨some 36,.mov (.tmp 8),none⟩,⟨some 37,.indexAddr 2 (.tmp 35) (.tmp 36),none⟩,⟨some 38,.fieldAddr 1 (.tmp 37),none⟩,⟨some 39,.load false 1 (.tmp 38),none⟩,⟨some 40,.len (.tmp 39),none⟩,⟨some 41,.bin .add (.tmp 34) (.tmp 40),none⟩,⟨some 7,.mov (.tmp 41),none⟩]
def aMS:List AStep := [⟨some 14,.mov (.tmp 8),none⟩,⟨some 15,.bin .add (.tmp 14) (.con (.int .i64 1)),none⟩,⟨some 8,.mov (.tmp 15),none⟩]
def aMV:ACode:=(.seq (.seq (.ops aGS) (.cond (.tmp 13) .skip (.exit 0))) (.seq (.block 1 (.seq (.ops aGK) (.seq (.seq (.ops aG3) (.cond (.tmp 28) (.seq (.seq (.ops aDa) (.cond (.tmp 30) (.seq (.ops aG1) .ret) .skip)) (.seq (.ops aG2) .ret)) .skip)) (.ops aGU)))) (.ops aMS)))
def aFs:List AStep := [⟨some 6,.mov (.con (.int .i64 (-1))),none⟩]
def aOd:ACode:=(.seq (.ops aGZ) (.seq (.ops aGR) (.seq (.seq (.ops aGX) (.block 0 (.loop aMV))) (.seq (.ops aFs) .ret))))
def aBb:AFunc:=⟨42,[(.tmp 6)],aOd⟩
/-! doormanref09_Rel -/
def aJk:List AStep := [⟨some 2,.box (.tmp 0),none⟩,⟨some 4,.mov (.con (.int .i64 0)),none⟩]
def aJ8:List AStep := [⟨some 5,.mov (.con (.int .i64 0)),none⟩]
def aJQ:List AStep := [⟨some 6,.mov (.tmp 5),none⟩,⟨some 7,.fieldAddr 1 (.tmp 2),none⟩,⟨some 8,.load false 1 (.tmp 7),none⟩,⟨some 9,.len (.tmp 8),none⟩,⟨some 10,.bin .lss (.tmp 6) (.tmp 9),none⟩]
def aJE:List AStep := [⟨some 13,.fieldAddr 1 (.tmp 2),none⟩,⟨some 14,.load false 1 (.tmp 13),none⟩,⟨some 15,.mov (.tmp 5),none⟩,⟨some 16,.indexAddr 6 (.tmp 14) (.tmp 15),none⟩,⟨some 17,.fieldAddr 0 (.tmp 16),none⟩,⟨some 18,.load false 1 (.tmp 17),none⟩,⟨some 19,.mov (.tmp 1),none⟩,⟨some 20,.bin .eql (.tmp 18) (.tmp 19),none⟩]
def aJJ:List AStep := [⟨some 21,.mov (.tmp 5),none⟩,⟨some 4,.mov (.tmp 21),none⟩]
def aQ7:List AStep := [⟨some 11,.mov (.tmp 5),none⟩,⟨some 12,.bin .add (.tmp 11) (.con (.int .i64 1)),none⟩,⟨some 5,.mov (.tmp 12),none⟩]
def aQ9:ACode:=(.seq (.seq (.ops aJQ) (.cond (.tmp 10) .skip (.exit 0))) (.seq (.block 1 (.seq (.ops aJE) (.cond (.tmp 20) (.seq (.ops aJJ) .ret) .skip))) (.ops aQ7)))
def aJO:List AStep := [⟨some 4,.mov (.con (.int .i64 (-1))),none⟩]
def aRI:ACode:=(.seq (.ops aJk) (.seq (.seq (.ops aJ8) (.block 0 (.loop aQ9))) (.seq (.ops aJO) .ret)))
def aD6:AFunc:=⟨22,[(.tmp 4)],aRI⟩
/-! strata_Levels_1 -/
/-! slices_ContainsFunc_strata_Edge_strata_Edge -/
/-! token_broken -/
def aNF:List AStep := [⟨some 2,.mov (.con (.int .i64 0)),none⟩]
def aMi:List AStep := [⟨some 6,.mov (.tmp 0),none⟩,⟨some 7,.rangeT (.tmp 6),none⟩]
def aM1:List AStep := [⟨some 8,.nextT (.tmp 7),none⟩,⟨some 9,.extract (.tmp 8) 0,none⟩]
def aMZ:List AStep := [⟨some 10,.extract (.tmp 8) 1,none⟩,⟨some 3,.mov (.tmp 10),none⟩]
def aM3:List AStep := [⟨some 12,.mov (.tmp 0),none⟩,⟨some 13,.mov (.tmp 3),none⟩,⟨some 14,.sliceT (.tmp 12) (some (.tmp 13)) none,none⟩,⟨some 15,.call (.con (.func aKV [])) [(.tmp 14),(.con (.int .i64 1))],none⟩,⟨some 11,.mov (.tmp 15),none⟩,⟨some 16,.extract (.tmp 11) 0,none⟩,⟨some 17,.extract (.tmp 11) 1,none⟩,⟨some 4,.mov (.tmp 16),none⟩,⟨some 5,.mov (.tmp 17),none⟩]
def aMw:List AStep := [⟨some 18,.mov (.tmp 0),none⟩,⟨some 19,.mov (.tmp 3),none⟩,⟨some 20,.mov (.tmp 0),none⟩,⟨some 21,.lenT (.tmp 20),none⟩,⟨some 22,.mov (.tmp 5),none⟩,⟨some 23,.lenT (.tmp 22),none⟩,⟨some 24,.bin .sub (.tmp 21) (.tmp 23),none⟩,⟨some 25,.sliceT (.tmp 18) (some (.tmp 19)) (some (.tmp 24)),none⟩,⟨some 26,.call (.con (.func aDV [])) [(.tmp 25)],none⟩,⟨some 27,.not (.tmp 26),none⟩]
def aM4:List AStep := [⟨some 28,.mov (.tmp 3),none⟩,⟨some 2,.mov (.tmp 28),none⟩]
def aM7:ACode:=(.seq (.ops aM1) (.seq (.cond (.tmp 9) .skip (.exit 0)) (.block 1 (.seq (.ops aMZ) (.seq (.ops aM3) (.seq (.ops aMw) (.cond (.tmp 27) (.seq (.ops aM4) .ret) .skip)))))))
def aMb:List AStep := [⟨some 2,.mov (.con (.int .i64 (-1))),none⟩]
def aUp:ACode:=(.seq (.ops aNF) (.seq (.seq (.ops aMi) (.block 0 (.loop aM7))) (.seq (.ops aMb) .ret)))
def aFp:AFunc:=⟨29,[(.tmp 2)],aUp⟩
/-! token_reader_blank -/
def aH0:List AStep := [⟨some 2,.mov (.tmp 0),none⟩,⟨some 3,.nilCheck (.tmp 2),none⟩,⟨some 4,.fieldAddr 1 (.tmp 3),none⟩,⟨some 5,.load false 1 (.tmp 4),none⟩,⟨some 6,.bin .add (.tmp 5) (.con (.int .i64 1)),none⟩,⟨some 7,.nilCheck (.tmp 2),none⟩,⟨some 8,.fieldAddr 1 (.tmp 7),none⟩,⟨none,.store 1 (.tmp 8) (.tmp 6),none⟩]
def aPY:ACode:=(.ops aH0)
def aHq:AFunc:=⟨9,[],aPY⟩
/-! token_reader_note -/
def aIG:List DStep := [⟨0,0,⟨(some 5),(.mov (.tmp 0)),none⟩⟩,⟨1,1,⟨(some 6),(.nilCheck (.tmp 5)),none⟩⟩,⟨2,3,⟨(some 7),(.fieldAddr 0 (.tmp 6)),none⟩⟩,⟨3,7,⟨(some 8),(.load false 1 (.tmp 7)),none⟩⟩,⟨4,0,⟨(some 9),(.mov (.tmp 0)),none⟩⟩,⟨5,16,⟨(some 10),(.nilCheck (.tmp 9)),none⟩⟩,⟨6,48,⟨(some 11),(.fieldAddr 1 (.tmp 10)),none⟩⟩,⟨7,112,⟨(some 12),(.load false 1 (.tmp 11)),none⟩⟩,⟨8,255,⟨(some 13),(.sliceT (.tmp 8) (some (.tmp 12)) none),none⟩⟩,⟨9,511,⟨(some 14),(.call (.con (.func aAi [])) [(.tmp 13),(.con (.str [47,47]))]),none⟩⟩,⟨10,1023,⟨(some 15),(.not (.tmp 14)),none⟩⟩]
def aIn:List AStep := [⟨some 16,.mov (.tmp 0),none⟩,⟨some 17,.nilCheck (.tmp 16),none⟩,⟨some 18,.fieldAddr 3 (.tmp 17),none⟩,⟨none,.store 1 (.tmp 18) (.con (.int .i64 30)),none⟩]
def aIW:List DStep := [⟨0,0,⟨(some 20),(.mov (.tmp 0)),none⟩⟩,⟨1,1,⟨(some 21),(.nilCheck (.tmp 20)),none⟩⟩,⟨2,3,⟨(some 22),(.fieldAddr 0 (.tmp 21)),none⟩⟩,⟨3,7,⟨(some 23),(.load false 1 (.tmp 22)),none⟩⟩,⟨4,0,⟨(some 24),(.mov (.tmp 0)),none⟩⟩,⟨5,16,⟨(some 25),(.nilCheck (.tmp 24)),none⟩⟩,⟨6,48,⟨(some 26),(.fieldAddr 1 (.tmp 25)),none⟩⟩,⟨7,112,⟨(some 27),(.load false 1 (.tmp 26)),none⟩⟩,⟨8,255,⟨(some 28),(.sliceT (.tmp 23) (some (.tmp 27)) none),none⟩⟩,⟨9,511,⟨(some 29),(.call (.con (.func aDD [])) [(.tmp 28),(.con (.str [10]))]),none⟩⟩,⟨10,1023,⟨(some 19),(.mov (.tmp 29)),none⟩⟩,⟨11,2047,⟨(some 30),(.extract (.tmp 19) 0),none⟩⟩,⟨12,2047,⟨(some 31),(.extract (.tmp 19) 1),none⟩⟩,⟨13,2047,⟨(some 32),(.extract (.tmp 19) 2),none⟩⟩,⟨14,4095,⟨(some 2),(.mov (.tmp 30)),none⟩⟩,⟨15,24575,⟨(some 3),(.mov (.tmp 31)),none⟩⟩,⟨16,65535,⟨(some 4),(.mov (.tmp 32)),none⟩⟩]
def aHm:List AStep := [⟨some 33,.mov (.tmp 0),none⟩,⟨some 34,.nilCheck (.tmp 33),none⟩,⟨some 35,.fieldAddr 1 (.tmp 34),none⟩,⟨some 36,.load false 1 (.tmp 35),none⟩,⟨some 37,.mov (.tmp 2),none⟩,⟨some 38,.lenT (.tmp 37),none⟩,⟨some 39,.bin .add (.tmp 36) (.tmp 38),none⟩,⟨some 40,.nilCheck (.tmp 33),none⟩,⟨some 41,.fieldAddr 1 (.tmp 40),none⟩,⟨none,.store 1 (.tmp 41) (.tmp 39),none⟩]
def aQq:ACode:=(.seq (.seq (.draw aIG) (.cond (.tmp 15) (.seq (.ops aIn) .ret) .skip)) (.seq (.draw aIW) (.ops aHm)))
def aFJ:AFunc:=⟨42,[],aQq⟩
/-! token_reader_sign -/
def aIs:List AStep := [⟨some 2,.mov (.tmp 0),none⟩,⟨some 3,.call (.con (.func aCk [])) [(.tmp 2),(.con (.int .i64 2)),(.con (.int .i64 1))],none⟩]
def aQp:ACode:=(.ops aIs)
def aJP:AFunc:=⟨4,[],aQp⟩
/-! token_reader_word -/
def aHs:List AStep := [⟨some 2,.mov (.con (.int .i64 0)),none⟩]
def aID:List DStep := [⟨0,0,⟨(some 5),(.mov (.tmp 0)),none⟩⟩,⟨1,1,⟨(some 6),(.nilCheck (.tmp 5)),none⟩⟩,⟨2,3,⟨(some 7),(.fieldAddr 0 (.tmp 6)),none⟩⟩,⟨3,7,⟨(some 8),(.load false 1 (.tmp 7)),none⟩⟩,⟨4,0,⟨(some 9),(.mov (.tmp 0)),none⟩⟩,⟨5,16,⟨(some 10),(.nilCheck (.tmp 9)),none⟩⟩,⟨6,48,⟨(some 11),(.fieldAddr 1 (.tmp 10)),none⟩⟩,⟨7,112,⟨(some 12),(.load false 1 (.tmp 11)),none⟩⟩,⟨8,255,⟨(some 13),(.sliceT (.tmp 8) (some (.tmp 12)) none),none⟩⟩,⟨9,511,⟨(some 14),(.rangeT (.tmp 13)),none⟩⟩]
def aI2:List AStep := [⟨some 15,.nextT (.tmp 14),none⟩,⟨some 16,.extract (.tmp 15) 0,none⟩]
def aIL:List AStep := [⟨some 17,.extract (.tmp 15) 2,none⟩,⟨some 4,.mov (.tmp 17),none⟩]
def aIZ:List AStep := [⟨some 18,.mov (.tmp 4),none⟩,⟨some 19,.cvR2S (.tmp 18),none⟩,⟨some 20,.call (.con (.func aCj [])) [(.tmp 19)],none⟩,⟨some 21,.not (.tmp 20),none⟩]
def aIh:List AStep := [⟨some 22,.mov (.tmp 2),none⟩,⟨some 23,.mov (.tmp 4),none⟩,⟨some 24,.cvR2S (.tmp 23),none⟩,⟨some 25,.lenT (.tmp 24),none⟩,⟨some 26,.bin .add (.tmp 22) (.tmp 25),none⟩,⟨some 2,.mov (.tmp 26),none⟩]
def aI1:ACode:=(.seq (.ops aI2) (.seq (.cond (.tmp 16) .skip (.exit 0)) (.block 1 (.seq (.ops aIL) (.seq (.seq (.ops aIZ) (.cond (.tmp 21) (.exit 0) .skip)) (.ops aIh))))))
def aIj:List AStep := [⟨some 31,.mov (.tmp 2),none⟩,⟨some 32,.bin .eql (.tmp 31) (.con (.int .i64 0)),none⟩,⟨some 30,.mov (.tmp 32),none⟩]
def aHu:List AStep := [⟨some 33,.mov (.tmp 0),none⟩,⟨some 34,.nilCheck (.tmp 33),none⟩,⟨some 35,.fieldAddr 3 (.tmp 34),none⟩,⟨none,.store 1 (.tmp 35) (.con (.int .i64 30)),none⟩]
def aIf:List DStep := [⟨0,0,⟨(some 37),(.mov (.tmp 0)),none⟩⟩,⟨1,1,⟨(some 38),(.nilCheck (.tmp 37)),none⟩⟩,⟨2,3,⟨(some 39),(.fieldAddr 0 (.tmp 38)),none⟩⟩,⟨3,7,⟨(some 40),(.load false 1 (.tmp 39)),none⟩⟩,⟨4,0,⟨(some 41),(.mov (.tmp 0)),none⟩⟩,⟨5,16,⟨(some 42),(.nilCheck (.tmp 41)),none⟩⟩,⟨6,48,⟨(some 43),(.fieldAddr 1 (.tmp 42)),none⟩⟩,⟨7,112,⟨(some 44),(.load false 1 (.tmp 43)),none⟩⟩,⟨8,0,⟨(some 45),(.mov (.tmp 0)),none⟩⟩,⟨9,256,⟨(some 46),(.nilCheck (.tmp 45)),none⟩⟩,⟨10,768,⟨(some 47),(.fieldAddr 1 (.tmp 46)),none⟩⟩,⟨11,1792,⟨(some 48),(.load false 1 (.tmp 47)),none⟩⟩,⟨12,0,⟨(some 49),(.mov (.tmp 2)),none⟩⟩,⟨13,7936,⟨(some 50),(.bin .add (.tmp 48) (.tmp 49)),none⟩⟩,⟨14,16383,⟨(some 51),(.sliceT (.tmp 40) (some (.tmp 44)) (some (.tmp 50))),none⟩⟩,⟨15,32767,⟨(some 52),(.call (.con (.func aCj [])) [(.tmp 51)]),none⟩⟩,⟨16,65535,⟨(some 53),(.not (.tmp 52)),none⟩⟩,⟨17,131071,⟨(some 36),(.mov (.tmp 53)),none⟩⟩]
def aHJ:List AStep := [⟨some 54,.mov (.tmp 0),none⟩,⟨some 55,.nilCheck (.tmp 54),none⟩,⟨some 56,.fieldAddr 3 (.tmp 55),none⟩,⟨none,.store 1 (.tmp 56) (.con (.int .i64 31)),none⟩]
def aH3:List AStep := [⟨some 27,.mov (.tmp 0),none⟩,⟨some 28,.mov (.tmp 2),none⟩,⟨some 29,.call (.con (.func aCk [])) [(.tmp 27),(.con (.int .i64 1)),(.tmp 28)],none⟩]
def aQb:ACode:=(.seq (.ops aHs) (.seq (.seq (.draw aID) (.block 0 (.loop aI1))) (.block 2 (.seq (.ops aIj) (.cond (.tmp 30) (.ops aHu) (.seq (.draw aIf) (.cond (.tmp 36) (.ops aHJ) (.ops aH3))))))))
def aJH:AFunc:=⟨57,[],aQb⟩
/-! token_reader_put -/
def aJ7:List DStep := [⟨0,0,⟨(some 6),(.mov (.tmp 0)),none⟩⟩,⟨1,0,⟨(some 7),(.mov (.tmp 0)),none⟩⟩,⟨2,2,⟨(some 8),(.nilCheck (.tmp 7)),none⟩⟩,⟨3,6,⟨(some 9),(.fieldAddr 2 (.tmp 8)),none⟩⟩,⟨4,14,⟨(some 10),(.load false 1 (.tmp 9)),none⟩⟩,⟨5,0,⟨(some 11),(.mov (.tmp 1)),none⟩⟩,⟨6,0,⟨(some 12),(.mov (.tmp 0)),none⟩⟩,⟨7,64,⟨(some 13),(.nilCheck (.tmp 12)),none⟩⟩,⟨8,192,⟨(some 14),(.fieldAddr 0 (.tmp 13)),none⟩⟩,⟨9,448,⟨(some 15),(.load false 1 (.tmp 14)),none⟩⟩,⟨10,0,⟨(some 16),(.mov (.tmp 0)),none⟩⟩,⟨11,1024,⟨(some 17),(.nilCheck (.tmp 16)),none⟩⟩,⟨12,3072,⟨(some 18),(.fieldAddr 1 (.tmp 17)),none⟩⟩,⟨13,7168,⟨(some 19),(.load false 1 (.tmp 18)),none⟩⟩,⟨14,0,⟨(some 20),(.mov (.tmp 0)),none⟩⟩,⟨15,16384,⟨(some 21),(.nilCheck (.tmp 20)),none⟩⟩,⟨16,49152,⟨(some 22),(.fieldAddr 1 (.tmp 21)),none⟩⟩,⟨17,114688,⟨(some 23),(.load false 1 (.tmp 22)),none⟩⟩,⟨18,0,⟨(some 24),(.mov (.tmp 2)),none⟩⟩,⟨19,507904,⟨(some 25),(.bin .add (.tmp 23) (.tmp 24)),none⟩⟩,⟨20,1048512,⟨(some 26),(.sliceT (.tmp 15) (some (.tmp 19)) (some (.tmp 25))),none⟩⟩,⟨21,0,⟨(some 27),(.mov (.tmp 0)),none⟩⟩,⟨22,2097152,⟨(some 28),(.nilCheck (.tmp 27)),none⟩⟩,⟨23,6291456,⟨(some 29),(.fieldAddr 1 (.tmp 28)),none⟩⟩,⟨24,14680064,⟨(some 30),(.load false 1 (.tmp 29)),none⟩⟩,⟨25,33554400,⟨(some 31),(.build [(.int .i64 0),(.str []),(.int .i64 0)] [(0,(1,(.tmp 11))),(1,(1,(.tmp 26))),(2,(1,(.tmp 30)))]),none⟩⟩,⟨26,67108832,⟨(some 32),(.buildSlice 3 1 [(.int .i64 0),(.str []),(.int .i64 0)] [(0,(3,(.tmp 31)))]),none⟩⟩,⟨27,134217726,⟨(some 33),(.append 3 (.tmp 10) (.tmp 32)),none⟩⟩,⟨28,268435455,⟨(some 34),(.nilCheck (.tmp 6)),none⟩⟩,⟨29,536870911,⟨(some 35),(.fieldAddr 2 (.tmp 34)),none⟩⟩,⟨30,1073741823,⟨none,(.store 1 (.tmp 35) (.tmp 33)),none⟩⟩]
def aJ6:List AStep := [⟨some 36,.mov (.tmp 0),none⟩,⟨some 37,.nilCheck (.tmp 36),none⟩,⟨some 38,.fieldAddr 1 (.tmp 37),none⟩,⟨some 39,.load false 1 (.tmp 38),none⟩,⟨some 40,.mov (.tmp 2),none⟩,⟨some 41,.bin .add (.tmp 39) (.tmp 40),none⟩,⟨some 42,.nilCheck (.tmp 36),none⟩,⟨some 43,.fieldAddr 1 (.tmp 42),none⟩,⟨none,.store 1 (.tmp 43) (.tmp 41),none⟩]
def aRe:ACode:=(.seq (.draw aJ7) (.ops aJ6))
def aF7:AFunc:=⟨44,[],aRe⟩
/-! parse_reader_pass -/
def aEJ:List AStep := [⟨some 4,.mov (.con (.bool false)),none⟩]
def aEK:List AStep := [⟨some 5,.mov (.tmp 0),none⟩,⟨some 6,.mov (.tmp 1),none⟩,⟨some 7,.call (.con (.func aAx [])) [(.tmp 5),(.tmp 6)],none⟩,⟨some 8,.not (.tmp 7),none⟩]
def aEI:List AStep := [⟨some 4,.mov (.con (.bool false)),none⟩]
def aE4:List AStep := [⟨some 9,.mov (.tmp 0),none⟩,⟨some 10,.mov (.tmp 0),none⟩,⟨some 11,.nilCheck (.tmp 10),none⟩,⟨some 12,.fieldAddr 0 (.tmp 11),none⟩,⟨some 13,.load false 1 (.tmp 12),none⟩,⟨some 14,.sliceS 3 (.tmp 13) (some (.con (.int .i64 1))) none,none⟩,⟨some 15,.nilCheck (.tmp 9),none⟩,⟨some 16,.fieldAddr 0 (.tmp 15),none⟩,⟨none,.store 1 (.tmp 16) (.tmp 14),none⟩]
def aE8:List AStep := [⟨some 4,.mov (.con (.bool true)),none⟩]
def aQ5:ACode:=(.seq (.ops aEJ) (.seq (.seq (.ops aEK) (.cond (.tmp 8) (.seq (.ops aEI) .ret) .skip)) (.seq (.ops aE4) (.seq (.ops aE8) .ret))))
def aAy:AFunc:=⟨17,[(.tmp 4)],aQ5⟩
/-! parse_reader_name -/
def aHv:List AStep := [⟨some 2,.mov (.con (.str [])),none⟩]
def aIN:List AStep := [⟨some 4,.mov (.tmp 0),none⟩,⟨some 5,.nilCheck (.tmp 4),none⟩,⟨some 6,.fieldAddr 0 (.tmp 5),none⟩,⟨some 7,.load false 1 (.tmp 6),none⟩,⟨some 8,.indexAddr 3 (.tmp 7) (.con (.int .i64 0)),none⟩,⟨some 9,.load true 3 (.tmp 8),none⟩,⟨some 3,.alloc [(.int .i64 0),(.str []),(.int .i64 0)],none⟩,⟨none,.store 3 (.tmp 3) (.tmp 9),none⟩]
def aES:List AStep := [⟨some 10,.fieldAddr 0 (.tmp 3),none⟩,⟨some 11,.load false 1 (.tmp 10),none⟩,⟨some 12,.bin .neq (.tmp 11) (.con (.int .i64 1)),none⟩,⟨some 13,.mov (.tmp 12),none⟩,⟨some 14,.fieldAddr 1 (.tmp 3),(some (13,false))⟩,⟨some 15,.load false 1 (.tmp 14),(some (13,false))⟩,⟨some 16,.call (.con (.func aG0 [])) [(.tmp 15)],(some (13,false))⟩,⟨some 17,.pick (.tmp 13) (.con (.bool true)) (.tmp 16),none⟩]
def aEe:List AStep := [⟨some 18,.mov (.tmp 0),none⟩,⟨some 19,.call (.con (.func aBK [])) [(.tmp 18),(.con (.int .i64 30))],none⟩]
def aEZ:List AStep := [⟨some 20,.mov (.tmp 0),none⟩,⟨some 21,.mov (.tmp 0),none⟩,⟨some 22,.nilCheck (.tmp 21),none⟩,⟨some 23,.fieldAddr 0 (.tmp 22),none⟩,⟨some 24,.load false 1 (.tmp 23),none⟩,⟨some 25,.sliceS 3 (.tmp 24) (some (.con (.int .i64 1))) none,none⟩,⟨some 26,.nilCheck (.tmp 20),none⟩,⟨some 27,.fieldAddr 0 (.tmp 26),none⟩,⟨none,.store 1 (.tmp 27) (.tmp 25),none⟩]
def aEM:List AStep := [⟨some 28,.fieldAddr 1 (.tmp 3),none⟩,⟨some 29,.load false 1 (.tmp 28),none⟩,⟨some 2,.mov (.tmp 29),none⟩]
def aQw:ACode:=(.seq (.ops aHv) (.seq (.ops aIN) (.seq (.seq (.ops aES) (.cond (.tmp 17) (.ops aEe) .skip)) (.seq (.ops aEZ) (.seq (.ops aEM) .ret)))))
def aDO:AFunc:=⟨30,[(.tmp 2)],aQw⟩
/-! parse_reader_need -/
def aIt:List AStep := [⟨some 4,.mov (.tmp 0),none⟩,⟨some 5,.mov (.tmp 1),none⟩,⟨some 6,.call (.con (.func aAW [])) [(.tmp 4),(.tmp 5)],none⟩,⟨some 7,.not (.tmp 6),none⟩]
def aI5:List AStep := [⟨some 8,.mov (.tmp 0),none⟩,⟨some 9,.call (.con (.func aBK [])) [(.tmp 8),(.con (.int .i64 30))],none⟩]
def aQd:ACode:=(.seq (.ops aIt) (.cond (.tmp 7) (.ops aI5) .skip))
def aFD:AFunc:=⟨10,[],aQd⟩
/-! parse_reader_rel -/
def aJC:List AStep := [⟨some 2,.alloc [(.str []),(.str []),(.str []),(.str []),.nils,.nils],none⟩]
def aJ3:List AStep := [⟨some 4,.build [(.int .i64 0),(.str []),(.str [])] [(0,(1,(.con (.int .i64 1))))],none⟩,⟨some 5,.buildSlice 3 1 [(.int .i64 0),(.str []),(.str [])] [(0,(3,(.tmp 4)))],none⟩,⟨some 6,.build [(.str []),(.str []),(.str []),(.str []),.nils,.nils] [(5,(1,(.tmp 5)))],none⟩,⟨some 3,.alloc [(.str []),(.str []),(.str []),(.str []),.nils,.nils],none⟩,⟨none,.store 6 (.tmp 3) (.tmp 6),none⟩]
def aJZ:List AStep := [⟨some 7,.mov (.tmp 0),none⟩,⟨some 8,.call (.con (.func aA1 [])) [(.tmp 7)],none⟩,⟨some 9,.fieldAddr 0 (.tmp 3),none⟩,⟨none,.store 1 (.tmp 9) (.tmp 8),none⟩]
def aJc:List AStep := [⟨some 10,.mov (.tmp 0),none⟩,⟨some 11,.call (.con (.func aAY [])) [(.tmp 10),(.con (.str [40]))],none⟩]
def aJA:List AStep := [⟨some 12,.mov (.tmp 0),none⟩,⟨some 13,.call (.con (.func aA1 [])) [(.tmp 12)],none⟩,⟨some 14,.fieldAddr 1 (.tmp 3),none⟩,⟨none,.store 1 (.tmp 14) (.tmp 13),none⟩]
def aJG:List AStep := [⟨some 15,.mov (.tmp 0),none⟩,⟨some 16,.call (.con (.func aAY [])) [(.tmp 15),(.con (.str [44]))],none⟩]
def aJ9:List AStep := [⟨some 17,.mov (.tmp 0),none⟩,⟨some 18,.call (.con (.func aA1 [])) [(.tmp 17)],none⟩,⟨some 19,.fieldAddr 2 (.tmp 3),none⟩,⟨none,.store 1 (.tmp 19) (.tmp 18),none⟩]
def aJd:List AStep := [⟨some 20,.mov (.tmp 0),none⟩,⟨some 21,.call (.con (.func aAY [])) [(.tmp 20),(.con (.str [44]))],none⟩]
def aJf:List AStep := [⟨some 22,.mov (.tmp 0),none⟩,⟨some 23,.call (.con (.func aA1 [])) [(.tmp 22)],none⟩,⟨some 24,.fieldAddr 3 (.tmp 3),none⟩,⟨none,.store 1 (.tmp 24) (.tmp 23),none⟩]
def aJN:List AStep := [⟨some 25,.mov (.tmp 0),none⟩,⟨some 26,.call (.con (.func aAY [])) [(.tmp 25),(.con (.str [41]))],none⟩]
def aI7:List AStep := [⟨some 27,.mov (.tmp 0),none⟩,⟨some 28,.call (.con (.func aAY [])) [(.tmp 27),(.con (.str [58]))],none⟩]
def aI8:List AStep := [⟨some 29,.mov (.tmp 0),none⟩,⟨some 30,.call (.con (.func aAx [])) [(.tmp 29),(.con (.str [105,115]))],none⟩,⟨some 31,.not (.tmp 30),none⟩,⟨some 32,.mov (.tmp 31),none⟩,⟨some 33,.mov (.tmp 0),(some (32,true))⟩,⟨some 34,.call (.con (.func aAx [])) [(.tmp 33),(.con (.str [59]))],(some (32,true))⟩,⟨some 35,.not (.tmp 34),(some (32,true))⟩,⟨some 36,.pick (.tmp 32) (.tmp 35) (.con (.bool false)),none⟩]
def aIO:List AStep := [⟨some 37,.mov (.tmp 0),none⟩,⟨some 38,.call (.con (.func aFC [])) [(.tmp 37)],none⟩,⟨some 39,.fieldAddr 4 (.tmp 3),none⟩,⟨none,.store 1 (.tmp 39) (.tmp 38),none⟩]
def aEP:List AStep := [⟨some 40,.mov (.tmp 0),none⟩,⟨some 41,.call (.con (.func aAW [])) [(.tmp 40),(.con (.str [105,115]))],none⟩]
def aE3:List AStep := [⟨some 42,.mov (.tmp 0),none⟩,⟨some 43,.call (.con (.func aAw [])) [(.tmp 42)],none⟩,⟨some 44,.fieldAddr 5 (.tmp 3),none⟩,⟨none,.store 1 (.tmp 44) (.tmp 43),none⟩]
def aDH:List AStep := [⟨some 45,.mov (.tmp 0),none⟩,⟨some 46,.call (.con (.func aAY [])) [(.tmp 45),(.con (.str [59]))],none⟩]
def aDI:List AStep := [⟨some 47,.load true 6 (.tmp 3),none⟩,⟨none,.store 6 (.tmp 2) (.tmp 47),none⟩]
def aRl:ACode:=(.seq (.ops aJC) (.seq (.ops aJ3) (.seq (.ops aJZ) (.seq (.ops aJc) (.seq (.ops aJA) (.seq (.ops aJG) (.seq (.ops aJ9) (.seq (.ops aJd) (.seq (.ops aJf) (.seq (.ops aJN) (.seq (.ops aI7) (.seq (.seq (.ops aI8) (.cond (.tmp 36) (.ops aIO) .skip)) (.seq (.seq (.ops aEP) (.cond (.tmp 41) (.ops aE3) .skip)) (.seq (.ops aDH) (.seq (.ops aDI) .ret)))))))))))))))
def aCm:AFunc:=⟨48,[(.cell 2 true 6)],aRl⟩
/-! parse_reader_fail -/
def aIe:List AStep := [⟨some 4,.mov (.tmp 1),none⟩,⟨some 5,.mov (.tmp 0),none⟩,⟨some 6,.nilCheck (.tmp 5),none⟩,⟨some 7,.fieldAddr 0 (.tmp 6),none⟩,⟨some 8,.load false 1 (.tmp 7),none⟩,⟨some 9,.indexAddr 3 (.tmp 8) (.con (.int .i64 0)),none⟩,⟨some 10,.fieldAddr 2 (.tmp 9),none⟩,⟨some 11,.load false 1 (.tmp 10),none⟩,⟨some 12,.build [(.int .i64 0),(.int .i64 0)] [(0,(1,(.tmp 4))),(1,(1,(.tmp 11)))],none⟩,⟨some 13,.makeIface aEq (.tmp 12),none⟩,⟨none,.panic (.tmp 13),none⟩]
def aQ8:ACode:=(.ops aIe)
def aJD:AFunc:=⟨14,[],aQ8⟩
/-! check_kind -/
def aQZ:List AStep := [⟨some 2,.box (.tmp 0),none⟩,⟨some 3,.box (.tmp 1),none⟩,⟨some 4,.alloc [(.str []),.nils],none⟩,⟨some 5,.mov (.con (.bool false)),none⟩]
def aPe:List AStep := [⟨some 7,.fieldAddr 0 (.tmp 2),none⟩,⟨some 8,.load false 1 (.tmp 7),none⟩,⟨some 9,.makeFunc aKN [(.tmp 3)],none⟩,⟨some 10,.call (.con (.func aAr [])) [(.tmp 8),(.tmp 9)],none⟩,⟨some 6,.mov (.tmp 10),none⟩]
def aQU:List AStep := [⟨some 11,.mov (.tmp 6),none⟩,⟨some 12,.bin .lss (.tmp 11) (.con (.int .i64 0)),none⟩]
def aQE:List AStep := [⟨some 13,.build [(.str []),.nils] [],none⟩,⟨none,.store 2 (.tmp 4) (.tmp 13),none⟩,⟨some 5,.mov (.con (.bool false)),none⟩]
def aPx:List AStep := [⟨some 14,.fieldAddr 0 (.tmp 2),none⟩,⟨some 15,.load false 1 (.tmp 14),none⟩,⟨some 16,.mov (.tmp 6),none⟩,⟨some 17,.indexAddr 2 (.tmp 15) (.tmp 16),none⟩,⟨some 18,.load true 2 (.tmp 17),none⟩,⟨none,.store 2 (.tmp 4) (.tmp 18),none⟩,⟨some 5,.mov (.con (.bool true)),none⟩]
def aW0:ACode:=(.seq (.ops aQZ) (.seq (.ops aPe) (.seq (.seq (.ops aQU) (.cond (.tmp 12) (.seq (.ops aQE) .ret) .skip)) (.seq (.ops aPx) .ret))))
def aI9:AFunc:=⟨19,[(.cell 4 true 2),(.tmp 5)],aW0⟩
/-! slices_ContainsFunc_parse_Rel_parse_Rel -/
def aB1:List AStep := [⟨some 4,.mov (.con (.bool false)),none⟩]
def aB0:List AStep := [⟨some 5,.mov (.tmp 0),none⟩,⟨some 6,.mov (.tmp 1),none⟩,⟨some 7,.call (.con (.func aAa [])) [(.tmp 5),(.tmp 6)],none⟩,⟨some 8,.bin .geq (.tmp 7) (.con (.int .i64 0)),none⟩,⟨some 4,.mov (.tmp 8),none⟩]
def aDw:ACode:=(.seq (.ops aB1) (.seq (.ops aB0) .ret))
def aAn:AFunc:=⟨9,[(.tmp 4)],aDw⟩
/-! check_has_1 -/
def aNz:List AStep := [⟨some 2,.box (.tmp 0),none⟩,⟨some 3,.mov (.con (.bool false)),none⟩]
def aOI:List AStep := [⟨some 4,.fieldAddr 0 (.tmp 2),none⟩,⟨some 5,.load false 1 (.tmp 4),none⟩,⟨some 6,.load false 1 (.tmp 1),none⟩,⟨some 7,.bin .eql (.tmp 5) (.tmp 6),none⟩,⟨some 3,.mov (.tmp 7),none⟩]
def aVf:ACode:=(.seq (.ops aNz) (.seq (.ops aOI) .ret))
def aLL:AFunc:=⟨8,[(.tmp 3)],aVf⟩
/-! slices_Contains_parse_Sub_parse_Sub -/
def aC7:List AStep := [⟨some 3,.box (.tmp 1),none⟩,⟨some 4,.mov (.con (.bool false)),none⟩]
def aC3:List AStep := [⟨some 5,.mov (.tmp 0),none⟩,⟨some 6,.load true 2 (.tmp 3),none⟩,⟨some 7,.call (.con (.func aBH [])) [(.tmp 5),(.tmp 6)],none⟩,⟨some 8,.bin .geq (.tmp 7) (.con (.int .i64 0)),none⟩,⟨some 4,.mov (.tmp 8),none⟩]
def aFT:ACode:=(.seq (.ops aC7) (.seq (.ops aC3) .ret))
def aBC:AFunc:=⟨9,[(.tmp 4)],aFT⟩
/-! check_Find -/
def aPd:List AStep := [⟨some 3,.box (.tmp 0),none⟩,⟨some 5,.box (.tmp 2),none⟩,⟨some 6,.alloc [(.str []),(.str []),(.str []),(.str []),.nils,.nils],none⟩,⟨some 7,.mov (.con (.bool false)),none⟩]
def aPl:List AStep := [⟨some 12,.load true 1 (.tmp 3),none⟩,⟨some 13,.mov (.tmp 1),none⟩,⟨some 14,.call (.con (.func aDk [])) [(.tmp 12),(.tmp 13)],none⟩,⟨some 11,.mov (.tmp 14),none⟩,⟨some 15,.extract (.tmp 11) 0,none⟩,⟨some 16,.extract (.tmp 11) 1,none⟩,⟨some 8,.alloc [(.str []),.nils],none⟩,⟨none,.store 2 (.tmp 8) (.tmp 15),none⟩,⟨some 9,.mov (.tmp 16),none⟩]
def aQP:List AStep := [⟨some 17,.fieldAddr 1 (.tmp 8),none⟩,⟨some 18,.load false 1 (.tmp 17),none⟩,⟨some 19,.makeFunc aKU [(.tmp 5)],none⟩,⟨some 20,.call (.con (.func aAa [])) [(.tmp 18),(.tmp 19)],none⟩,⟨some 10,.mov (.tmp 20),none⟩]
def aPb:List AStep := [⟨some 21,.mov (.tmp 10),none⟩,⟨some 22,.bin .lss (.tmp 21) (.con (.int .i64 0)),none⟩]
def aPs:List AStep := [⟨some 23,.build [(.str []),(.str []),(.str []),(.str []),.nils,.nils] [],none⟩,⟨none,.store 6 (.tmp 6) (.tmp 23),none⟩,⟨some 7,.mov (.con (.bool false)),none⟩]
def aPw:List AStep := [⟨some 24,.fieldAddr 1 (.tmp 8),none⟩,⟨some 25,.load false 1 (.tmp 24),none⟩,⟨some 26,.mov (.tmp 10),none⟩,⟨some 27,.indexAddr 6 (.tmp 25) (.tmp 26),none⟩,⟨some 28,.load true 6 (.tmp 27),none⟩,⟨none,.store 6 (.tmp 6) (.tmp 28),none⟩,⟨some 7,.mov (.con (.bool true)),none⟩]
def aW6:ACode:=(.seq (.ops aPd) (.seq (.ops aPl) (.seq (.ops aQP) (.seq (.seq (.ops aPb) (.cond (.tmp 22) (.seq (.ops aPs) .ret) .skip)) (.seq (.ops aPw) .ret)))))
def aIk:AFunc:=⟨29,[(.cell 6 true 6),(.tmp 7)],aW6⟩
/-! check_leads -/
def aOr:List AStep := [⟨some 3,.box (.tmp 0),none⟩,⟨some 4,.box (.tmp 1),none⟩,⟨some 5,.box (.tmp 2),none⟩,⟨some 6,.mov (.con (.bool false)),none⟩]
def aO0:List AStep := [⟨some 7,.fieldAddr 4 (.tmp 4),none⟩,⟨some 8,.load false 1 (.tmp 7),none⟩,⟨some 9,.makeFunc aHy [(.tmp 3),(.tmp 5)],none⟩,⟨some 10,.call (.con (.func aAp [])) [(.tmp 8),(.tmp 9)],none⟩,⟨some 6,.mov (.tmp 10),none⟩]
def aVt:ACode:=(.seq (.ops aOr) (.seq (.ops aO0) .ret))
def aLB:AFunc:=⟨11,[(.tmp 6)],aVt⟩
/-! strata_objects -/
def aLU:List AStep := [⟨some 2,.box (.tmp 0),none⟩,⟨some 4,.mov (.con .nils),none⟩]
def aLS:List AStep := [⟨some 5,.mov (.con .nils),none⟩]
def aLV:List AStep := [⟨some 10,.fieldAddr 1 (.tmp 2),none⟩,⟨some 11,.load false 1 (.tmp 10),none⟩,⟨some 12,.len (.tmp 11),none⟩,⟨some 13,.mov (.con (.int .i64 0)),none⟩]
def aS8:List AStep := [⟨some 14,.bin .lss (.tmp 13) (.tmp 12),none⟩]
def aLX:List AStep := [⟨some 15,.indexAddr 6 (.tmp 11) (.tmp 13),none⟩,⟨some 16,.load true 6 (.tmp 15),none⟩,⟨some 7,.alloc [(.str []),(.str []),(.str []),(.str []),.nils,.nils],none⟩,⟨none,.store 6 (.tmp 7) (.tmp 16),none⟩]
def aLT:List AStep := [⟨some 17,.fieldAddr 0 (.tmp 7),none⟩,⟨some 18,.load false 1 (.tmp 17),none⟩,⟨some 19,.mov (.tmp 1),none⟩,⟨some 20,.bin .neq (.tmp 18) (.tmp 19),none⟩]
def aL4:List AStep := [⟨some 21,.fieldAddr 4 (.tmp 7),none⟩,⟨some 22,.load false 1 (.tmp 21),none⟩,⟨some 23,.len (.tmp 22),none⟩,⟨some 24,.mov (.con (.int .i64 0)),none⟩]
def aS7:List AStep := [⟨some 25,.bin .lss (.tmp 24) (.tmp 23),none⟩]
def aL7:List AStep := [⟨some 26,.indexAddr 2 (.tmp 22) (.tmp 24),none⟩,⟨some 27,.load true 2 (.tmp 26),none⟩,⟨some 9,.alloc [(.str []),(.str [])],none⟩,⟨none,.store 2 (.tmp 9) (.tmp 27),none⟩]
def aL5:List AStep := [⟨some 28,.fieldAddr 1 (.tmp 9),none⟩,⟨some 29,.load false 1 (.tmp 28),none⟩,⟨some 30,.bin .eql (.tmp 29) (.con (.str [])),none⟩]
def aKt:List AStep := [⟨some 31,.mov (.tmp 5),none⟩,⟨some 32,.fieldAddr 0 (.tmp 9),none⟩,⟨some 33,.load false 1 (.tmp 32),none⟩,⟨some 34,.buildSlice 1 1 [(.str [])] [(0,(1,(.tmp 33)))],none⟩,⟨some 35,.append 1 (.tmp 31) (.tmp 34),none⟩,⟨some 5,.mov (.tmp 35),none⟩]
def aRF:List AStep := [⟨some 36,.bin .add (.tmp 24) (.con (.int .i64 1)),none⟩,⟨some 24,.mov (.tmp 36),none⟩]
def aRD:ACode:=(.seq (.ops aS7) (.seq (.cond (.tmp 25) .skip (.exit 2)) (.seq (.block 3 (.seq (.ops aL7) (.seq (.ops aL5) (.cond (.tmp 30) (.ops aKt) .skip)))) (.ops aRF))))
def aSK:List AStep := [⟨some 37,.bin .add (.tmp 13) (.con (.int .i64 1)),none⟩,⟨some 13,.mov (.tmp 37),none⟩]
def aRk:ACode:=(.seq (.ops aS8) (.seq (.cond (.tmp 14) .skip (.exit 0)) (.seq (.block 1 (.seq (.ops aLX) (.seq (.seq (.ops aLT) (.cond (.tmp 20) (.exit 1) .skip)) (.seq (.ops aL4) (.block 2 (.loop aRD)))))) (.ops aSK))))
def aK8:List AStep := [⟨some 38,.mov (.tmp 5),none⟩,⟨some 4,.mov (.tmp 38),none⟩]
def aTG:ACode:=(.seq (.ops aLU) (.seq (.ops aLS) (.seq (.seq (.ops aLV) (.block 0 (.loop aRk))) (.seq (.ops aK8) .ret))))
def aGr:AFunc:=⟨39,[(.tmp 4)],aTG⟩
/-! strata_compare_1 -/
def aJF:List AStep := [⟨some 1,.box (.tmp 0),none⟩,⟨some 2,.mov (.con (.int .i64 0)),none⟩]
def aJ1:List AStep := [⟨some 3,.fieldAddr 2 (.tmp 1),none⟩,⟨some 4,.load false 1 (.tmp 3),none⟩]
def aJj:List AStep := [⟨some 2,.mov (.con (.int .i64 1)),none⟩]
def aJU:List AStep := [⟨some 2,.mov (.con (.int .i64 0)),none⟩]
def aRx:ACode:=(.seq (.ops aJF) (.seq (.seq (.ops aJ1) (.cond (.tmp 4) (.seq (.ops aJj) .ret) .skip)) (.seq (.ops aJU) .ret)))
def aD3:AFunc:=⟨5,[(.tmp 2)],aRx⟩
/-! cmp_Or_int -/
def aPm:List AStep := [⟨some 2,.mov (.con (.int .i64 0)),none⟩]
def aQS:List AStep := [⟨some 3,.mov (.con (.int .i64 0)),none⟩]
def aQB:List AStep := [⟨some 6,.mov (.tmp 0),none⟩,⟨some 7,.len (.tmp 6),none⟩,⟨some 8,.mov (.con (.int .i64 0)),none⟩]
def aV8:List AStep := [⟨some 9,.bin .lss (.tmp 8) (.tmp 7),none⟩]
def aQO:List AStep := [⟨some 10,.indexAddr 1 (.tmp 6) (.tmp 8),none⟩,⟨some 11,.load false 1 (.tmp 10),none⟩,⟨some 5,.mov (.tmp 11),none⟩]
def aPh:List AStep := [⟨some 12,.mov (.tmp 5),none⟩,⟨some 13,.mov (.tmp 3),none⟩,⟨some 14,.bin .neq (.tmp 12) (.tmp 13),none⟩]
def aPk:List AStep := [⟨some 15,.mov (.tmp 5),none⟩,⟨some 2,.mov (.tmp 15),none⟩]
def aVg:List AStep := [⟨some 16,.bin .add (.tmp 8) (.con (.int .i64 1)),none⟩,⟨some 8,.mov (.tmp 16),none⟩]
def aVy:ACode:=(.seq (.ops aV8) (.seq (.cond (.tmp 9) .skip (.exit 0)) (.seq (.block 1 (.seq (.ops aQO) (.seq (.ops aPh) (.cond (.tmp 14) (.seq (.ops aPk) .ret) .skip)))) (.ops aVg))))
def aPz:List AStep := [⟨some 17,.mov (.tmp 3),none⟩,⟨some 2,.mov (.tmp 17),none⟩]
def aWY:ACode:=(.seq (.ops aPm) (.seq (.ops aQS) (.seq (.seq (.ops aQB) (.block 0 (.loop aVy))) (.seq (.ops aPz) .ret))))
def aIE:AFunc:=⟨18,[(.tmp 2)],aWY⟩
/-! cmp_Compare_int -/
def aK4:List AStep := [⟨some 4,.mov (.con (.int .i64 0)),none⟩]
def aKm:List AStep := [⟨some 7,.mov (.tmp 0),none⟩,⟨some 8,.call (.con (.func aFP [])) [(.tmp 7)],none⟩,⟨some 5,.mov (.tmp 8),none⟩]
def aKZ:List AStep := [⟨some 9,.mov (.tmp 1),none⟩,⟨some 10,.call (.con (.func aFP [])) [(.tmp 9)],none⟩,⟨some 6,.mov (.tmp 10),none⟩]
def aKe:List AStep := [⟨some 11,.mov (.tmp 5),none⟩]
def aRU:List AStep := [⟨some 12,.mov (.tmp 6),none⟩]
def aRg:List AStep := [⟨some 4,.mov (.con (.int .i64 0)),none⟩]
def aRK:List AStep := [⟨some 4,.mov (.con (.int .i64 (-1))),none⟩]
def aKs:List AStep := [⟨some 13,.mov (.tmp 6),none⟩]
def aR4:List AStep := [⟨some 4,.mov (.con (.int .i64 1)),none⟩]
def aK1:List AStep := [⟨some 14,.mov (.tmp 0),none⟩,⟨some 15,.mov (.tmp 1),none⟩,⟨some 16,.bin .lss (.tmp 14) (.tmp 15),none⟩]
def aJI:List AStep := [⟨some 4,.mov (.con (.int .i64 (-1))),none⟩]
def aIz:List AStep := [⟨some 17,.mov (.tmp 0),none⟩,⟨some 18,.mov (.tmp 1),none⟩,⟨some 19,.bin .gtr (.tmp 17) (.tmp 18),none⟩]
def aJW:List AStep := [⟨some 4,.mov (.con (.int .i64 1)),none⟩]
def aJ5:List AStep := [⟨some 4,.mov (.con (.int .i64 0)),none⟩]
def aSX:ACode:=(.seq (.ops aK4) (.seq (.ops aKm) (.seq (.ops aKZ) (.seq (.seq (.ops aKe) (.cond (.tmp 11) (.seq (.seq (.ops aRU) (.cond (.tmp 12) (.seq (.ops aRg) .ret) .skip)) (.seq (.ops aRK) .ret)) .skip)) (.seq (.seq (.ops aKs) (.cond (.tmp 13) (.seq (.ops aR4) .ret) .skip)) (.seq (.seq (.ops aK1) (.cond (.tmp 16) (.seq (.ops aJI) .ret) .skip)) (.seq (.seq (.ops aIz) (.cond (.tmp 19) (.seq (.ops aJW) .ret) .skip)) (.seq (.ops aJ5) .ret))))))))
def aDF:AFunc:=⟨20,[(.tmp 4)],aSX⟩
/-! doormanref10_from -/
def aEh:List AStep := [⟨some 4,.mov (.con (.int .i64 0)),none⟩]
def aEd:List AStep := [⟨some 6,.mov (.tmp 0),none⟩,⟨some 7,.mov (.tmp 1),none⟩,⟨some 8,.indexAddr 3 (.tmp 6) (.tmp 7),none⟩,⟨some 9,.fieldAddr 0 (.tmp 8),none⟩,⟨some 10,.load false 1 (.tmp 9),none⟩,⟨some 11,.bin .lss (.tmp 10) (.con (.int .i64 4)),none⟩]
def aIX:List AStep := [⟨some 12,.mov (.tmp 1),none⟩,⟨some 4,.mov (.tmp 12),none⟩]
def aI0:List AStep := [⟨some 13,.mov (.tmp 0),none⟩,⟨some 14,.mov (.tmp 1),none⟩,⟨some 15,.bin .sub (.tmp 14) (.con (.int .i64 1)),none⟩,⟨some 16,.call (.con (.func aBM [])) [(.tmp 13),(.tmp 15)],none⟩,⟨some 5,.mov (.tmp 16),none⟩]
def aHz:List AStep := [⟨some 17,.mov (.tmp 0),none⟩,⟨some 18,.mov (.tmp 5),none⟩,⟨some 19,.bin .sub (.tmp 18) (.con (.int .i64 1)),none⟩,⟨some 20,.call (.con (.func aBM [])) [(.tmp 17),(.tmp 19)],none⟩,⟨some 4,.mov (.tmp 20),none⟩]
def aQt:ACode:=(.seq (.ops aEh) (.seq (.seq (.ops aEd) (.cond (.tmp 11) (.seq (.ops aIX) .ret) .skip)) (.seq (.ops aI0) (.seq (.ops aHz) .ret))))
def aC4:AFunc:=⟨21,[(.tmp 4)],aQt⟩
/-! doormanref10_below -/
def aHH:List AStep := [⟨some 2,.box (.tmp 0),none⟩,⟨some 3,.box (.tmp 1),none⟩,⟨some 4,.mov (.con (.bool false)),none⟩]
def aH8:List AStep := [⟨some 5,.fieldAddr 0 (.tmp 2),none⟩,⟨some 6,.load false 1 (.tmp 5),none⟩,⟨some 7,.fieldAddr 0 (.tmp 3),none⟩,⟨some 8,.load false 1 (.tmp 7),none⟩,⟨some 9,.bin .neq (.tmp 6) (.tmp 8),none⟩]
def aHM:List AStep := [⟨some 10,.fieldAddr 0 (.tmp 2),none⟩,⟨some 11,.load false 1 (.tmp 10),none⟩,⟨some 12,.fieldAddr 0 (.tmp 3),none⟩,⟨some 13,.load false 1 (.tmp 12),none⟩,⟨some 14,.bin .lss (.tmp 11) (.tmp 13),none⟩,⟨some 4,.mov (.tmp 14),none⟩]
def aHi:List AStep := [⟨some 15,.fieldAddr 1 (.tmp 2),none⟩,⟨some 16,.load false 1 (.tmp 15),none⟩,⟨some 17,.fieldAddr 1 (.tmp 3),none⟩,⟨some 18,.load false 1 (.tmp 17),none⟩,⟨some 19,.bin .neq (.tmp 16) (.tmp 18),none⟩]
def aHj:List AStep := [⟨some 20,.fieldAddr 1 (.tmp 2),none⟩,⟨some 21,.load false 1 (.tmp 20),none⟩,⟨some 22,.fieldAddr 1 (.tmp 3),none⟩,⟨some 23,.load false 1 (.tmp 22),none⟩,⟨some 24,.bin .lss (.tmp 21) (.tmp 23),none⟩,⟨some 4,.mov (.tmp 24),none⟩]
def aDl:List AStep := [⟨some 25,.fieldAddr 2 (.tmp 2),none⟩,⟨some 26,.load false 1 (.tmp 25),none⟩,⟨some 27,.not (.tmp 26),none⟩,⟨some 28,.mov (.tmp 27),none⟩,⟨some 29,.fieldAddr 2 (.tmp 3),(some (28,true))⟩,⟨some 30,.load false 1 (.tmp 29),(some (28,true))⟩,⟨some 31,.pick (.tmp 28) (.tmp 30) (.con (.bool false)),none⟩,⟨some 4,.mov (.tmp 31),none⟩]
def aPO:ACode:=(.seq (.ops aHH) (.seq (.seq (.ops aH8) (.cond (.tmp 9) (.seq (.ops aHM) .ret) .skip)) (.seq (.seq (.ops aHi) (.cond (.tmp 19) (.seq (.ops aHj) .ret) .skip)) (.seq (.ops aDl) .ret))))
def aBF:AFunc:=⟨32,[(.tmp 4)],aPO⟩
/-! strings_Cut -/
def aOK:List AStep := [⟨some 4,.mov (.con (.str [])),none⟩,⟨some 5,.mov (.con (.str [])),none⟩,⟨some 6,.mov (.con (.bool false)),none⟩]
def aOp:List AStep := [⟨some 7,.mov (.tmp 0),none⟩,⟨some 8,.mov (.tmp 1),none⟩,⟨some 9,.call (.con (.func aGF [])) [(.tmp 7),(.tmp 8)],none⟩,⟨some 10,.extract (.tmp 9) 0,none⟩,⟨some 11,.extract (.tmp 9) 1,none⟩,⟨some 12,.extract (.tmp 9) 2,none⟩,⟨some 4,.mov (.tmp 10),none⟩,⟨some 5,.mov (.tmp 11),none⟩,⟨some 6,.mov (.tmp 12),none⟩]
def aV7:ACode:=(.seq (.ops aOK) (.seq (.ops aOp) .ret))
def aLI:AFunc:=⟨13,[(.tmp 4),(.tmp 5),(.tmp 6)],aV7⟩
/-! glyph_Name -/
def aQN:List AStep := [⟨some 2,.mov (.con (.bool false)),none⟩]
def aPp:List AStep := [⟨some 5,.mov (.tmp 0),none⟩,⟨some 6,.call (.con (.func aDV [])) [(.tmp 5)],none⟩,⟨some 7,.not (.tmp 6),none⟩,⟨some 8,.mov (.tmp 7),none⟩,⟨some 9,.mov (.tmp 0),(some (8,false))⟩,⟨some 10,.bin .eql (.tmp 9) (.con (.str [])),(some (8,false))⟩,⟨some 11,.pick (.tmp 8) (.con (.bool true)) (.tmp 10),none⟩,⟨some 12,.mov (.tmp 11),none⟩,⟨some 13,.mov (.tmp 0),(some (12,false))⟩,⟨some 14,.call (.con (.func aKx [])) [(.tmp 13)],(some (12,false))⟩,⟨some 15,.bin .gtr (.tmp 14) (.con (.int .i64 24)),(some (12,false))⟩,⟨some 16,.pick (.tmp 12) (.con (.bool true)) (.tmp 15),none⟩]
def aGl:List AStep := [⟨some 2,.mov (.con (.bool false)),none⟩]
def aQW:List AStep := [⟨some 17,.mov (.tmp 0),none⟩,⟨some 18,.rangeT (.tmp 17),none⟩]
def aQR:List AStep := [⟨some 19,.nextT (.tmp 18),none⟩,⟨some 20,.extract (.tmp 19) 0,none⟩]
def aQA:List AStep := [⟨some 21,.extract (.tmp 19) 2,none⟩,⟨some 4,.mov (.tmp 21),none⟩]
def aKz:List AStep := [⟨some 22,.mov (.tmp 4),none⟩,⟨some 23,.bin .lss (.tmp 22) (.con (.int .i32 161)),none⟩,⟨some 24,.mov (.tmp 23),none⟩,⟨some 25,.mov (.tmp 4),(some (24,true))⟩,⟨some 26,.call (.con (.func aA3 [])) [(.con (.str [97,98,99,100,101,102,103,104,105,106,107,108,109,110,111,112,113,114,115,116,117,118,119,120,121,122,65,66,67,68,69,70,71,72,73,74,75,76,77,78,79,80,81,82,83,84,85,86,87,88,89,90,48,49,50,51,52,53,54,55,56,57,95])),(.tmp 25)],(some (24,true))⟩,⟨some 27,.not (.tmp 26),(some (24,true))⟩,⟨some 28,.pick (.tmp 24) (.tmp 27) (.con (.bool false)),none⟩]
def aPc:List AStep := [⟨some 2,.mov (.con (.bool false)),none⟩]
def aPa:ACode:=(.seq (.ops aQR) (.seq (.cond (.tmp 20) .skip (.exit 0)) (.block 1 (.seq (.ops aQA) (.seq (.ops aKz) (.cond (.tmp 28) (.seq (.ops aPc) .ret) .skip))))))
def aQM:List AStep := [⟨some 2,.mov (.con (.bool true)),none⟩]
def aWv:ACode:=(.seq (.ops aQN) (.seq (.seq (.ops aPp) (.cond (.tmp 16) (.seq (.ops aGl) .ret) .skip)) (.seq (.seq (.ops aQW) (.block 0 (.loop aPa))) (.seq (.ops aQM) .ret))))
def aDL:AFunc:=⟨29,[(.tmp 2)],aWv⟩
/-! slices_IndexFunc_strata_Edge_strata_Edge -/
/-! glyph_Cut -/
def aRc:List AStep := [⟨some 4,.mov (.con (.str [])),none⟩,⟨some 5,.mov (.con (.str [])),none⟩]
def aQy:List AStep := [⟨some 6,.mov (.con (.int .i64 0)),none⟩]
def aRT:List AStep := [⟨some 8,.mov (.tmp 0),none⟩,⟨some 9,.rangeT (.tmp 8),none⟩]
def aRR:List AStep := [⟨some 10,.nextT (.tmp 9),none⟩,⟨some 11,.extract (.tmp 10) 0,none⟩]
def aRy:List AStep := [⟨some 12,.extract (.tmp 10) 1,none⟩,⟨some 7,.mov (.tmp 12),none⟩]
def aMB:List AStep := [⟨some 13,.mov (.tmp 6),none⟩,⟨some 14,.mov (.tmp 1),none⟩,⟨some 15,.bin .geq (.tmp 13) (.tmp 14),none⟩]
def aRo:List DStep := [⟨0,0,⟨(some 16),(.mov (.tmp 0)),none⟩⟩,⟨1,0,⟨(some 17),(.mov (.tmp 7)),none⟩⟩,⟨2,3,⟨(some 18),(.sliceT (.tmp 16) none (some (.tmp 17))),none⟩⟩,⟨3,0,⟨(some 19),(.mov (.tmp 0)),none⟩⟩,⟨4,0,⟨(some 20),(.mov (.tmp 7)),none⟩⟩,⟨5,24,⟨(some 21),(.sliceT (.tmp 19) (some (.tmp 20)) none),none⟩⟩,⟨6,7,⟨(some 4),(.mov (.tmp 18)),none⟩⟩,⟨7,127,⟨(some 5),(.mov (.tmp 21)),none⟩⟩]
def aRs:List AStep := [⟨some 22,.mov (.tmp 6),none⟩,⟨some 23,.bin .add (.tmp 22) (.con (.int .i64 1)),none⟩,⟨some 6,.mov (.tmp 23),none⟩]
def aSB:ACode:=(.seq (.ops aRR) (.seq (.cond (.tmp 11) .skip (.exit 0)) (.block 1 (.seq (.ops aRy) (.seq (.seq (.ops aMB) (.cond (.tmp 15) (.seq (.draw aRo) .ret) .skip)) (.ops aRs))))))
def aRm:List AStep := [⟨some 24,.mov (.tmp 0),none⟩,⟨some 4,.mov (.tmp 24),none⟩,⟨some 5,.mov (.con (.str [])),none⟩]
def aYC:ACode:=(.seq (.ops aRc) (.seq (.ops aQy) (.seq (.seq (.ops aRT) (.block 0 (.loop aSB))) (.seq (.ops aRm) .ret))))
def aKY:AFunc:=⟨25,[(.tmp 4),(.tmp 5)],aYC⟩
/-! glyph_Valid -/
def aOA:List AStep := [⟨some 2,.mov (.con (.bool false)),none⟩]
def aOw:List AStep := [⟨some 5,.mov (.tmp 0),none⟩,⟨some 6,.rangeT (.tmp 5),none⟩]
def aOB:List AStep := [⟨some 7,.nextT (.tmp 6),none⟩,⟨some 8,.extract (.tmp 7) 0,none⟩]
def aOH:List AStep := [⟨some 9,.extract (.tmp 7) 1,none⟩,⟨some 10,.extract (.tmp 7) 2,none⟩,⟨some 3,.mov (.tmp 9),none⟩,⟨some 4,.mov (.tmp 10),none⟩]
def aNm:List AStep := [⟨some 11,.mov (.tmp 4),none⟩,⟨some 12,.bin .eql (.tmp 11) (.con (.int .i32 65533)),none⟩,⟨some 13,.mov (.tmp 12),none⟩,⟨some 14,.mov (.tmp 0),(some (13,true))⟩,⟨some 15,.mov (.tmp 3),(some (13,true))⟩,⟨some 16,.sliceT (.tmp 14) (some (.tmp 15)) none,(some (13,true))⟩,⟨some 17,.call (.con (.func aAi [])) [(.tmp 16),(.con (.str [239,191,189]))],(some (13,true))⟩,⟨some 18,.not (.tmp 17),(some (13,true))⟩,⟨some 19,.pick (.tmp 13) (.tmp 18) (.con (.bool false)),none⟩]
def aNq:List AStep := [⟨some 2,.mov (.con (.bool false)),none⟩]
def aOl:ACode:=(.seq (.ops aOB) (.seq (.cond (.tmp 8) .skip (.exit 0)) (.block 1 (.seq (.ops aOH) (.seq (.ops aNm) (.cond (.tmp 19) (.seq (.ops aNq) .ret) .skip))))))
def aON:List AStep := [⟨some 2,.mov (.con (.bool true)),none⟩]
def aV2:ACode:=(.seq (.ops aOA) (.seq (.seq (.ops aOw) (.block 0 (.loop aOl))) (.seq (.ops aON) .ret)))
def aGj:AFunc:=⟨20,[(.tmp 2)],aV2⟩
/-! strings_HasPrefix -/
def aIU:List AStep := [⟨some 4,.mov (.con (.bool false)),none⟩]
def aIB:List AStep := [⟨some 5,.mov (.tmp 0),none⟩,⟨some 6,.mov (.tmp 1),none⟩,⟨some 7,.call (.con (.func aDT [])) [(.tmp 5),(.tmp 6)],none⟩,⟨some 4,.mov (.tmp 7),none⟩]
def aQi:ACode:=(.seq (.ops aIU) (.seq (.ops aIB) .ret))
def aFE:AFunc:=⟨8,[(.tmp 4)],aQi⟩
/-! parse_reader_is -/
def aF3:List AStep := [⟨some 4,.mov (.con (.bool false)),none⟩]
def aFV:List AStep := [⟨some 5,.mov (.tmp 0),none⟩,⟨some 6,.nilCheck (.tmp 5),none⟩,⟨some 7,.fieldAddr 0 (.tmp 6),none⟩,⟨some 8,.load false 1 (.tmp 7),none⟩,⟨some 9,.indexAddr 3 (.tmp 8) (.con (.int .i64 0)),none⟩,⟨some 10,.fieldAddr 1 (.tmp 9),none⟩,⟨some 11,.load false 1 (.tmp 10),none⟩,⟨some 12,.mov (.tmp 1),none⟩,⟨some 13,.bin .eql (.tmp 11) (.tmp 12),none⟩,⟨some 14,.mov (.tmp 13),none⟩,⟨some 15,.mov (.tmp 0),(some (14,true))⟩,⟨some 16,.nilCheck (.tmp 15),(some (14,true))⟩,⟨some 17,.fieldAddr 0 (.tmp 16),(some (14,true))⟩,⟨some 18,.load false 1 (.tmp 17),(some (14,true))⟩,⟨some 19,.indexAddr 3 (.tmp 18) (.con (.int .i64 0)),(some (14,true))⟩,⟨some 20,.fieldAddr 0 (.tmp 19),(some (14,true))⟩,⟨some 21,.load false 1 (.tmp 20),(some (14,true))⟩,⟨some 22,.bin .eql (.tmp 21) (.con (.int .i64 2)),(some (14,true))⟩,⟨some 23,.mov (.tmp 22),(some (14,true))⟩,⟨some 24,.mov (.tmp 1),(some (23,false))⟩,⟨some 25,.call (.con (.func aG0 [])) [(.tmp 24)],(some (23,false))⟩,⟨some 26,.pick (.tmp 23) (.con (.bool true)) (.tmp 25),(some (14,true))⟩,⟨some 27,.pick (.tmp 14) (.tmp 26) (.con (.bool false)),none⟩,⟨some 4,.mov (.tmp 27),none⟩]
def aSZ:ACode:=(.seq (.ops aF3) (.seq (.ops aFV) .ret))
def aAj:AFunc:=⟨28,[(.tmp 4)],aSZ⟩
/-! token_Key -/
def aLu:List AStep := [⟨some 2,.mov (.con (.bool false)),none⟩]
def aMF:List AStep := [⟨some 3,.load false 1 (.con (.gptr g_token_keys)),none⟩,⟨some 4,.mov (.tmp 0),none⟩,⟨some 5,.call (.con (.func aAu [])) [(.tmp 3),(.tmp 4)],none⟩,⟨some 2,.mov (.tmp 5),none⟩]
def aX5:ACode:=(.seq (.ops aLu) (.seq (.ops aMF) .ret))
def aG6:AFunc:=⟨6,[(.tmp 2)],aX5⟩
/-! parse_reader_subs -/
def aIV:List AStep := [⟨some 2,.mov (.con .nils),none⟩]
def aIH:List AStep := [⟨some 3,.mov (.con .nils),none⟩]
def aIS:List AStep := [⟨some 5,.mov (.tmp 0),none⟩,⟨some 6,.call (.con (.func aA1 [])) [(.tmp 5)],none⟩,⟨some 7,.build [(.str []),(.str [])] [(0,(1,(.tmp 6)))],none⟩,⟨some 4,.alloc [(.str []),(.str [])],none⟩,⟨none,.store 2 (.tmp 4) (.tmp 7),none⟩]
def aHr:List AStep := [⟨some 8,.mov (.tmp 0),none⟩,⟨some 9,.call (.con (.func aAW [])) [(.tmp 8),(.con (.str [35]))],none⟩]
def aHo:List AStep := [⟨some 10,.mov (.tmp 0),none⟩,⟨some 11,.call (.con (.func aA1 [])) [(.tmp 10)],none⟩,⟨some 12,.fieldAddr 1 (.tmp 4),none⟩,⟨none,.store 1 (.tmp 12) (.tmp 11),none⟩]
def aEU:List AStep := [⟨some 13,.mov (.tmp 3),none⟩,⟨some 14,.load true 2 (.tmp 4),none⟩,⟨some 15,.buildSlice 2 1 [(.str []),(.str [])] [(0,(2,(.tmp 14)))],none⟩,⟨some 16,.append 2 (.tmp 13) (.tmp 15),none⟩,⟨some 3,.mov (.tmp 16),none⟩]
def aEi:List AStep := [⟨some 17,.mov (.tmp 0),none⟩,⟨some 18,.call (.con (.func aAW [])) [(.tmp 17),(.con (.str [44]))],none⟩,⟨some 19,.not (.tmp 18),none⟩]
def aEY:List AStep := [⟨some 20,.mov (.tmp 3),none⟩,⟨some 2,.mov (.tmp 20),none⟩]
def aI6:ACode:=(.block 1 (.seq (.ops aIS) (.seq (.seq (.ops aHr) (.cond (.tmp 9) (.ops aHo) .skip)) (.seq (.ops aEU) (.seq (.ops aEi) (.cond (.tmp 19) (.seq (.ops aEY) .ret) .skip))))))
def aQ1:ACode:=(.seq (.ops aIV) (.seq (.ops aIH) (.block 0 (.loop aI6))))
def aDP:AFunc:=⟨21,[(.tmp 2)],aQ1⟩
/-! parse_reader_rewrite -/
def aGC:List AStep := [⟨some 2,.mov (.con .nils),none⟩]
def aGB:List AStep := [⟨some 5,.mov (.tmp 0),none⟩,⟨some 6,.call (.con (.func aC8 [])) [(.tmp 5)],none⟩,⟨some 3,.mov (.tmp 6),none⟩]
def aFz:List AStep := [⟨some 7,.mov (.tmp 0),none⟩,⟨some 8,.call (.con (.func aAc [])) [(.tmp 7)],none⟩,⟨some 4,.mov (.tmp 8),none⟩]
def aFr:List AStep := [⟨some 9,.mov (.tmp 4),none⟩,⟨some 10,.bin .neq (.tmp 9) (.con (.int .i64 0)),none⟩]
def aGD:List AStep := [⟨some 13,.mov (.tmp 3),none⟩,⟨some 14,.mov (.tmp 0),none⟩,⟨some 15,.call (.con (.func aC8 [])) [(.tmp 14)],none⟩,⟨some 16,.append 3 (.tmp 13) (.tmp 15),none⟩,⟨some 17,.mov (.tmp 4),none⟩,⟨some 18,.build [(.int .i64 0),(.str []),(.str [])] [(0,(1,(.tmp 17)))],none⟩,⟨some 19,.buildSlice 3 1 [(.int .i64 0),(.str []),(.str [])] [(0,(3,(.tmp 18)))],none⟩,⟨some 20,.append 3 (.tmp 16) (.tmp 19),none⟩,⟨some 3,.mov (.tmp 20),none⟩]
def aFv:List AStep := [⟨some 11,.mov (.tmp 0),none⟩,⟨some 12,.call (.con (.func aAc [])) [(.tmp 11)],none⟩,⟨some 4,.mov (.tmp 12),none⟩]
def aFy:ACode:=(.seq (.seq (.ops aFr) (.cond (.tmp 10) .skip (.exit 0))) (.seq (.block 1 (.ops aGD)) (.ops aFv)))
def aFw:List AStep := [⟨some 21,.mov (.tmp 3),none⟩,⟨some 2,.mov (.tmp 21),none⟩]
def aNV:ACode:=(.seq (.ops aGC) (.seq (.ops aGB) (.seq (.seq (.ops aFz) (.block 0 (.loop aFy))) (.seq (.ops aFw) .ret))))
def aDc:AFunc:=⟨22,[(.tmp 2)],aNV⟩
/-! slices_IndexFunc_parse_Type_parse_Type -/
def aBm:List AStep := [⟨some 4,.mov (.con (.int .i64 0)),none⟩]
def aBl:List AStep := [⟨some 6,.mov (.tmp 0),none⟩,⟨some 7,.len (.tmp 6),none⟩,⟨some 8,.mov (.con (.int .i64 0)),none⟩]
def aBt:List AStep := [⟨some 9,.bin .lss (.tmp 8) (.tmp 7),none⟩]
def aBf:List AStep := [⟨some 10,.mov (.tmp 8),none⟩,⟨some 5,.mov (.tmp 10),none⟩]
def aBc:List AStep := [⟨some 11,.mov (.tmp 1),none⟩,⟨some 12,.mov (.tmp 0),none⟩,⟨some 13,.mov (.tmp 5),none⟩,⟨some 14,.indexAddr 2 (.tmp 12) (.tmp 13),none⟩,⟨some 15,.load true 2 (.tmp 14),none⟩,⟨some 16,.call (.tmp 11) [(.tmp 15)],none⟩]
def aBu:List AStep := [⟨some 17,.mov (.tmp 5),none⟩,⟨some 4,.mov (.tmp 17),none⟩]
def aBd:List AStep := [⟨some 18,.bin .add (.tmp 8) (.con (.int .i64 1)),none⟩,⟨some 8,.mov (.tmp 18),none⟩]
def aBi:ACode:=(.seq (.ops aBt) (.seq (.cond (.tmp 9) .skip (.exit 0)) (.seq (.block 1 (.seq (.ops aBf) (.seq (.ops aBc) (.cond (.tmp 16) (.seq (.ops aBu) .ret) .skip)))) (.ops aBd))))
def aBn:List AStep := [⟨some 4,.mov (.con (.int .i64 (-1))),none⟩]
def aEX:ACode:=(.seq (.ops aBm) (.seq (.seq (.ops aBl) (.block 0 (.loop aBi))) (.seq (.ops aBn) .ret)))
def aA8:AFunc:=⟨19,[(.tmp 4)],aEX⟩
/-! check_kind_1 -/
def aMa:List AStep := [⟨some 2,.box (.tmp 0),none⟩,⟨some 3,.mov (.con (.bool false)),none⟩]
def aM2:List AStep := [⟨some 4,.fieldAddr 0 (.tmp 2),none⟩,⟨some 5,.load false 1 (.tmp 4),none⟩,⟨some 6,.load false 1 (.tmp 1),none⟩,⟨some 7,.bin .eql (.tmp 5) (.tmp 6),none⟩,⟨some 3,.mov (.tmp 7),none⟩]
def aU6:ACode:=(.seq (.ops aMa) (.seq (.ops aM2) .ret))
def aJu:AFunc:=⟨8,[(.tmp 3)],aU6⟩
/-! slices_IndexFunc_parse_Rel_parse_Rel -/
def aCB:List AStep := [⟨some 4,.mov (.con (.int .i64 0)),none⟩]
def aCI:List AStep := [⟨some 6,.mov (.tmp 0),none⟩,⟨some 7,.len (.tmp 6),none⟩,⟨some 8,.mov (.con (.int .i64 0)),none⟩]
def aCF:List AStep := [⟨some 9,.bin .lss (.tmp 8) (.tmp 7),none⟩]
def aCG:List AStep := [⟨some 10,.mov (.tmp 8),none⟩,⟨some 5,.mov (.tmp 10),none⟩]
def aCD:List AStep := [⟨some 11,.mov (.tmp 1),none⟩,⟨some 12,.mov (.tmp 0),none⟩,⟨some 13,.mov (.tmp 5),none⟩,⟨some 14,.indexAddr 6 (.tmp 12) (.tmp 13),none⟩,⟨some 15,.load true 6 (.tmp 14),none⟩,⟨some 16,.call (.tmp 11) [(.tmp 15)],none⟩]
def aCP:List AStep := [⟨some 17,.mov (.tmp 5),none⟩,⟨some 4,.mov (.tmp 17),none⟩]
def aCN:List AStep := [⟨some 18,.bin .add (.tmp 8) (.con (.int .i64 1)),none⟩,⟨some 8,.mov (.tmp 18),none⟩]
def aCM:ACode:=(.seq (.ops aCF) (.seq (.cond (.tmp 9) .skip (.exit 0)) (.seq (.block 1 (.seq (.ops aCG) (.seq (.ops aCD) (.cond (.tmp 16) (.seq (.ops aCP) .ret) .skip)))) (.ops aCN))))
def aCO:List AStep := [⟨some 4,.mov (.con (.int .i64 (-1))),none⟩]
def aFI:ACode:=(.seq (.ops aCB) (.seq (.seq (.ops aCI) (.block 0 (.loop aCM))) (.seq (.ops aCO) .ret)))
def aAd:AFunc:=⟨19,[(.tmp 4)],aFI⟩
/-! slices_Index_parse_Sub_parse_Sub -/
def aCx:List AStep := [⟨some 3,.box (.tmp 1),none⟩,⟨some 4,.mov (.con (.int .i64 0)),none⟩]
def aCq:List AStep := [⟨some 6,.mov (.tmp 0),none⟩,⟨some 7,.len (.tmp 6),none⟩,⟨some 8,.mov (.con (.int .i64 0)),none⟩]
def aCo:List AStep := [⟨some 9,.bin .lss (.tmp 8) (.tmp 7),none⟩]
def aCr:List AStep := [⟨some 10,.mov (.tmp 8),none⟩,⟨some 5,.mov (.tmp 10),none⟩]
def aCu:List DStep := [⟨0,0,⟨(some 11),(.load true 2 (.tmp 3)),none⟩⟩,⟨1,0,⟨(some 12),(.mov (.tmp 0)),none⟩⟩,⟨2,0,⟨(some 13),(.mov (.tmp 5)),none⟩⟩,⟨3,6,⟨(some 14),(.indexAddr 2 (.tmp 12) (.tmp 13)),none⟩⟩,⟨4,14,⟨(some 15),(.load true 2 (.tmp 14)),none⟩⟩,⟨5,31,⟨(some 16),(.eq (.flatK [.s,.s]) false (.tmp 11) (.tmp 15)),none⟩⟩]
def aCs:List AStep := [⟨some 17,.mov (.tmp 5),none⟩,⟨some 4,.mov (.tmp 17),none⟩]
def aCv:List AStep := [⟨some 18,.bin .add (.tmp 8) (.con (.int .i64 1)),none⟩,⟨some 8,.mov (.tmp 18),none⟩]
def aCp:ACode:=(.seq (.ops aCo) (.seq (.cond (.tmp 9) .skip (.exit 0)) (.seq (.block 1 (.seq (.ops aCr) (.seq (.draw aCu) (.cond (.tmp 16) (.seq (.ops aCs) .ret) .skip)))) (.ops aCv))))
def aCt:List AStep := [⟨some 4,.mov (.con (.int .i64 (-1))),none⟩]
def aGE:ACode:=(.seq (.ops aCx) (.seq (.seq (.ops aCq) (.block 0 (.loop aCp))) (.seq (.ops aCt) .ret)))
def aAk:AFunc:=⟨19,[(.tmp 4)],aGE⟩
/-! check_Find_1 -/
def aMs:List AStep := [⟨some 2,.box (.tmp 0),none⟩,⟨some 3,.mov (.con (.bool false)),none⟩]
def aMx:List AStep := [⟨some 4,.fieldAddr 0 (.tmp 2),none⟩,⟨some 5,.load false 1 (.tmp 4),none⟩,⟨some 6,.load false 1 (.tmp 1),none⟩,⟨some 7,.bin .eql (.tmp 5) (.tmp 6),none⟩,⟨some 3,.mov (.tmp 7),none⟩]
def aU1:ACode:=(.seq (.ops aMs) (.seq (.ops aMx) .ret))
def aKJ:AFunc:=⟨8,[(.tmp 3)],aU1⟩
/-! slices_ContainsFunc_parse_Sub_parse_Sub -/
def aB7:List AStep := [⟨some 4,.mov (.con (.bool false)),none⟩]
def aB6:List AStep := [⟨some 5,.mov (.tmp 0),none⟩,⟨some 6,.mov (.tmp 1),none⟩,⟨some 7,.call (.con (.func aBA [])) [(.tmp 5),(.tmp 6)],none⟩,⟨some 8,.bin .geq (.tmp 7) (.con (.int .i64 0)),none⟩,⟨some 4,.mov (.tmp 8),none⟩]
def aDy:ACode:=(.seq (.ops aB7) (.seq (.ops aB6) .ret))
def aAm:AFunc:=⟨9,[(.tmp 4)],aDy⟩
/-! check_leads_1 -/
def aMD:List AStep := [⟨some 3,.box (.tmp 0),none⟩,⟨some 4,.mov (.con (.bool false)),none⟩]
def aLl:List AStep := [⟨some 8,.load true 1 (.tmp 1),none⟩,⟨some 9,.fieldAddr 0 (.tmp 3),none⟩,⟨some 10,.load false 1 (.tmp 9),none⟩,⟨some 11,.call (.con (.func aDk [])) [(.tmp 8),(.tmp 10)],none⟩,⟨some 7,.mov (.tmp 11),none⟩,⟨some 12,.extract (.tmp 7) 0,none⟩,⟨some 13,.extract (.tmp 7) 1,none⟩,⟨some 5,.alloc [(.str []),.nils],none⟩,⟨none,.store 2 (.tmp 5) (.tmp 12),none⟩,⟨some 6,.mov (.tmp 13),none⟩]
def aGw:List AStep := [⟨some 14,.fieldAddr 1 (.tmp 3),none⟩,⟨some 15,.load false 1 (.tmp 14),none⟩,⟨some 16,.bin .eql (.tmp 15) (.con (.str [])),none⟩,⟨some 17,.mov (.tmp 16),none⟩,⟨some 18,.load true 2 (.tmp 5),(some (17,true))⟩,⟨some 19,.load false 1 (.tmp 2),(some (17,true))⟩,⟨some 20,.call (.con (.func aCf [])) [(.tmp 18),(.tmp 19)],(some (17,true))⟩,⟨some 21,.pick (.tmp 17) (.tmp 20) (.con (.bool false)),none⟩,⟨some 4,.mov (.tmp 21),none⟩]
def aUL:ACode:=(.seq (.ops aMD) (.seq (.ops aLl) (.seq (.ops aGw) .ret)))
def aFM:AFunc:=⟨22,[(.tmp 4)],aUL⟩
/-! cmp_isNaN_int -/
def aML:List AStep := [⟨some 2,.mov (.con (.bool false)),none⟩]
def aME:List AStep := [⟨some 3,.mov (.tmp 0),none⟩,⟨some 4,.mov (.tmp 0),none⟩,⟨some 5,.bin .neq (.tmp 3) (.tmp 4),none⟩,⟨some 2,.mov (.tmp 5),none⟩]
def aUV:ACode:=(.seq (.ops aML) (.seq (.ops aME) .ret))
def aIT:AFunc:=⟨6,[(.tmp 2)],aUV⟩
/-! stringslite_Cut -/
def aKf:List AStep := [⟨some 4,.mov (.con (.str [])),none⟩,⟨some 5,.mov (.con (.str [])),none⟩,⟨some 6,.mov (.con (.bool false)),none⟩]
def aKr:List AStep := [⟨some 8,.mov (.tmp 0),none⟩,⟨some 9,.mov (.tmp 1),none⟩,⟨some 10,.call (.con (.func aFG [])) [(.tmp 8),(.tmp 9)],none⟩,⟨some 7,.mov (.tmp 10),none⟩]
def aK2:List AStep := [⟨some 11,.mov (.tmp 7),none⟩,⟨some 12,.bin .geq (.tmp 11) (.con (.int .i64 0)),none⟩]
def aKu:List DStep := [⟨0,0,⟨(some 13),(.mov (.tmp 0)),none⟩⟩,⟨1,0,⟨(some 14),(.mov (.tmp 7)),none⟩⟩,⟨2,3,⟨(some 15),(.sliceT (.tmp 13) none (some (.tmp 14))),none⟩⟩,⟨3,0,⟨(some 16),(.mov (.tmp 0)),none⟩⟩,⟨4,0,⟨(some 17),(.mov (.tmp 7)),none⟩⟩,⟨5,0,⟨(some 18),(.mov (.tmp 1)),none⟩⟩,⟨6,32,⟨(some 19),(.lenT (.tmp 18)),none⟩⟩,⟨7,112,⟨(some 20),(.bin .add (.tmp 17) (.tmp 19)),none⟩⟩,⟨8,248,⟨(some 21),(.sliceT (.tmp 16) (some (.tmp 20)) none),none⟩⟩,⟨9,7,⟨(some 4),(.mov (.tmp 15)),none⟩⟩,⟨10,1023,⟨(some 5),(.mov (.tmp 21)),none⟩⟩,⟨11,2047,⟨(some 6),(.mov (.con (.bool true))),none⟩⟩]
def aKp:List AStep := [⟨some 22,.mov (.tmp 0),none⟩,⟨some 4,.mov (.tmp 22),none⟩,⟨some 5,.mov (.con (.str [])),none⟩,⟨some 6,.mov (.con (.bool false)),none⟩]
def aS2:ACode:=(.seq (.ops aKf) (.seq (.seq (.ops aKr) (.seq (.ops aK2) (.cond (.tmp 12) (.seq (.draw aKu) .ret) .skip))) (.seq (.ops aKp) .ret)))
def aDf:AFunc:=⟨23,[(.tmp 4),(.tmp 5),(.tmp 6)],aS2⟩
/-! glyph_Count -/
def aO1:List AStep := [⟨some 2,.mov (.con (.int .i64 0)),none⟩]
def aNi:List AStep := [⟨some 3,.mov (.con (.int .i64 0)),none⟩]
def aNh:List AStep := [⟨some 4,.mov (.tmp 0),none⟩,⟨some 5,.rangeT (.tmp 4),none⟩]
def aO5:List AStep := [⟨some 6,.nextT (.tmp 5),none⟩,⟨some 7,.extract (.tmp 6) 0,none⟩]
def aNg:List AStep := [⟨some 8,.mov (.tmp 3),none⟩,⟨some 9,.bin .add (.tmp 8) (.con (.int .i64 1)),none⟩,⟨some 3,.mov (.tmp 9),none⟩]
def aNt:ACode:=(.seq (.ops aO5) (.seq (.cond (.tmp 7) .skip (.exit 0)) (.block 1 (.ops aNg))))
def aOt:List AStep := [⟨some 10,.mov (.tmp 3),none⟩,⟨some 2,.mov (.tmp 10),none⟩]
def aVd:ACode:=(.seq (.ops aO1) (.seq (.ops aNi) (.seq (.seq (.ops aNh) (.block 0 (.loop aNt))) (.seq (.ops aOt) .ret))))
def aLR:AFunc:=⟨11,[(.tmp 2)],aVd⟩
/-! slices_Contains_string_string -/
def aBS:List AStep := [⟨some 4,.mov (.con (.bool false)),none⟩]
def aBR:List AStep := [⟨some 5,.mov (.tmp 0),none⟩,⟨some 6,.mov (.tmp 1),none⟩,⟨some 7,.call (.con (.func aBG [])) [(.tmp 5),(.tmp 6)],none⟩,⟨some 8,.bin .geq (.tmp 7) (.con (.int .i64 0)),none⟩,⟨some 4,.mov (.tmp 8),none⟩]
def aHk:ACode:=(.seq (.ops aBS) (.seq (.ops aBR) .ret))
def aAe:AFunc:=⟨9,[(.tmp 4)],aHk⟩
/-! stringslite_HasPrefix -/
def aF8:List AStep := [⟨some 4,.mov (.con (.bool false)),none⟩]
def aF1:List AStep := [⟨some 5,.mov (.tmp 0),none⟩,⟨some 6,.lenT (.tmp 5),none⟩,⟨some 7,.mov (.tmp 1),none⟩,⟨some 8,.lenT (.tmp 7),none⟩,⟨some 9,.bin .geq (.tmp 6) (.tmp 8),none⟩,⟨some 10,.mov (.tmp 9),none⟩,⟨some 11,.mov (.tmp 0),(some (10,true))⟩,⟨some 12,.mov (.tmp 1),(some (10,true))⟩,⟨some 13,.lenT (.tmp 12),(some (10,true))⟩,⟨some 14,.sliceT (.tmp 11) none (some (.tmp 13)),(some (10,true))⟩,⟨some 15,.mov (.tmp 1),(some (10,true))⟩,⟨some 16,.bin .eql (.tmp 14) (.tmp 15),(some (10,true))⟩,⟨some 17,.pick (.tmp 10) (.tmp 16) (.con (.bool false)),none⟩,⟨some 4,.mov (.tmp 17),none⟩]
def aMW:ACode:=(.seq (.ops aF8) (.seq (.ops aF1) .ret))
def aC2:AFunc:=⟨18,[(.tmp 4)],aMW⟩
/-! parse_reader_part -/
def aHt:List AStep := [⟨some 2,.mov (.con .nils),none⟩]
def aIl:List AStep := [⟨some 6,.mov (.tmp 0),none⟩,⟨some 7,.call (.con (.func aAW [])) [(.tmp 6),(.con (.str [116,104,105,115]))],none⟩,⟨some 5,.mov (.tmp 7),none⟩]
def aIM:List AStep := [⟨some 8,.build [(.int .i64 0),(.str []),(.str [])] [(0,(1,(.con (.int .i64 1))))],none⟩,⟨some 9,.buildSlice 3 1 [(.int .i64 0),(.str []),(.str [])] [(0,(3,(.tmp 8)))],none⟩,⟨some 2,.mov (.tmp 9),none⟩]
def aIb:List AStep := [⟨some 11,.mov (.tmp 0),none⟩,⟨some 12,.call (.con (.func aAx [])) [(.tmp 11),(.con (.str [40]))],none⟩,⟨some 10,.mov (.tmp 12),none⟩]
def aIc:List AStep := [⟨some 13,.mov (.tmp 0),none⟩,⟨some 14,.nilCheck (.tmp 13),none⟩,⟨some 15,.fieldAddr 1 (.tmp 14),none⟩,⟨some 16,.load false 1 (.tmp 15),none⟩,⟨some 17,.bin .eql (.tmp 16) (.con (.int .i64 8)),none⟩]
def aII:List AStep := [⟨some 18,.mov (.tmp 0),none⟩,⟨some 19,.call (.con (.func aBK [])) [(.tmp 18),(.con (.int .i64 13))],none⟩]
def aIu:List AStep := [⟨some 20,.mov (.tmp 0),none⟩,⟨some 21,.call (.con (.func aAY [])) [(.tmp 20),(.con (.str [40]))],none⟩]
def aIA:List AStep := [⟨some 22,.mov (.tmp 0),none⟩,⟨some 23,.nilCheck (.tmp 22),none⟩,⟨some 24,.fieldAddr 1 (.tmp 23),none⟩,⟨some 25,.load false 1 (.tmp 24),none⟩,⟨some 26,.bin .add (.tmp 25) (.con (.int .i64 1)),none⟩,⟨some 27,.nilCheck (.tmp 22),none⟩,⟨some 28,.fieldAddr 1 (.tmp 27),none⟩,⟨none,.store 1 (.tmp 28) (.tmp 26),none⟩]
def aHn:List AStep := [⟨some 29,.mov (.tmp 0),none⟩,⟨some 30,.call (.con (.func aAw [])) [(.tmp 29)],none⟩,⟨some 3,.mov (.tmp 30),none⟩]
def aIP:List AStep := [⟨some 31,.mov (.tmp 0),none⟩,⟨some 32,.call (.con (.func aAY [])) [(.tmp 31),(.con (.str [41]))],none⟩]
def aHI:List AStep := [⟨some 33,.mov (.tmp 0),none⟩,⟨some 34,.nilCheck (.tmp 33),none⟩,⟨some 35,.fieldAddr 1 (.tmp 34),none⟩,⟨some 36,.load false 1 (.tmp 35),none⟩,⟨some 37,.bin .sub (.tmp 36) (.con (.int .i64 1)),none⟩,⟨some 38,.nilCheck (.tmp 33),none⟩,⟨some 39,.fieldAddr 1 (.tmp 38),none⟩,⟨none,.store 1 (.tmp 39) (.tmp 37),none⟩]
def aHb:List AStep := [⟨some 40,.mov (.tmp 3),none⟩,⟨some 2,.mov (.tmp 40),none⟩]
def aHR:List AStep := [⟨some 41,.mov (.tmp 0),none⟩,⟨some 42,.call (.con (.func aA1 [])) [(.tmp 41)],none⟩,⟨some 43,.build [(.int .i64 0),(.str []),(.str [])] [(0,(1,(.con (.int .i64 2)))),(1,(1,(.tmp 42)))],none⟩,⟨some 4,.alloc [(.int .i64 0),(.str []),(.str [])],none⟩,⟨none,.store 3 (.tmp 4) (.tmp 43),none⟩]
def aH6:List AStep := [⟨some 44,.mov (.tmp 0),none⟩,⟨some 45,.call (.con (.func aAW [])) [(.tmp 44),(.con (.str [46]))],none⟩]
def aHS:List AStep := [⟨some 46,.fieldAddr 0 (.tmp 4),none⟩,⟨none,.store 1 (.tmp 46) (.con (.int .i64 3)),none⟩]
def aHe:List AStep := [⟨some 47,.mov (.tmp 0),none⟩,⟨some 48,.call (.con (.func aA1 [])) [(.tmp 47)],none⟩,⟨some 49,.fieldAddr 2 (.tmp 4),none⟩,⟨none,.store 1 (.tmp 49) (.tmp 48),none⟩]
def aDj:List AStep := [⟨some 50,.load true 3 (.tmp 4),none⟩,⟨some 51,.buildSlice 3 1 [(.int .i64 0),(.str []),(.str [])] [(0,(3,(.tmp 50)))],none⟩,⟨some 2,.mov (.tmp 51),none⟩]
def aQf:ACode:=(.seq (.ops aHt) (.seq (.block 0 (.seq (.ops aIl) (.cond (.tmp 5) (.seq (.ops aIM) .ret) (.seq (.ops aIb) (.cond (.tmp 10) (.seq (.seq (.ops aIc) (.cond (.tmp 17) (.ops aII) .skip)) (.seq (.ops aIu) (.seq (.ops aIA) (.seq (.ops aHn) (.seq (.ops aIP) (.seq (.ops aHI) (.seq (.ops aHb) .ret))))))) .skip))))) (.seq (.ops aHR) (.seq (.seq (.ops aH6) (.cond (.tmp 45) (.seq (.ops aHS) (.ops aHe)) .skip)) (.seq (.ops aDj) .ret)))))
def aBL:AFunc:=⟨52,[(.tmp 2)],aQf⟩
/-! parse_reader_sign -/
def aE6:List AStep := [⟨some 2,.mov (.con (.int .i64 0)),none⟩]
def aEO:List AStep := [⟨(some 5),.makeMap,none⟩,⟨none,.mapPut .str (.tmp 5) (.con (.str [124])) (.con (.int .i64 4)),none⟩,⟨none,.mapPut .str (.tmp 5) (.con (.str [38])) (.con (.int .i64 5)),none⟩,⟨none,.mapPut .str (.tmp 5) (.con (.str [45])) (.con (.int .i64 6)),none⟩,⟨some 6,.mov (.tmp 5),none⟩,⟨some 7,.rangeM (.tmp 6),none⟩]
def aEj:List AStep := [⟨some 8,.nextM (.tmp 7),none⟩,⟨some 9,.extract (.tmp 8) 0,none⟩]
def aEg:List AStep := [⟨some 10,.entryM (.tmp 7),none⟩,⟨some 11,.extract (.tmp 10) 0,none⟩,⟨some 12,.extract (.tmp 10) 1,none⟩,⟨some 3,.mov (.tmp 11),none⟩,⟨some 4,.mov (.tmp 12),none⟩]
def aEc:List AStep := [⟨some 13,.mov (.tmp 0),none⟩,⟨some 14,.mov (.tmp 3),none⟩,⟨some 15,.call (.con (.func aAW [])) [(.tmp 13),(.tmp 14)],none⟩]
def aEf:List AStep := [⟨some 16,.mov (.tmp 4),none⟩,⟨some 2,.mov (.tmp 16),none⟩]
def aEN:ACode:=(.seq (.ops aEj) (.seq (.cond (.tmp 9) .skip (.exit 0)) (.block 1 (.seq (.ops aEg) (.seq (.ops aEc) (.cond (.tmp 15) (.seq (.ops aEf) .ret) .skip))))))
def aE5:List AStep := [⟨some 2,.mov (.con (.int .i64 0)),none⟩]
def aQv:ACode:=(.seq (.ops aE6) (.seq (.seq (.ops aEO) (.block 0 (.loop aEN))) (.seq (.ops aE5) .ret)))
def aAz:AFunc:=⟨17,[(.tmp 2)],aQv⟩
/-! slices_IndexFunc_parse_Sub_parse_Sub -/
def aCK:List AStep := [⟨some 4,.mov (.con (.int .i64 0)),none⟩]
def aCQ:List AStep := [⟨some 6,.mov (.tmp 0),none⟩,⟨some 7,.len (.tmp 6),none⟩,⟨some 8,.mov (.con (.int .i64 0)),none⟩]
def aCA:List AStep := [⟨some 9,.bin .lss (.tmp 8) (.tmp 7),none⟩]
def aCJ:List AStep := [⟨some 10,.mov (.tmp 8),none⟩,⟨some 5,.mov (.tmp 10),none⟩]
def aCR:List AStep := [⟨some 11,.mov (.tmp 1),none⟩,⟨some 12,.mov (.tmp 0),none⟩,⟨some 13,.mov (.tmp 5),none⟩,⟨some 14,.indexAddr 2 (.tmp 12) (.tmp 13),none⟩,⟨some 15,.load true 2 (.tmp 14),none⟩,⟨some 16,.call (.tmp 11) [(.tmp 15)],none⟩]
def aBz:List AStep := [⟨some 17,.mov (.tmp 5),none⟩,⟨some 4,.mov (.tmp 17),none⟩]
def aCE:List AStep := [⟨some 18,.bin .add (.tmp 8) (.con (.int .i64 1)),none⟩,⟨some 8,.mov (.tmp 18),none⟩]
def aCH:ACode:=(.seq (.ops aCA) (.seq (.cond (.tmp 9) .skip (.exit 0)) (.seq (.block 1 (.seq (.ops aCJ) (.seq (.ops aCR) (.cond (.tmp 16) (.seq (.ops aBz) .ret) .skip)))) (.ops aCE))))
def aCL:List AStep := [⟨some 4,.mov (.con (.int .i64 (-1))),none⟩]
def aFA:ACode:=(.seq (.ops aCK) (.seq (.seq (.ops aCQ) (.block 0 (.loop aCH))) (.seq (.ops aCL) .ret)))
def aAb:AFunc:=⟨19,[(.tmp 4)],aFA⟩
/-! stringslite_Index -/
def aIq:List AStep := [⟨some 4,.mov (.con (.int .i64 0)),none⟩]
def aIJ:List AStep := [⟨some 14,.mov (.tmp 1),none⟩,⟨some 15,.lenT (.tmp 14),none⟩,⟨some 5,.mov (.tmp 15),none⟩]
def aHw:List AStep := [⟨some 17,.mov (.tmp 5),none⟩,⟨some 18,.bin .eql (.tmp 17) (.con (.int .i64 0)),none⟩,⟨some 19,.mov (.tmp 18),none⟩,⟨some 20,.mov (.tmp 1),(some (19,false))⟩,⟨some 21,.mov (.tmp 0),(some (19,false))⟩,⟨some 22,.bin .eql (.tmp 20) (.tmp 21),(some (19,false))⟩,⟨some 23,.pick (.tmp 19) (.con (.bool true)) (.tmp 22),none⟩,⟨some 16,.mov (.tmp 23),none⟩]
def aIo:List AStep := [⟨some 4,.mov (.con (.int .i64 0)),none⟩]
def aIm:List AStep := [⟨some 25,.mov (.tmp 5),none⟩,⟨some 26,.bin .eql (.tmp 25) (.con (.int .i64 1)),none⟩,⟨some 24,.mov (.tmp 26),none⟩]
def aIY:List AStep := [⟨some 27,.mov (.tmp 0),none⟩,⟨some 28,.mov (.tmp 1),none⟩,⟨some 29,.indexStr (.tmp 28) (.con (.int .i64 0)),none⟩,⟨some 30,.call (.con (.func aC1 [])) [(.tmp 27),(.tmp 29)],none⟩,⟨some 4,.mov (.tmp 30),none⟩]
def aPG:List AStep := [⟨some 32,.mov (.tmp 5),none⟩,⟨some 33,.mov (.tmp 0),none⟩,⟨some 34,.lenT (.tmp 33),none⟩,⟨some 35,.bin .geq (.tmp 32) (.tmp 34),none⟩,⟨some 31,.mov (.tmp 35),none⟩]
def aPD:List AStep := [⟨some 4,.mov (.con (.int .i64 (-1))),none⟩]
def aP2:List AStep := [⟨some 37,.mov (.tmp 5),none⟩,⟨some 38,.load false 1 (.con (.gptr aHB)),none⟩,⟨some 39,.bin .leq (.tmp 37) (.tmp 38),none⟩,⟨some 40,.mov (.tmp 39),none⟩,⟨some 41,.mov (.tmp 0),(some (40,true))⟩,⟨some 42,.lenT (.tmp 41),(some (40,true))⟩,⟨some 43,.bin .leq (.tmp 42) (.con (.int .i64 64)),(some (40,true))⟩,⟨some 44,.pick (.tmp 40) (.tmp 43) (.con (.bool false)),none⟩,⟨some 36,.mov (.tmp 44),none⟩]
def aP8:List AStep := [⟨some 45,.mov (.tmp 0),none⟩,⟨some 46,.mov (.tmp 1),none⟩,⟨some 47,.call (.con (.func aH9 [])) [(.tmp 45),(.tmp 46)],none⟩,⟨some 4,.mov (.tmp 47),none⟩]
def aOa:List AStep := [⟨some 48,.mov (.tmp 1),none⟩,⟨some 49,.indexStr (.tmp 48) (.con (.int .i64 0)),none⟩,⟨some 6,.mov (.tmp 49),none⟩]
def aOk:List AStep := [⟨some 50,.mov (.tmp 1),none⟩,⟨some 51,.indexStr (.tmp 50) (.con (.int .i64 1)),none⟩,⟨some 7,.mov (.tmp 51),none⟩]
def aNc:List AStep := [⟨some 8,.mov (.con (.int .i64 0)),none⟩]
def aOC:List AStep := [⟨some 52,.mov (.tmp 0),none⟩,⟨some 53,.lenT (.tmp 52),none⟩,⟨some 54,.mov (.tmp 5),none⟩,⟨some 55,.bin .sub (.tmp 53) (.tmp 54),none⟩,⟨some 56,.bin .add (.tmp 55) (.con (.int .i64 1)),none⟩,⟨some 9,.mov (.tmp 56),none⟩]
def aOe:List AStep := [⟨some 10,.mov (.con (.int .i64 0)),none⟩]
def aNy:List AStep := [⟨some 57,.mov (.tmp 8),none⟩,⟨some 58,.mov (.tmp 9),none⟩,⟨some 59,.bin .lss (.tmp 57) (.tmp 58),none⟩]
def aOE:List AStep := [⟨some 60,.mov (.tmp 0),none⟩,⟨some 61,.mov (.tmp 8),none⟩,⟨some 62,.indexStr (.tmp 60) (.tmp 61),none⟩,⟨some 63,.mov (.tmp 6),none⟩,⟨some 64,.bin .neq (.tmp 62) (.tmp 63),none⟩]
def aNb:List AStep := [⟨some 65,.mov (.tmp 0),none⟩,⟨some 66,.mov (.tmp 8),none⟩,⟨some 67,.bin .add (.tmp 66) (.con (.int .i64 1)),none⟩,⟨some 68,.mov (.tmp 9),none⟩,⟨some 69,.sliceT (.tmp 65) (some (.tmp 67)) (some (.tmp 68)),none⟩,⟨some 70,.mov (.tmp 6),none⟩,⟨some 71,.call (.con (.func aC1 [])) [(.tmp 69),(.tmp 70)],none⟩,⟨some 11,.mov (.tmp 71),none⟩]
def aNn:List AStep := [⟨some 72,.mov (.tmp 11),none⟩,⟨some 73,.bin .lss (.tmp 72) (.con (.int .i64 0)),none⟩]
def aOb:List AStep := [⟨some 4,.mov (.con (.int .i64 (-1))),none⟩]
def aNa:List AStep := [⟨some 74,.mov (.tmp 8),none⟩,⟨some 75,.mov (.tmp 11),none⟩,⟨some 76,.bin .add (.tmp 75) (.con (.int .i64 1)),none⟩,⟨some 77,.bin .add (.tmp 74) (.tmp 76),none⟩,⟨some 8,.mov (.tmp 77),none⟩]
def aO9:List AStep := [⟨some 78,.mov (.tmp 0),none⟩,⟨some 79,.mov (.tmp 8),none⟩,⟨some 80,.bin .add (.tmp 79) (.con (.int .i64 1)),none⟩,⟨some 81,.indexStr (.tmp 78) (.tmp 80),none⟩,⟨some 82,.mov (.tmp 7),none⟩,⟨some 83,.bin .eql (.tmp 81) (.tmp 82),none⟩,⟨some 84,.mov (.tmp 83),none⟩,⟨some 85,.mov (.tmp 0),(some (84,true))⟩,⟨some 86,.mov (.tmp 8),(some (84,true))⟩,⟨some 87,.mov (.tmp 8),(some (84,true))⟩,⟨some 88,.mov (.tmp 5),(some (84,true))⟩,⟨some 89,.bin .add (.tmp 87) (.tmp 88),(some (84,true))⟩,⟨some 90,.sliceT (.tmp 85) (some (.tmp 86)) (some (.tmp 89)),(some (84,true))⟩,⟨some 91,.mov (.tmp 1),(some (84,true))⟩,⟨some 92,.bin .eql (.tmp 90) (.tmp 91),(some (84,true))⟩,⟨some 93,.pick (.tmp 84) (.tmp 92) (.con (.bool false)),none⟩]
def aNx:List AStep := [⟨some 94,.mov (.tmp 8),none⟩,⟨some 4,.mov (.tmp 94),none⟩]
def aNr:List AStep := [⟨some 95,.mov (.tmp 8),none⟩,⟨some 96,.bin .add (.tmp 95) (.con (.int .i64 1)),none⟩,⟨some 8,.mov (.tmp 96),none⟩]
def aO8:List AStep := [⟨some 97,.mov (.tmp 10),none⟩,⟨some 98,.bin .add (.tmp 97) (.con (.int .i64 1)),none⟩,⟨some 10,.mov (.tmp 98),none⟩]
def aOJ:List AStep := [⟨some 99,.mov (.tmp 5),none⟩,⟨some 100,.load false 1 (.con (.gptr aHB)),none⟩,⟨some 101,.bin .leq (.tmp 99) (.tmp 100),none⟩,⟨some 102,.mov (.tmp 101),none⟩,⟨some 103,.mov (.tmp 10),(some (102,true))⟩,⟨some 104,.mov (.tmp 8),(some (102,true))⟩,⟨some 105,.call (.con (.func aSU [])) [(.tmp 104)],(some (102,true))⟩,⟨some 106,.bin .gtr (.tmp 103) (.tmp 105),(some (102,true))⟩,⟨some 107,.pick (.tmp 102) (.tmp 106) (.con (.bool false)),none⟩]
def aO2:List AStep := [⟨some 108,.mov (.tmp 0),none⟩,⟨some 109,.mov (.tmp 8),none⟩,⟨some 110,.sliceT (.tmp 108) (some (.tmp 109)) none,none⟩,⟨some 111,.mov (.tmp 1),none⟩,⟨some 112,.call (.con (.func aH9 [])) [(.tmp 110),(.tmp 111)],none⟩,⟨some 12,.mov (.tmp 112),none⟩]
def aOX:List AStep := [⟨some 113,.mov (.tmp 12),none⟩,⟨some 114,.bin .geq (.tmp 113) (.con (.int .i64 0)),none⟩]
def aOo:List AStep := [⟨some 115,.mov (.tmp 12),none⟩,⟨some 116,.mov (.tmp 8),none⟩,⟨some 117,.bin .add (.tmp 115) (.tmp 116),none⟩,⟨some 4,.mov (.tmp 117),none⟩]
def aOQ:List AStep := [⟨some 4,.mov (.con (.int .i64 (-1))),none⟩]
def aOq:List AStep := [⟨some 118,.mov (.tmp 5),none⟩,⟨some 119,.load false 1 (.con (.gptr aHB)),none⟩,⟨some 120,.bin .gtr (.tmp 118) (.tmp 119),none⟩,⟨some 121,.mov (.tmp 120),none⟩,⟨some 122,.mov (.tmp 10),(some (121,true))⟩,⟨some 123,.mov (.tmp 8),(some (121,true))⟩,⟨some 124,.bin .shr (.tmp 123) (.con (.int .u64 4)),(some (121,true))⟩,⟨some 125,.bin .add (.con (.int .i64 4)) (.tmp 124),(some (121,true))⟩,⟨some 126,.bin .geq (.tmp 122) (.tmp 125),(some (121,true))⟩,⟨some 127,.pick (.tmp 121) (.tmp 126) (.con (.bool false)),none⟩,⟨some 128,.mov (.tmp 127),none⟩,⟨some 129,.mov (.tmp 8),(some (128,true))⟩,⟨some 130,.mov (.tmp 9),(some (128,true))⟩,⟨some 131,.bin .lss (.tmp 129) (.tmp 130),(some (128,true))⟩,⟨some 132,.pick (.tmp 128) (.tmp 131) (.con (.bool false)),none⟩]
def aOF:List AStep := [⟨some 133,.mov (.tmp 0),none⟩,⟨some 134,.mov (.tmp 8),none⟩,⟨some 135,.sliceT (.tmp 133) (some (.tmp 134)) none,none⟩,⟨some 136,.mov (.tmp 1),none⟩,⟨some 137,.call (.con (.func aHl [])) [(.tmp 135),(.tmp 136)],none⟩,⟨some 13,.mov (.tmp 137),none⟩]
def aOR:List AStep := [⟨some 138,.mov (.tmp 13),none⟩,⟨some 139,.bin .lss (.tmp 138) (.con (.int .i64 0)),none⟩]
def aNw:List AStep := [⟨some 4,.mov (.con (.int .i64 (-1))),none⟩]
def aO7:List AStep := [⟨some 140,.mov (.tmp 8),none⟩,⟨some 141,.mov (.tmp 13),none⟩,⟨some 142,.bin .add (.tmp 140) (.tmp 141),none⟩,⟨some 4,.mov (.tmp 142),none⟩]
def aOv:ACode:=(.seq (.seq (.ops aNy) (.cond (.tmp 59) .skip (.exit 1))) (.block 2 (.seq (.seq (.ops aOE) (.cond (.tmp 64) (.seq (.ops aNb) (.seq (.seq (.ops aNn) (.cond (.tmp 73) (.seq (.ops aOb) .ret) .skip)) (.ops aNa))) .skip)) (.seq (.seq (.ops aO9) (.cond (.tmp 93) (.seq (.ops aNx) .ret) .skip)) (.seq (.ops aNr) (.seq (.ops aO8) (.seq (.ops aOJ) (.cond (.tmp 107) (.seq (.ops aO2) (.seq (.seq (.ops aOX) (.cond (.tmp 114) (.seq (.ops aOo) .ret) .skip)) (.seq (.ops aOQ) .ret))) (.seq (.ops aOq) (.cond (.tmp 132) (.seq (.ops aOF) (.seq (.seq (.ops aOR) (.cond (.tmp 139) (.seq (.ops aNw) .ret) .skip)) (.seq (.ops aO7) .ret))) .skip))))))))))
def aOn:List AStep := [⟨some 4,.mov (.con (.int .i64 (-1))),none⟩]
def aQn:ACode:=(.seq (.ops aIq) (.seq (.ops aIJ) (.seq (.block 0 (.seq (.ops aHw) (.cond (.tmp 16) (.seq (.ops aIo) .ret) (.seq (.ops aIm) (.cond (.tmp 24) (.seq (.ops aIY) .ret) (.seq (.ops aPG) (.cond (.tmp 31) (.seq (.ops aPD) .ret) (.seq (.ops aP2) (.cond (.tmp 36) (.seq (.ops aP8) .ret) .skip))))))))) (.seq (.ops aOa) (.seq (.ops aOk) (.seq (.ops aNc) (.seq (.ops aOC) (.seq (.ops aOe) (.seq (.block 1 (.loop aOv)) (.seq (.ops aOn) .ret))))))))))
def aDR:AFunc:=⟨143,[(.tmp 4)],aQn⟩
/-! slices_Index_string_string -/
def aCZ:List AStep := [⟨some 4,.mov (.con (.int .i64 0)),none⟩]
def aCV:List AStep := [⟨some 6,.mov (.tmp 0),none⟩,⟨some 7,.len (.tmp 6),none⟩,⟨some 8,.mov (.con (.int .i64 0)),none⟩]
def aCT:List AStep := [⟨some 9,.bin .lss (.tmp 8) (.tmp 7),none⟩]
def aCU:List AStep := [⟨some 10,.mov (.tmp 8),none⟩,⟨some 5,.mov (.tmp 10),none⟩]
def aCY:List AStep := [⟨some 11,.mov (.tmp 1),none⟩,⟨some 12,.mov (.tmp 0),none⟩,⟨some 13,.mov (.tmp 5),none⟩,⟨some 14,.indexAddr 1 (.tmp 12) (.tmp 13),none⟩,⟨some 15,.load false 1 (.tmp 14),none⟩,⟨some 16,.bin .eql (.tmp 11) (.tmp 15),none⟩]
def aC0:List AStep := [⟨some 17,.mov (.tmp 5),none⟩,⟨some 4,.mov (.tmp 17),none⟩]
def aCW:List AStep := [⟨some 18,.bin .add (.tmp 8) (.con (.int .i64 1)),none⟩,⟨some 8,.mov (.tmp 18),none⟩]
def aCX:ACode:=(.seq (.ops aCT) (.seq (.cond (.tmp 9) .skip (.exit 0)) (.seq (.block 1 (.seq (.ops aCU) (.seq (.ops aCY) (.cond (.tmp 16) (.seq (.ops aC0) .ret) .skip)))) (.ops aCW))))
def aCS:List AStep := [⟨some 4,.mov (.con (.int .i64 (-1))),none⟩]
def aKD:ACode:=(.seq (.ops aCZ) (.seq (.seq (.ops aCV) (.block 0 (.loop aCX))) (.seq (.ops aCS) .ret)))
def aA2:AFunc:=⟨19,[(.tmp 4)],aKD⟩
/-! stringslite_IndexByte -/
def aF9:List AStep := [⟨some 4,.mov (.con (.int .i64 0)),none⟩]
def aFZ:List AStep := [⟨some 5,.mov (.tmp 0),none⟩,⟨some 6,.mov (.tmp 1),none⟩,⟨some 7,.call (.con (.func aAT [])) [(.tmp 5),(.tmp 6)],none⟩,⟨some 4,.mov (.tmp 7),none⟩]
def aMX:ACode:=(.seq (.ops aF9) (.seq (.ops aFZ) .ret))
def aDU:AFunc:=⟨8,[(.tmp 4)],aMX⟩
set_option maxRecDepth 100000 in
theorem aLO:table PP aDA=some aAf:=by kernel_rfl
set_option maxRecDepth 100000 in
theorem aV4:tableD PP aLQ=some aEn:=by kernel_rfl
set_option maxRecDepth 100000 in
theorem aVb:table PP aLG=some aEo:=by kernel_rfl
set_option maxRecDepth 100000 in
theorem aPA:table PP aEk=some aEa:=by kernel_rfl
set_option maxRecDepth 100000 in
theorem aUd:table PP aKF=some aJv:=by kernel_rfl
set_option maxRecDepth 100000 in
theorem aPZ:table PP aE9=some aE2:=by kernel_rfl
set_option maxRecDepth 100000 in
theorem aSW:table PP aGI=some aGH:=by kernel_rfl
set_option maxRecDepth 100000 in
theorem aXc:table PP aN9=some aGc:=by kernel_rfl
set_option maxRecDepth 100000 in
theorem aMm:tableR PP aFO=some aD7:=by kernel_rfl
set_option maxRecDepth 100000 in
theorem aOP:table PP aDo=some aDg:=by kernel_rfl
set_option maxRecDepth 100000 in
theorem aUk:table PP aKS=some aCe:=by kernel_rfl
set_option maxRecDepth 100000 in
theorem aWE:table PP aF0=some aLk:=by kernel_rfl
set_option maxRecDepth 100000 in
theorem aXj:table PP aCf=some aN6:=by kernel_rfl
set_option maxRecDepth 100000 in
theorem aWb:table PP aLs=some aDM:=by kernel_rfl
set_option maxRecDepth 100000 in
theorem aY4:table PP aPQ=some aFq:=by kernel_rfl
set_option maxRecDepth 100000 in
theorem aTV:table PP aGq=some aGy:=by kernel_rfl
set_option maxRecDepth 100000 in
theorem aV9:table PP aLF=some aEm:=by kernel_rfl
set_option maxRecDepth 100000 in
theorem aXn:table PP aN4=some aKX:=by kernel_rfl
set_option maxRecDepth 100000 in
theorem aTU:table PP aBT=some aHD:=by kernel_rfl
set_option maxRecDepth 100000 in
theorem aER:table PP aAt=some aAZ:=by kernel_rfl
set_option maxRecDepth 100000 in
theorem aSL:table PP aF6=some aD1:=by kernel_rfl
set_option maxRecDepth 100000 in
theorem aRQ:table PP aB5=some aBE:=by kernel_rfl
set_option maxRecDepth 100000 in
theorem aOL:table PP aBX=some aBb:=by kernel_rfl
set_option maxRecDepth 100000 in
theorem aRu:table PP aDY=some aD6:=by kernel_rfl
set_option maxRecDepth 100000 in
theorem aUe:table PP aFi=some aFp:=by kernel_rfl
set_option maxRecDepth 100000 in
theorem aPF:table PP aAU=some aHq:=by kernel_rfl
set_option maxRecDepth 100000 in
theorem aQa:table PP aAh=some aFJ:=by kernel_rfl
set_option maxRecDepth 100000 in
theorem aQo:table PP aAN=some aJP:=by kernel_rfl
set_option maxRecDepth 100000 in
theorem aQg:table PP aCa=some aJH:=by kernel_rfl
set_option maxRecDepth 100000 in
theorem aR3:table PP aCk=some aF7:=by kernel_rfl
set_option maxRecDepth 100000 in
theorem aJ2:table PP aAW=some aAy:=by kernel_rfl
set_option maxRecDepth 100000 in
theorem aQk:table PP aA1=some aDO:=by kernel_rfl
set_option maxRecDepth 100000 in
theorem aQu:table PP aAY=some aFD:=by kernel_rfl
set_option maxRecDepth 100000 in
theorem aSA:table PP aFX=some aCm:=by kernel_rfl
set_option maxRecDepth 100000 in
theorem aQc:table PP aBK=some aJD:=by kernel_rfl
set_option maxRecDepth 100000 in
theorem aWT:table PP aDk=some aI9:=by kernel_rfl
set_option maxRecDepth 100000 in
theorem aDz:table PP aAo=some aAn:=by kernel_rfl
set_option maxRecDepth 100000 in
theorem aWA:table PP aLP=some aLL:=by kernel_rfl
set_option maxRecDepth 100000 in
theorem aFU:table PP aBB=some aBC:=by kernel_rfl
set_option maxRecDepth 100000 in
theorem aWn:table PP aLt=some aIk:=by kernel_rfl
set_option maxRecDepth 100000 in
theorem aVp:table PP aLC=some aLB:=by kernel_rfl
set_option maxRecDepth 100000 in
theorem aT1:table PP aGo=some aGr:=by kernel_rfl
set_option maxRecDepth 100000 in
theorem aR6:table PP aF4=some aD3:=by kernel_rfl
set_option maxRecDepth 100000 in
theorem aXI:table PP aMN=some aIE:=by kernel_rfl
set_option maxRecDepth 100000 in
theorem aSa:table PP aDE=some aDF:=by kernel_rfl
set_option maxRecDepth 100000 in
theorem aJb:table PP aBM=some aC4:=by kernel_rfl
set_option maxRecDepth 100000 in
theorem aP5:table PP aEV=some aBF:=by kernel_rfl
set_option maxRecDepth 100000 in
theorem aVv:table PP aDD=some aLI:=by kernel_rfl
set_option maxRecDepth 100000 in
theorem aW8:table PP aCj=some aDL:=by kernel_rfl
set_option maxRecDepth 100000 in
theorem aXs:table PP aKV=some aKY:=by kernel_rfl
set_option maxRecDepth 100000 in
theorem aV5:table PP aDV=some aGj:=by kernel_rfl
set_option maxRecDepth 100000 in
theorem aQ3:table PP aAi=some aFE:=by kernel_rfl
set_option maxRecDepth 100000 in
theorem aL6:table PP aAx=some aAj:=by kernel_rfl
set_option maxRecDepth 100000 in
theorem aSv:table PP aG0=some aG6:=by kernel_rfl
set_option maxRecDepth 100000 in
theorem aQ6:table PP aFC=some aDP:=by kernel_rfl
set_option maxRecDepth 100000 in
theorem aNU:table PP aAw=some aDc:=by kernel_rfl
set_option maxRecDepth 100000 in
theorem aEW:table PP aAr=some aA8:=by kernel_rfl
set_option maxRecDepth 100000 in
theorem aUj:table PP aKN=some aJu:=by kernel_rfl
set_option maxRecDepth 100000 in
theorem aFH:table PP aAa=some aAd:=by kernel_rfl
set_option maxRecDepth 100000 in
theorem aGG:table PP aBH=some aAk:=by kernel_rfl
set_option maxRecDepth 100000 in
theorem aUh:table PP aKU=some aKJ:=by kernel_rfl
set_option maxRecDepth 100000 in
theorem aDx:table PP aAp=some aAm:=by kernel_rfl
set_option maxRecDepth 100000 in
theorem aUW:table PP aHy=some aFM:=by kernel_rfl
set_option maxRecDepth 100000 in
theorem aUU:table PP aFP=some aIT:=by kernel_rfl
set_option maxRecDepth 100000 in
theorem aS3:table PP aGF=some aDf:=by kernel_rfl
set_option maxRecDepth 100000 in
theorem aVo:table PP aKx=some aLR:=by kernel_rfl
set_option maxRecDepth 100000 in
theorem aDS:table PP aAu=some aAe:=by kernel_rfl
set_option maxRecDepth 100000 in
theorem aMT:table PP aDT=some aC2:=by kernel_rfl
set_option maxRecDepth 100000 in
theorem aQe:table PP aC8=some aBL:=by kernel_rfl
set_option maxRecDepth 100000 in
theorem aJe:table PP aAc=some aAz:=by kernel_rfl
set_option maxRecDepth 100000 in
theorem aFF:table PP aBA=some aAb:=by kernel_rfl
set_option maxRecDepth 100000 in
theorem aQr:table PP aFG=some aDR:=by kernel_rfl
set_option maxRecDepth 100000 in
theorem aDm:table PP aBG=some aA2:=by kernel_rfl
set_option maxRecDepth 100000 in
theorem aMU:table PP aC1=some aDU:=by kernel_rfl
end Go.Proofs.YtdbmeidhlijopaaGreatDoor.Ev.C
