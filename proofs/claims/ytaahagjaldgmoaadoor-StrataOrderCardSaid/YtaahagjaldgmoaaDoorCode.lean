/- The functions of the program as the interpreter has them, printed by a program of ours. -/
import Derived.Test.YtaahagjaldgmoaaDoorProg
import Derived.Test.YtaahagjaldgmoaaDoorEv29
namespace Go.Proofs.YtaahagjaldgmoaaDoor.Ev.C
open Go Go.Proofs.YtaahagjaldgmoaaDoor.Ev
noncomputable abbrev PP : Program := Go.Proofs.Tryd.prog
def n_bytealg_IndexByteString : Nat := 107
def n_doormanlaw10_StrataOrder : Nat := 5
def n_doormanlaw10_awake : Nat := 8
def n_parse_reader_is : Nat := 62
def n_parse_reader_pass : Nat := 40
def n_parse_reader_sign : Nat := 90
def n_slices_ContainsFunc_strata_Edge_strata_Edge : Nat := 17
def n_slices_Contains_string_string : Nat := 88
def n_slices_IndexFunc_strata_Edge_strata_Edge : Nat := 33
def n_slices_Index_string_string : Nat := 99
def n_strata_Levels : Nat := 9
def n_strata_Levels_1 : Nat := 16
def n_token_Key : Nat := 63
def g_token_keys : Nat := 0
def g_bytealg_MaxLen : Nat := 1
/-! doormanlaw10_StrataOrder -/
def doormanlaw10_StrataOrder_r0 : List AStep := [⟨(some 6), (.mov (.con (.bool false))), none⟩]
def doormanlaw10_StrataOrder_r1 : List AStep := [⟨(some 17), (.call (.con (.func n_doormanlaw10_awake [])) []), none⟩, ⟨(some 7), (.mov (.tmp 17)), none⟩]
def doormanlaw10_StrataOrder_r2 : List AStep := [⟨(some 18), (.mov (.tmp 7)), none⟩, ⟨(some 19), (.not (.tmp 18)), none⟩]
def doormanlaw10_StrataOrder_r3 : List AStep := [⟨(some 6), (.mov (.con (.bool false))), none⟩]
def doormanlaw10_StrataOrder_r4 : List AStep := [⟨(some 20), (.mov (.tmp 0)), none⟩, ⟨(some 21), (.cvInt .i64 (.tmp 20)), none⟩, ⟨(some 22), (.bin .rem (.tmp 21) (.con (.int .i64 30))), none⟩, ⟨(some 8), (.mov (.tmp 22)), none⟩]
def doormanlaw10_StrataOrder_r5 : List AStep := [⟨(some 23), (.mov (.tmp 1)), none⟩, ⟨(some 24), (.len (.tmp 23)), none⟩, ⟨(some 25), (.bin .gtr (.tmp 24) (.con (.int .i64 60))), none⟩, ⟨(some 26), (.mov (.tmp 25)), none⟩, ⟨(some 27), (.mov (.tmp 1)), (some (26, false))⟩, ⟨(some 28), (.len (.tmp 27)), (some (26, false))⟩, ⟨(some 29), (.bin .eql (.tmp 28) (.con (.int .i64 0))), (some (26, false))⟩, ⟨(some 30), (.pick (.tmp 26) (.con (.bool true)) (.tmp 29)), none⟩]
def doormanlaw10_StrataOrder_r6 : List AStep := [⟨(some 6), (.mov (.con (.bool true))), none⟩]
def doormanlaw10_StrataOrder_r7 : List AStep := [⟨(some 9), (.mov (.con .nils)), none⟩]
def doormanlaw10_StrataOrder_r8 : List AStep := [⟨(some 10), (.mov (.con (.int .i64 0))), none⟩]
def doormanlaw10_StrataOrder_r9 : List AStep := [⟨(some 31), (.mov (.tmp 10)), none⟩, ⟨(some 32), (.mov (.tmp 1)), none⟩, ⟨(some 33), (.len (.tmp 32)), none⟩, ⟨(some 34), (.bin .lss (.tmp 31) (.tmp 33)), none⟩]
def doormanlaw10_StrataOrder_r10 : List AStep := [⟨(some 37), (.mov (.tmp 9)), none⟩, ⟨(some 38), (.mov (.tmp 1)), none⟩, ⟨(some 39), (.mov (.tmp 10)), none⟩, ⟨(some 40), (.mov (.tmp 2)), none⟩, ⟨(some 41), (.cvInt .i64 (.tmp 40)), none⟩, ⟨(some 42), (.bin .add (.tmp 39) (.tmp 41)), none⟩, ⟨(some 43), (.mov (.tmp 1)), none⟩, ⟨(some 44), (.len (.tmp 43)), none⟩, ⟨(some 45), (.bin .rem (.tmp 42) (.tmp 44)), none⟩, ⟨(some 46), (.indexAddr 3 (.tmp 38) (.tmp 45)), none⟩, ⟨(some 47), (.load true 3 (.tmp 46)), none⟩, ⟨(some 48), (.buildSlice 3 1 [(.int .i64 0), (.int .i64 0), (.bool false)] [(0, (3, (.tmp 47)))]), none⟩, ⟨(some 49), (.append 3 (.tmp 37) (.tmp 48)), none⟩, ⟨(some 9), (.mov (.tmp 49)), none⟩]
def doormanlaw10_StrataOrder_r11 : List AStep := [⟨(some 35), (.mov (.tmp 10)), none⟩, ⟨(some 36), (.bin .add (.tmp 35) (.con (.int .i64 1))), none⟩, ⟨(some 10), (.mov (.tmp 36)), none⟩]
def doormanlaw10_StrataOrder_l12 : ACode := (.seq (.seq (.ops doormanlaw10_StrataOrder_r9) (.cond (.tmp 34) .skip (.exit 0))) (.seq (.block 1 (.ops doormanlaw10_StrataOrder_r10)) (.ops doormanlaw10_StrataOrder_r11)))
def doormanlaw10_StrataOrder_r13 : List AStep := [⟨(some 50), (.mov (.tmp 1)), none⟩, ⟨(some 51), (.len (.tmp 50)), none⟩, ⟨(some 52), (.bin .sub (.tmp 51) (.con (.int .i64 1))), none⟩, ⟨(some 11), (.mov (.tmp 52)), none⟩]
def doormanlaw10_StrataOrder_r14 : List AStep := [⟨(some 53), (.mov (.tmp 11)), none⟩, ⟨(some 54), (.bin .geq (.tmp 53) (.con (.int .i64 0))), none⟩]
def doormanlaw10_StrataOrder_r15 : List AStep := [⟨(some 57), (.mov (.tmp 9)), none⟩, ⟨(some 58), (.mov (.tmp 1)), none⟩, ⟨(some 59), (.mov (.tmp 11)), none⟩, ⟨(some 60), (.indexAddr 3 (.tmp 58) (.tmp 59)), none⟩, ⟨(some 61), (.load true 3 (.tmp 60)), none⟩, ⟨(some 62), (.buildSlice 3 1 [(.int .i64 0), (.int .i64 0), (.bool false)] [(0, (3, (.tmp 61)))]), none⟩, ⟨(some 63), (.append 3 (.tmp 57) (.tmp 62)), none⟩, ⟨(some 9), (.mov (.tmp 63)), none⟩]
def doormanlaw10_StrataOrder_r16 : List AStep := [⟨(some 55), (.mov (.tmp 11)), none⟩, ⟨(some 56), (.bin .sub (.tmp 55) (.con (.int .i64 1))), none⟩, ⟨(some 11), (.mov (.tmp 56)), none⟩]
def doormanlaw10_StrataOrder_l17 : ACode := (.seq (.seq (.ops doormanlaw10_StrataOrder_r14) (.cond (.tmp 54) .skip (.exit 2))) (.seq (.block 3 (.ops doormanlaw10_StrataOrder_r15)) (.ops doormanlaw10_StrataOrder_r16)))
def doormanlaw10_StrataOrder_r18 : List AStep := [⟨(some 65), (.mov (.tmp 8)), none⟩, ⟨(some 66), (.mov (.tmp 1)), none⟩, ⟨(some 67), (.call (.con (.func n_strata_Levels [])) [(.tmp 65), (.tmp 66)]), none⟩, ⟨(some 64), (.mov (.tmp 67)), none⟩, ⟨(some 68), (.extract (.tmp 64) 0), none⟩, ⟨(some 69), (.extract (.tmp 64) 1), none⟩, ⟨(some 12), (.mov (.tmp 68)), none⟩, ⟨(some 13), (.mov (.tmp 69)), none⟩]
def doormanlaw10_StrataOrder_r19 : List AStep := [⟨(some 71), (.mov (.tmp 8)), none⟩, ⟨(some 72), (.mov (.tmp 9)), none⟩, ⟨(some 73), (.call (.con (.func n_strata_Levels [])) [(.tmp 71), (.tmp 72)]), none⟩, ⟨(some 70), (.mov (.tmp 73)), none⟩, ⟨(some 74), (.extract (.tmp 70) 0), none⟩, ⟨(some 75), (.extract (.tmp 70) 1), none⟩, ⟨(some 14), (.mov (.tmp 74)), none⟩, ⟨(some 15), (.mov (.tmp 75)), none⟩]
def doormanlaw10_StrataOrder_r20 : List AStep := [⟨(some 76), (.mov (.tmp 13)), none⟩, ⟨(some 77), (.mov (.tmp 15)), none⟩, ⟨(some 78), (.bin .neq (.tmp 76) (.tmp 77)), none⟩, ⟨(some 79), (.mov (.tmp 78)), none⟩, ⟨(some 80), (.mov (.tmp 12)), (some (79, false))⟩, ⟨(some 81), (.len (.tmp 80)), (some (79, false))⟩, ⟨(some 82), (.mov (.tmp 14)), (some (79, false))⟩, ⟨(some 83), (.len (.tmp 82)), (some (79, false))⟩, ⟨(some 84), (.bin .neq (.tmp 81) (.tmp 83)), (some (79, false))⟩, ⟨(some 85), (.pick (.tmp 79) (.con (.bool true)) (.tmp 84)), none⟩]
def doormanlaw10_StrataOrder_r21 : List AStep := [⟨(some 6), (.mov (.con (.bool false))), none⟩]
def doormanlaw10_StrataOrder_r22 : List AStep := [⟨(some 16), (.mov (.con (.int .i64 0))), none⟩]
def doormanlaw10_StrataOrder_r23 : List AStep := [⟨(some 86), (.mov (.tmp 16)), none⟩, ⟨(some 87), (.mov (.tmp 12)), none⟩, ⟨(some 88), (.len (.tmp 87)), none⟩, ⟨(some 89), (.bin .lss (.tmp 86) (.tmp 88)), none⟩]
def doormanlaw10_StrataOrder_r24 : List DStep := [⟨0, 0, ⟨(some 92), (.mov (.tmp 12)), none⟩⟩, ⟨1, 0, ⟨(some 93), (.mov (.tmp 16)), none⟩⟩, ⟨2, 3, ⟨(some 94), (.indexAddr 1 (.tmp 92) (.tmp 93)), none⟩⟩, ⟨3, 7, ⟨(some 95), (.load false 1 (.tmp 94)), none⟩⟩, ⟨4, 0, ⟨(some 96), (.mov (.tmp 14)), none⟩⟩, ⟨5, 0, ⟨(some 97), (.mov (.tmp 16)), none⟩⟩, ⟨6, 48, ⟨(some 98), (.indexAddr 1 (.tmp 96) (.tmp 97)), none⟩⟩, ⟨7, 112, ⟨(some 99), (.load false 1 (.tmp 98)), none⟩⟩, ⟨8, 255, ⟨(some 100), (.bin .neq (.tmp 95) (.tmp 99)), none⟩⟩]
def doormanlaw10_StrataOrder_r25 : List AStep := [⟨(some 6), (.mov (.con (.bool false))), none⟩]
def doormanlaw10_StrataOrder_r26 : List AStep := [⟨(some 90), (.mov (.tmp 16)), none⟩, ⟨(some 91), (.bin .add (.tmp 90) (.con (.int .i64 1))), none⟩, ⟨(some 16), (.mov (.tmp 91)), none⟩]
def doormanlaw10_StrataOrder_l27 : ACode := (.seq (.seq (.ops doormanlaw10_StrataOrder_r23) (.cond (.tmp 89) .skip (.exit 4))) (.seq (.block 5 (.seq (.draw doormanlaw10_StrataOrder_r24) (.cond (.tmp 100) (.seq (.ops doormanlaw10_StrataOrder_r25) .ret) .skip))) (.ops doormanlaw10_StrataOrder_r26)))
def doormanlaw10_StrataOrder_r28 : List AStep := [⟨(some 6), (.mov (.con (.bool true))), none⟩]
def doormanlaw10_StrataOrder_c : ACode := (.seq (.ops doormanlaw10_StrataOrder_r0) (.seq (.ops doormanlaw10_StrataOrder_r1) (.seq (.seq (.ops doormanlaw10_StrataOrder_r2) (.cond (.tmp 19) (.seq (.ops doormanlaw10_StrataOrder_r3) .ret) .skip)) (.seq (.ops doormanlaw10_StrataOrder_r4) (.seq (.seq (.ops doormanlaw10_StrataOrder_r5) (.cond (.tmp 30) (.seq (.ops doormanlaw10_StrataOrder_r6) .ret) .skip)) (.seq (.ops doormanlaw10_StrataOrder_r7) (.seq (.seq (.ops doormanlaw10_StrataOrder_r8) (.block 0 (.loop doormanlaw10_StrataOrder_l12))) (.seq (.seq (.ops doormanlaw10_StrataOrder_r13) (.block 2 (.loop doormanlaw10_StrataOrder_l17))) (.seq (.ops doormanlaw10_StrataOrder_r18) (.seq (.ops doormanlaw10_StrataOrder_r19) (.seq (.seq (.ops doormanlaw10_StrataOrder_r20) (.cond (.tmp 85) (.seq (.ops doormanlaw10_StrataOrder_r21) .ret) .skip)) (.seq (.seq (.ops doormanlaw10_StrataOrder_r22) (.block 4 (.loop doormanlaw10_StrataOrder_l27))) (.seq (.ops doormanlaw10_StrataOrder_r28) .ret)))))))))))))
def doormanlaw10_StrataOrder_a : AFunc := ⟨101, [(.tmp 6)], doormanlaw10_StrataOrder_c⟩
/-! strata_Levels -/
def strata_Levels_r0 : List AStep := [⟨(some 2), (.box (.tmp 0)), none⟩, ⟨(some 4), (.mov (.con .nils)), none⟩, ⟨(some 5), (.mov (.con (.int .i64 0))), none⟩]
def strata_Levels_r1 : List AStep := [⟨(some 12), (.makeFunc n_strata_Levels_1 [(.tmp 2)]), none⟩, ⟨(some 6), (.mov (.tmp 12)), none⟩]
def strata_Levels_r2 : List AStep := [⟨(some 13), (.load false 1 (.tmp 2)), none⟩, ⟨(some 14), (.bin .lss (.tmp 13) (.con (.int .i64 0))), none⟩, ⟨(some 15), (.mov (.tmp 14)), none⟩, ⟨(some 16), (.load false 1 (.tmp 2)), (some (15, false))⟩, ⟨(some 17), (.bin .gtr (.tmp 16) (.con (.int .i64 4096))), (some (15, false))⟩, ⟨(some 18), (.pick (.tmp 15) (.con (.bool true)) (.tmp 17)), none⟩, ⟨(some 19), (.mov (.tmp 18)), none⟩, ⟨(some 20), (.mov (.tmp 1)), (some (19, false))⟩, ⟨(some 21), (.mov (.tmp 6)), (some (19, false))⟩, ⟨(some 22), (.call (.con (.func n_slices_ContainsFunc_strata_Edge_strata_Edge [])) [(.tmp 20), (.tmp 21)]), (some (19, false))⟩, ⟨(some 23), (.pick (.tmp 19) (.con (.bool true)) (.tmp 22)), none⟩]
def strata_Levels_r3 : List AStep := [⟨(some 4), (.mov (.con .nils)), none⟩, ⟨(some 5), (.mov (.con (.int .i64 1))), none⟩]
def strata_Levels_r4 : List AStep := [⟨(some 24), (.load false 1 (.tmp 2)), none⟩, ⟨(some 25), (.makeSlice 1 8 [(.int .i64 0)] (.tmp 24) (.tmp 24)), none⟩, ⟨(some 7), (.mov (.tmp 25)), none⟩]
def strata_Levels_r5 : List AStep := [⟨(some 8), (.mov (.con (.bool true))), none⟩]
def strata_Levels_r6 : List AStep := [⟨(some 26), (.mov (.tmp 8)), none⟩]
def strata_Levels_r7 : List AStep := [⟨(some 8), (.mov (.con (.bool false))), none⟩]
def strata_Levels_r8 : List AStep := [⟨(some 27), (.mov (.tmp 1)), none⟩, ⟨(some 28), (.len (.tmp 27)), none⟩, ⟨(some 29), (.mov (.con (.int .i64 0))), none⟩]
def strata_Levels_r9 : List AStep := [⟨(some 30), (.bin .lss (.tmp 29) (.tmp 28)), none⟩]
def strata_Levels_r10 : List AStep := [⟨(some 31), (.indexAddr 3 (.tmp 27) (.tmp 29)), none⟩, ⟨(some 32), (.load true 3 (.tmp 31)), none⟩, ⟨(some 10), (.alloc [(.int .i64 0), (.int .i64 0), (.bool false)]), none⟩, ⟨none, (.store 3 (.tmp 10) (.tmp 32)), none⟩]
def strata_Levels_r11 : List AStep := [⟨(some 33), (.mov (.tmp 7)), none⟩, ⟨(some 34), (.fieldAddr 1 (.tmp 10)), none⟩, ⟨(some 35), (.load false 1 (.tmp 34)), none⟩, ⟨(some 36), (.indexAddr 1 (.tmp 33) (.tmp 35)), none⟩, ⟨(some 37), (.load false 1 (.tmp 36)), none⟩, ⟨(some 11), (.mov (.tmp 37)), none⟩]
def strata_Levels_r12 : List AStep := [⟨(some 38), (.fieldAddr 2 (.tmp 10)), none⟩, ⟨(some 39), (.load false 1 (.tmp 38)), none⟩]
def strata_Levels_r13 : List AStep := [⟨(some 40), (.mov (.tmp 11)), none⟩, ⟨(some 41), (.bin .add (.tmp 40) (.con (.int .i64 1))), none⟩, ⟨(some 11), (.mov (.tmp 41)), none⟩]
def strata_Levels_r14 : List AStep := [⟨(some 42), (.mov (.tmp 7)), none⟩, ⟨(some 43), (.fieldAddr 0 (.tmp 10)), none⟩, ⟨(some 44), (.load false 1 (.tmp 43)), none⟩, ⟨(some 45), (.indexAddr 1 (.tmp 42) (.tmp 44)), none⟩, ⟨(some 46), (.load false 1 (.tmp 45)), none⟩, ⟨(some 47), (.mov (.tmp 11)), none⟩, ⟨(some 48), (.bin .lss (.tmp 46) (.tmp 47)), none⟩]
def strata_Levels_r15 : List AStep := [⟨(some 49), (.mov (.tmp 7)), none⟩, ⟨(some 50), (.fieldAddr 0 (.tmp 10)), none⟩, ⟨(some 51), (.load false 1 (.tmp 50)), none⟩, ⟨(some 52), (.mov (.tmp 11)), none⟩, ⟨(some 53), (.indexAddr 1 (.tmp 49) (.tmp 51)), none⟩, ⟨none, (.store 1 (.tmp 53) (.tmp 52)), none⟩]
def strata_Levels_r16 : List AStep := [⟨(some 8), (.mov (.con (.bool true))), none⟩]
def strata_Levels_r17 : List AStep := [⟨(some 54), (.mov (.tmp 11)), none⟩, ⟨(some 55), (.load false 1 (.tmp 2)), none⟩, ⟨(some 56), (.bin .gtr (.tmp 54) (.tmp 55)), none⟩]
def strata_Levels_r18 : List AStep := [⟨(some 4), (.mov (.con .nils)), none⟩, ⟨(some 5), (.mov (.con (.int .i64 33))), none⟩]
def strata_Levels_r19 : List AStep := [⟨(some 57), (.bin .add (.tmp 29) (.con (.int .i64 1))), none⟩, ⟨(some 29), (.mov (.tmp 57)), none⟩]
def strata_Levels_l20 : ACode := (.seq (.ops strata_Levels_r9) (.seq (.cond (.tmp 30) .skip (.exit 2)) (.seq (.block 3 (.seq (.ops strata_Levels_r10) (.seq (.ops strata_Levels_r11) (.seq (.seq (.ops strata_Levels_r12) (.cond (.tmp 39) (.ops strata_Levels_r13) .skip)) (.seq (.seq (.ops strata_Levels_r14) (.cond (.tmp 48) (.seq (.ops strata_Levels_r15) (.ops strata_Levels_r16)) .skip)) (.seq (.ops strata_Levels_r17) (.cond (.tmp 56) (.seq (.ops strata_Levels_r18) .ret) .skip))))))) (.ops strata_Levels_r19))))
def strata_Levels_l21 : ACode := (.seq (.seq (.ops strata_Levels_r6) (.cond (.tmp 26) .skip (.exit 0))) (.block 1 (.seq (.ops strata_Levels_r7) (.seq (.ops strata_Levels_r8) (.block 2 (.loop strata_Levels_l20))))))
def strata_Levels_r22 : List AStep := [⟨(some 58), (.mov (.tmp 7)), none⟩, ⟨(some 4), (.mov (.tmp 58)), none⟩, ⟨(some 5), (.mov (.con (.int .i64 0))), none⟩]
def strata_Levels_c : ACode := (.seq (.ops strata_Levels_r0) (.seq (.ops strata_Levels_r1) (.seq (.seq (.ops strata_Levels_r2) (.cond (.tmp 23) (.seq (.ops strata_Levels_r3) .ret) .skip)) (.seq (.ops strata_Levels_r4) (.seq (.seq (.ops strata_Levels_r5) (.block 0 (.loop strata_Levels_l21))) (.seq (.ops strata_Levels_r22) .ret))))))
def strata_Levels_a : AFunc := ⟨59, [(.tmp 4), (.tmp 5)], strata_Levels_c⟩
/-! strata_Levels_1 -/
def strata_Levels_1_r0 : List AStep := [⟨(some 2), (.box (.tmp 0)), none⟩, ⟨(some 3), (.mov (.con (.bool false))), none⟩]
def strata_Levels_1_r1 : List AStep := [⟨(some 4), (.fieldAddr 0 (.tmp 2)), none⟩, ⟨(some 5), (.load false 1 (.tmp 4)), none⟩, ⟨(some 6), (.bin .lss (.tmp 5) (.con (.int .i64 0))), none⟩, ⟨(some 7), (.mov (.tmp 6)), none⟩, ⟨(some 8), (.fieldAddr 0 (.tmp 2)), (some (7, false))⟩, ⟨(some 9), (.load false 1 (.tmp 8)), (some (7, false))⟩, ⟨(some 10), (.load false 1 (.tmp 1)), (some (7, false))⟩, ⟨(some 11), (.bin .geq (.tmp 9) (.tmp 10)), (some (7, false))⟩, ⟨(some 12), (.pick (.tmp 7) (.con (.bool true)) (.tmp 11)), none⟩, ⟨(some 13), (.mov (.tmp 12)), none⟩, ⟨(some 14), (.fieldAddr 1 (.tmp 2)), (some (13, false))⟩, ⟨(some 15), (.load false 1 (.tmp 14)), (some (13, false))⟩, ⟨(some 16), (.bin .lss (.tmp 15) (.con (.int .i64 0))), (some (13, false))⟩, ⟨(some 17), (.pick (.tmp 13) (.con (.bool true)) (.tmp 16)), none⟩, ⟨(some 18), (.mov (.tmp 17)), none⟩, ⟨(some 19), (.fieldAddr 1 (.tmp 2)), (some (18, false))⟩, ⟨(some 20), (.load false 1 (.tmp 19)), (some (18, false))⟩, ⟨(some 21), (.load false 1 (.tmp 1)), (some (18, false))⟩, ⟨(some 22), (.bin .geq (.tmp 20) (.tmp 21)), (some (18, false))⟩, ⟨(some 23), (.pick (.tmp 18) (.con (.bool true)) (.tmp 22)), none⟩, ⟨(some 3), (.mov (.tmp 23)), none⟩]
def strata_Levels_1_c : ACode := (.seq (.ops strata_Levels_1_r0) (.seq (.ops strata_Levels_1_r1) .ret))
def strata_Levels_1_a : AFunc := ⟨24, [(.tmp 3)], strata_Levels_1_c⟩
/-! slices_ContainsFunc_strata_Edge_strata_Edge -/
def slices_ContainsFunc_strata_Edge_strata_Edge_r0 : List AStep := [⟨(some 4), (.mov (.con (.bool false))), none⟩]
def slices_ContainsFunc_strata_Edge_strata_Edge_r1 : List AStep := [⟨(some 5), (.mov (.tmp 0)), none⟩, ⟨(some 6), (.mov (.tmp 1)), none⟩, ⟨(some 7), (.call (.con (.func n_slices_IndexFunc_strata_Edge_strata_Edge [])) [(.tmp 5), (.tmp 6)]), none⟩, ⟨(some 8), (.bin .geq (.tmp 7) (.con (.int .i64 0))), none⟩, ⟨(some 4), (.mov (.tmp 8)), none⟩]
def slices_ContainsFunc_strata_Edge_strata_Edge_c : ACode := (.seq (.ops slices_ContainsFunc_strata_Edge_strata_Edge_r0) (.seq (.ops slices_ContainsFunc_strata_Edge_strata_Edge_r1) .ret))
def slices_ContainsFunc_strata_Edge_strata_Edge_a : AFunc := ⟨9, [(.tmp 4)], slices_ContainsFunc_strata_Edge_strata_Edge_c⟩
/-! slices_IndexFunc_strata_Edge_strata_Edge -/
def slices_IndexFunc_strata_Edge_strata_Edge_r0 : List AStep := [⟨(some 4), (.mov (.con (.int .i64 0))), none⟩]
def slices_IndexFunc_strata_Edge_strata_Edge_r1 : List AStep := [⟨(some 6), (.mov (.tmp 0)), none⟩, ⟨(some 7), (.len (.tmp 6)), none⟩, ⟨(some 8), (.mov (.con (.int .i64 0))), none⟩]
def slices_IndexFunc_strata_Edge_strata_Edge_r2 : List AStep := [⟨(some 9), (.bin .lss (.tmp 8) (.tmp 7)), none⟩]
def slices_IndexFunc_strata_Edge_strata_Edge_r3 : List AStep := [⟨(some 10), (.mov (.tmp 8)), none⟩, ⟨(some 5), (.mov (.tmp 10)), none⟩]
def slices_IndexFunc_strata_Edge_strata_Edge_r4 : List AStep := [⟨(some 11), (.mov (.tmp 1)), none⟩, ⟨(some 12), (.mov (.tmp 0)), none⟩, ⟨(some 13), (.mov (.tmp 5)), none⟩, ⟨(some 14), (.indexAddr 3 (.tmp 12) (.tmp 13)), none⟩, ⟨(some 15), (.load true 3 (.tmp 14)), none⟩, ⟨(some 16), (.call (.tmp 11) [(.tmp 15)]), none⟩]
def slices_IndexFunc_strata_Edge_strata_Edge_r5 : List AStep := [⟨(some 17), (.mov (.tmp 5)), none⟩, ⟨(some 4), (.mov (.tmp 17)), none⟩]
def slices_IndexFunc_strata_Edge_strata_Edge_r6 : List AStep := [⟨(some 18), (.bin .add (.tmp 8) (.con (.int .i64 1))), none⟩, ⟨(some 8), (.mov (.tmp 18)), none⟩]
def slices_IndexFunc_strata_Edge_strata_Edge_l7 : ACode := (.seq (.ops slices_IndexFunc_strata_Edge_strata_Edge_r2) (.seq (.cond (.tmp 9) .skip (.exit 0)) (.seq (.block 1 (.seq (.ops slices_IndexFunc_strata_Edge_strata_Edge_r3) (.seq (.ops slices_IndexFunc_strata_Edge_strata_Edge_r4) (.cond (.tmp 16) (.seq (.ops slices_IndexFunc_strata_Edge_strata_Edge_r5) .ret) .skip)))) (.ops slices_IndexFunc_strata_Edge_strata_Edge_r6))))
def slices_IndexFunc_strata_Edge_strata_Edge_r8 : List AStep := [⟨(some 4), (.mov (.con (.int .i64 (-1)))), none⟩]
def slices_IndexFunc_strata_Edge_strata_Edge_c : ACode := (.seq (.ops slices_IndexFunc_strata_Edge_strata_Edge_r0) (.seq (.seq (.ops slices_IndexFunc_strata_Edge_strata_Edge_r1) (.block 0 (.loop slices_IndexFunc_strata_Edge_strata_Edge_l7))) (.seq (.ops slices_IndexFunc_strata_Edge_strata_Edge_r8) .ret)))
def slices_IndexFunc_strata_Edge_strata_Edge_a : AFunc := ⟨19, [(.tmp 4)], slices_IndexFunc_strata_Edge_strata_Edge_c⟩
/-! parse_reader_pass -/
def parse_reader_pass_r0 : List AStep := [⟨(some 4), (.mov (.con (.bool false))), none⟩]
def parse_reader_pass_r1 : List AStep := [⟨(some 5), (.mov (.tmp 0)), none⟩, ⟨(some 6), (.mov (.tmp 1)), none⟩, ⟨(some 7), (.call (.con (.func n_parse_reader_is [])) [(.tmp 5), (.tmp 6)]), none⟩, ⟨(some 8), (.not (.tmp 7)), none⟩]
def parse_reader_pass_r2 : List AStep := [⟨(some 4), (.mov (.con (.bool false))), none⟩]
def parse_reader_pass_r3 : List AStep := [⟨(some 9), (.mov (.tmp 0)), none⟩, ⟨(some 10), (.mov (.tmp 0)), none⟩, ⟨(some 11), (.nilCheck (.tmp 10)), none⟩, ⟨(some 12), (.fieldAddr 0 (.tmp 11)), none⟩, ⟨(some 13), (.load false 1 (.tmp 12)), none⟩, ⟨(some 14), (.sliceS 3 (.tmp 13) (some (.con (.int .i64 1))) none), none⟩, ⟨(some 15), (.nilCheck (.tmp 9)), none⟩, ⟨(some 16), (.fieldAddr 0 (.tmp 15)), none⟩, ⟨none, (.store 1 (.tmp 16) (.tmp 14)), none⟩]
def parse_reader_pass_r4 : List AStep := [⟨(some 4), (.mov (.con (.bool true))), none⟩]
def parse_reader_pass_c : ACode := (.seq (.ops parse_reader_pass_r0) (.seq (.seq (.ops parse_reader_pass_r1) (.cond (.tmp 8) (.seq (.ops parse_reader_pass_r2) .ret) .skip)) (.seq (.ops parse_reader_pass_r3) (.seq (.ops parse_reader_pass_r4) .ret))))
def parse_reader_pass_a : AFunc := ⟨17, [(.tmp 4)], parse_reader_pass_c⟩
/-! parse_reader_is -/
def parse_reader_is_r0 : List AStep := [⟨(some 4), (.mov (.con (.bool false))), none⟩]
def parse_reader_is_r1 : List AStep := [⟨(some 5), (.mov (.tmp 0)), none⟩, ⟨(some 6), (.nilCheck (.tmp 5)), none⟩, ⟨(some 7), (.fieldAddr 0 (.tmp 6)), none⟩, ⟨(some 8), (.load false 1 (.tmp 7)), none⟩, ⟨(some 9), (.indexAddr 3 (.tmp 8) (.con (.int .i64 0))), none⟩, ⟨(some 10), (.fieldAddr 1 (.tmp 9)), none⟩, ⟨(some 11), (.load false 1 (.tmp 10)), none⟩, ⟨(some 12), (.mov (.tmp 1)), none⟩, ⟨(some 13), (.bin .eql (.tmp 11) (.tmp 12)), none⟩, ⟨(some 14), (.mov (.tmp 13)), none⟩, ⟨(some 15), (.mov (.tmp 0)), (some (14, true))⟩, ⟨(some 16), (.nilCheck (.tmp 15)), (some (14, true))⟩, ⟨(some 17), (.fieldAddr 0 (.tmp 16)), (some (14, true))⟩, ⟨(some 18), (.load false 1 (.tmp 17)), (some (14, true))⟩, ⟨(some 19), (.indexAddr 3 (.tmp 18) (.con (.int .i64 0))), (some (14, true))⟩, ⟨(some 20), (.fieldAddr 0 (.tmp 19)), (some (14, true))⟩, ⟨(some 21), (.load false 1 (.tmp 20)), (some (14, true))⟩, ⟨(some 22), (.bin .eql (.tmp 21) (.con (.int .i64 2))), (some (14, true))⟩, ⟨(some 23), (.mov (.tmp 22)), (some (14, true))⟩, ⟨(some 24), (.mov (.tmp 1)), (some (23, false))⟩, ⟨(some 25), (.call (.con (.func n_token_Key [])) [(.tmp 24)]), (some (23, false))⟩, ⟨(some 26), (.pick (.tmp 23) (.con (.bool true)) (.tmp 25)), (some (14, true))⟩, ⟨(some 27), (.pick (.tmp 14) (.tmp 26) (.con (.bool false))), none⟩, ⟨(some 4), (.mov (.tmp 27)), none⟩]
def parse_reader_is_c : ACode := (.seq (.ops parse_reader_is_r0) (.seq (.ops parse_reader_is_r1) .ret))
def parse_reader_is_a : AFunc := ⟨28, [(.tmp 4)], parse_reader_is_c⟩
/-! token_Key -/
def token_Key_r0 : List AStep := [⟨(some 2), (.mov (.con (.bool false))), none⟩]
def token_Key_r1 : List AStep := [⟨(some 3), (.load false 1 (.con (.gptr g_token_keys))), none⟩, ⟨(some 4), (.mov (.tmp 0)), none⟩, ⟨(some 5), (.call (.con (.func n_slices_Contains_string_string [])) [(.tmp 3), (.tmp 4)]), none⟩, ⟨(some 2), (.mov (.tmp 5)), none⟩]
def token_Key_c : ACode := (.seq (.ops token_Key_r0) (.seq (.ops token_Key_r1) .ret))
def token_Key_a : AFunc := ⟨6, [(.tmp 2)], token_Key_c⟩
/-! slices_Contains_string_string -/
def slices_Contains_string_string_r0 : List AStep := [⟨(some 4), (.mov (.con (.bool false))), none⟩]
def slices_Contains_string_string_r1 : List AStep := [⟨(some 5), (.mov (.tmp 0)), none⟩, ⟨(some 6), (.mov (.tmp 1)), none⟩, ⟨(some 7), (.call (.con (.func n_slices_Index_string_string [])) [(.tmp 5), (.tmp 6)]), none⟩, ⟨(some 8), (.bin .geq (.tmp 7) (.con (.int .i64 0))), none⟩, ⟨(some 4), (.mov (.tmp 8)), none⟩]
def slices_Contains_string_string_c : ACode := (.seq (.ops slices_Contains_string_string_r0) (.seq (.ops slices_Contains_string_string_r1) .ret))
def slices_Contains_string_string_a : AFunc := ⟨9, [(.tmp 4)], slices_Contains_string_string_c⟩
/-! parse_reader_sign -/
def parse_reader_sign_r0 : List AStep := [⟨(some 2), (.mov (.con (.int .i64 0))), none⟩]
def parse_reader_sign_r1 : List AStep := [⟨(some 5), .makeMap, none⟩, ⟨none, (.mapPut .str (.tmp 5) (.con (.str [124])) (.con (.int .i64 4))), none⟩, ⟨none, (.mapPut .str (.tmp 5) (.con (.str [38])) (.con (.int .i64 5))), none⟩, ⟨none, (.mapPut .str (.tmp 5) (.con (.str [45])) (.con (.int .i64 6))), none⟩, ⟨(some 6), (.mov (.tmp 5)), none⟩, ⟨(some 7), (.rangeM (.tmp 6)), none⟩]
def parse_reader_sign_r2 : List AStep := [⟨(some 8), (.nextM (.tmp 7)), none⟩, ⟨(some 9), (.extract (.tmp 8) 0), none⟩]
def parse_reader_sign_r3 : List AStep := [⟨(some 10), (.entryM (.tmp 7)), none⟩, ⟨(some 11), (.extract (.tmp 10) 0), none⟩, ⟨(some 12), (.extract (.tmp 10) 1), none⟩, ⟨(some 3), (.mov (.tmp 11)), none⟩, ⟨(some 4), (.mov (.tmp 12)), none⟩]
def parse_reader_sign_r4 : List AStep := [⟨(some 13), (.mov (.tmp 0)), none⟩, ⟨(some 14), (.mov (.tmp 3)), none⟩, ⟨(some 15), (.call (.con (.func n_parse_reader_pass [])) [(.tmp 13), (.tmp 14)]), none⟩]
def parse_reader_sign_r5 : List AStep := [⟨(some 16), (.mov (.tmp 4)), none⟩, ⟨(some 2), (.mov (.tmp 16)), none⟩]
def parse_reader_sign_l6 : ACode := (.seq (.ops parse_reader_sign_r2) (.seq (.cond (.tmp 9) .skip (.exit 0)) (.block 1 (.seq (.ops parse_reader_sign_r3) (.seq (.ops parse_reader_sign_r4) (.cond (.tmp 15) (.seq (.ops parse_reader_sign_r5) .ret) .skip))))))
def parse_reader_sign_r7 : List AStep := [⟨(some 2), (.mov (.con (.int .i64 0))), none⟩]
def parse_reader_sign_c : ACode := (.seq (.ops parse_reader_sign_r0) (.seq (.seq (.ops parse_reader_sign_r1) (.block 0 (.loop parse_reader_sign_l6))) (.seq (.ops parse_reader_sign_r7) .ret)))
def parse_reader_sign_a : AFunc := ⟨17, [(.tmp 2)], parse_reader_sign_c⟩
/-! slices_Index_string_string -/
def slices_Index_string_string_r0 : List AStep := [⟨(some 4), (.mov (.con (.int .i64 0))), none⟩]
def slices_Index_string_string_r1 : List AStep := [⟨(some 6), (.mov (.tmp 0)), none⟩, ⟨(some 7), (.len (.tmp 6)), none⟩, ⟨(some 8), (.mov (.con (.int .i64 0))), none⟩]
def slices_Index_string_string_r2 : List AStep := [⟨(some 9), (.bin .lss (.tmp 8) (.tmp 7)), none⟩]
def slices_Index_string_string_r3 : List AStep := [⟨(some 10), (.mov (.tmp 8)), none⟩, ⟨(some 5), (.mov (.tmp 10)), none⟩]
def slices_Index_string_string_r4 : List AStep := [⟨(some 11), (.mov (.tmp 1)), none⟩, ⟨(some 12), (.mov (.tmp 0)), none⟩, ⟨(some 13), (.mov (.tmp 5)), none⟩, ⟨(some 14), (.indexAddr 1 (.tmp 12) (.tmp 13)), none⟩, ⟨(some 15), (.load false 1 (.tmp 14)), none⟩, ⟨(some 16), (.bin .eql (.tmp 11) (.tmp 15)), none⟩]
def slices_Index_string_string_r5 : List AStep := [⟨(some 17), (.mov (.tmp 5)), none⟩, ⟨(some 4), (.mov (.tmp 17)), none⟩]
def slices_Index_string_string_r6 : List AStep := [⟨(some 18), (.bin .add (.tmp 8) (.con (.int .i64 1))), none⟩, ⟨(some 8), (.mov (.tmp 18)), none⟩]
def slices_Index_string_string_l7 : ACode := (.seq (.ops slices_Index_string_string_r2) (.seq (.cond (.tmp 9) .skip (.exit 0)) (.seq (.block 1 (.seq (.ops slices_Index_string_string_r3) (.seq (.ops slices_Index_string_string_r4) (.cond (.tmp 16) (.seq (.ops slices_Index_string_string_r5) .ret) .skip)))) (.ops slices_Index_string_string_r6))))
def slices_Index_string_string_r8 : List AStep := [⟨(some 4), (.mov (.con (.int .i64 (-1)))), none⟩]
def slices_Index_string_string_c : ACode := (.seq (.ops slices_Index_string_string_r0) (.seq (.seq (.ops slices_Index_string_string_r1) (.block 0 (.loop slices_Index_string_string_l7))) (.seq (.ops slices_Index_string_string_r8) .ret)))
def slices_Index_string_string_a : AFunc := ⟨19, [(.tmp 4)], slices_Index_string_string_c⟩
set_option maxRecDepth 100000 in
theorem T_doormanlaw10_StrataOrder : table PP n_doormanlaw10_StrataOrder = some doormanlaw10_StrataOrder_a := by kernel_rfl
set_option maxRecDepth 100000 in
theorem T_strata_Levels : table PP n_strata_Levels = some strata_Levels_a := by kernel_rfl
set_option maxRecDepth 100000 in
theorem T_strata_Levels_1 : table PP n_strata_Levels_1 = some strata_Levels_1_a := by kernel_rfl
set_option maxRecDepth 100000 in
theorem T_slices_ContainsFunc_strata_Edge_strata_Edge : table PP n_slices_ContainsFunc_strata_Edge_strata_Edge = some slices_ContainsFunc_strata_Edge_strata_Edge_a := by kernel_rfl
set_option maxRecDepth 100000 in
theorem T_slices_IndexFunc_strata_Edge_strata_Edge : table PP n_slices_IndexFunc_strata_Edge_strata_Edge = some slices_IndexFunc_strata_Edge_strata_Edge_a := by kernel_rfl
set_option maxRecDepth 100000 in
theorem T_parse_reader_pass : table PP n_parse_reader_pass = some parse_reader_pass_a := by kernel_rfl
set_option maxRecDepth 100000 in
theorem T_parse_reader_is : table PP n_parse_reader_is = some parse_reader_is_a := by kernel_rfl
set_option maxRecDepth 100000 in
theorem T_token_Key : table PP n_token_Key = some token_Key_a := by kernel_rfl
set_option maxRecDepth 100000 in
theorem T_slices_Contains_string_string : table PP n_slices_Contains_string_string = some slices_Contains_string_string_a := by kernel_rfl
set_option maxRecDepth 100000 in
theorem T_parse_reader_sign : table PP n_parse_reader_sign = some parse_reader_sign_a := by kernel_rfl
set_option maxRecDepth 100000 in
theorem T_slices_Index_string_string : table PP n_slices_Index_string_string = some slices_Index_string_string_a := by kernel_rfl
end Go.Proofs.YtaahagjaldgmoaaDoor.Ev.C
