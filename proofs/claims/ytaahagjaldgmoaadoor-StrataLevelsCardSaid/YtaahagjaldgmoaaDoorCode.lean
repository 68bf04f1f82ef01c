/- The functions of the program as the interpreter has them, printed by a program of ours. -/
import Derived.Test.YtaahagjaldgmoaaDoorProg
import Derived.Test.YtaahagjaldgmoaaDoorEv29
namespace Go.Proofs.YtaahagjaldgmoaaDoor.Ev.C
open Go Go.Proofs.YtaahagjaldgmoaaDoor.Ev
noncomputable abbrev PP : Program := Go.Proofs.Tryd.prog
def n_bytealg_IndexByteString : Nat := 107
def n_doormanlaw10_StrataLevels : Nat := 3
def n_doormanlaw10_awake : Nat := 8
def n_doormanlaw10_edges : Nat := 10
def n_doormanref10_Cycle : Nat := 11
def n_doormanref10_Levels : Nat := 12
def n_doormanref10_ways : Nat := 18
def n_parse_reader_is : Nat := 62
def n_parse_reader_pass : Nat := 40
def n_parse_reader_sign : Nat := 90
def n_slices_ContainsFunc_strata_Edge_strata_Edge : Nat := 17
def n_slices_Contains_string_string : Nat := 88
def n_slices_IndexFunc_strata_Edge_strata_Edge : Nat := 33
def n_slices_Index_string_string : Nat := 99
def n_strata_Levels : Nat := 9
def n_strata_Levels_1 : Nat := 16
def n_token_Key : Nat := 63
def g_token_keys : Nat := 0
def g_bytealg_MaxLen : Nat := 1
/-! doormanlaw10_StrataLevels -/
def doormanlaw10_StrataLevels_r0 : List AStep := [⟨(some 4), (.mov (.con (.bool false))), none⟩]
def doormanlaw10_StrataLevels_r1 : List AStep := [⟨(some 14), (.call (.con (.func n_doormanlaw10_awake [])) []), none⟩, ⟨(some 5), (.mov (.tmp 14)), none⟩]
def doormanlaw10_StrataLevels_r2 : List AStep := [⟨(some 15), (.mov (.tmp 5)), none⟩, ⟨(some 16), (.not (.tmp 15)), none⟩]
def doormanlaw10_StrataLevels_r3 : List AStep := [⟨(some 4), (.mov (.con (.bool false))), none⟩]
def doormanlaw10_StrataLevels_r4 : List AStep := [⟨(some 17), (.mov (.tmp 0)), none⟩, ⟨(some 18), (.cvInt .i64 (.tmp 17)), none⟩, ⟨(some 19), (.bin .rem (.tmp 18) (.con (.int .i64 16))), none⟩, ⟨(some 6), (.mov (.tmp 19)), none⟩]
def doormanlaw10_StrataLevels_r5 : List AStep := [⟨(some 20), (.mov (.tmp 1)), none⟩, ⟨(some 21), (.len (.tmp 20)), none⟩, ⟨(some 22), (.bin .gtr (.tmp 21) (.con (.int .i64 60))), none⟩]
def doormanlaw10_StrataLevels_r6 : List AStep := [⟨(some 4), (.mov (.con (.bool true))), none⟩]
def doormanlaw10_StrataLevels_r7 : List AStep := [⟨(some 24), (.mov (.tmp 6)), none⟩, ⟨(some 25), (.mov (.tmp 1)), none⟩, ⟨(some 26), (.call (.con (.func n_strata_Levels [])) [(.tmp 24), (.tmp 25)]), none⟩, ⟨(some 23), (.mov (.tmp 26)), none⟩, ⟨(some 27), (.extract (.tmp 23) 0), none⟩, ⟨(some 28), (.extract (.tmp 23) 1), none⟩, ⟨(some 7), (.mov (.tmp 27)), none⟩, ⟨(some 8), (.mov (.tmp 28)), none⟩]
def doormanlaw10_StrataLevels_r8 : List AStep := [⟨(some 29), (.mov (.tmp 1)), none⟩, ⟨(some 30), (.call (.con (.func n_doormanlaw10_edges [])) [(.tmp 29)]), none⟩, ⟨(some 9), (.mov (.tmp 30)), none⟩]
def doormanlaw10_StrataLevels_r9 : List AStep := [⟨(some 10), (.mov (.con (.int .i64 0))), none⟩]
def doormanlaw10_StrataLevels_r10 : List AStep := [⟨(some 31), (.mov (.tmp 10)), none⟩, ⟨(some 32), (.mov (.tmp 9)), none⟩, ⟨(some 33), (.len (.tmp 32)), none⟩, ⟨(some 34), (.bin .lss (.tmp 31) (.tmp 33)), none⟩]
def doormanlaw10_StrataLevels_r11 : List AStep := [⟨(some 37), (.mov (.tmp 9)), none⟩, ⟨(some 38), (.mov (.tmp 10)), none⟩, ⟨(some 39), (.indexAddr 3 (.tmp 37) (.tmp 38)), none⟩, ⟨(some 40), (.fieldAddr 0 (.tmp 39)), none⟩, ⟨(some 41), (.load false 1 (.tmp 40)), none⟩, ⟨(some 42), (.bin .lss (.tmp 41) (.con (.int .i64 0))), none⟩, ⟨(some 43), (.mov (.tmp 42)), none⟩, ⟨(some 44), (.mov (.tmp 9)), (some (43, false))⟩, ⟨(some 45), (.mov (.tmp 10)), (some (43, false))⟩, ⟨(some 46), (.indexAddr 3 (.tmp 44) (.tmp 45)), (some (43, false))⟩, ⟨(some 47), (.fieldAddr 0 (.tmp 46)), (some (43, false))⟩, ⟨(some 48), (.load false 1 (.tmp 47)), (some (43, false))⟩, ⟨(some 49), (.mov (.tmp 6)), (some (43, false))⟩, ⟨(some 50), (.bin .geq (.tmp 48) (.tmp 49)), (some (43, false))⟩, ⟨(some 51), (.pick (.tmp 43) (.con (.bool true)) (.tmp 50)), none⟩, ⟨(some 52), (.mov (.tmp 51)), none⟩, ⟨(some 53), (.mov (.tmp 9)), (some (52, false))⟩, ⟨(some 54), (.mov (.tmp 10)), (some (52, false))⟩, ⟨(some 55), (.indexAddr 3 (.tmp 53) (.tmp 54)), (some (52, false))⟩, ⟨(some 56), (.fieldAddr 1 (.tmp 55)), (some (52, false))⟩, ⟨(some 57), (.load false 1 (.tmp 56)), (some (52, false))⟩, ⟨(some 58), (.bin .lss (.tmp 57) (.con (.int .i64 0))), (some (52, false))⟩, ⟨(some 59), (.pick (.tmp 52) (.con (.bool true)) (.tmp 58)), none⟩, ⟨(some 60), (.mov (.tmp 59)), none⟩, ⟨(some 61), (.mov (.tmp 9)), (some (60, false))⟩, ⟨(some 62), (.mov (.tmp 10)), (some (60, false))⟩, ⟨(some 63), (.indexAddr 3 (.tmp 61) (.tmp 62)), (some (60, false))⟩, ⟨(some 64), (.fieldAddr 1 (.tmp 63)), (some (60, false))⟩, ⟨(some 65), (.load false 1 (.tmp 64)), (some (60, false))⟩, ⟨(some 66), (.mov (.tmp 6)), (some (60, false))⟩, ⟨(some 67), (.bin .geq (.tmp 65) (.tmp 66)), (some (60, false))⟩, ⟨(some 68), (.pick (.tmp 60) (.con (.bool true)) (.tmp 67)), none⟩]
def doormanlaw10_StrataLevels_r12 : List AStep := [⟨(some 69), (.mov (.tmp 8)), none⟩, ⟨(some 70), (.bin .eql (.tmp 69) (.con (.int .i64 1))), none⟩, ⟨(some 71), (.mov (.tmp 70)), none⟩, ⟨(some 72), (.mov (.tmp 7)), (some (71, true))⟩, ⟨(some 73), (.len (.tmp 72)), (some (71, true))⟩, ⟨(some 74), (.bin .eql (.tmp 73) (.con (.int .i64 0))), (some (71, true))⟩, ⟨(some 75), (.pick (.tmp 71) (.tmp 74) (.con (.bool false))), none⟩, ⟨(some 4), (.mov (.tmp 75)), none⟩]
def doormanlaw10_StrataLevels_r13 : List AStep := [⟨(some 35), (.mov (.tmp 10)), none⟩, ⟨(some 36), (.bin .add (.tmp 35) (.con (.int .i64 1))), none⟩, ⟨(some 10), (.mov (.tmp 36)), none⟩]
def doormanlaw10_StrataLevels_l14 : ACode := (.seq (.seq (.ops doormanlaw10_StrataLevels_r10) (.cond (.tmp 34) .skip (.exit 0))) (.seq (.block 1 (.seq (.ops doormanlaw10_StrataLevels_r11) (.cond (.tmp 68) (.seq (.ops doormanlaw10_StrataLevels_r12) .ret) .skip))) (.ops doormanlaw10_StrataLevels_r13)))
def doormanlaw10_StrataLevels_r15 : List AStep := [⟨(some 76), (.mov (.tmp 6)), none⟩, ⟨(some 77), (.mov (.tmp 9)), none⟩, ⟨(some 78), (.call (.con (.func n_doormanref10_Cycle [])) [(.tmp 76), (.tmp 77)]), none⟩, ⟨(some 11), (.mov (.tmp 78)), none⟩]
def doormanlaw10_StrataLevels_r16 : List AStep := [⟨(some 79), (.mov (.tmp 11)), none⟩]
def doormanlaw10_StrataLevels_r17 : List AStep := [⟨(some 80), (.mov (.tmp 8)), none⟩, ⟨(some 81), (.bin .eql (.tmp 80) (.con (.int .i64 33))), none⟩, ⟨(some 82), (.mov (.tmp 81)), none⟩, ⟨(some 83), (.mov (.tmp 7)), (some (82, true))⟩, ⟨(some 84), (.len (.tmp 83)), (some (82, true))⟩, ⟨(some 85), (.bin .eql (.tmp 84) (.con (.int .i64 0))), (some (82, true))⟩, ⟨(some 86), (.pick (.tmp 82) (.tmp 85) (.con (.bool false))), none⟩, ⟨(some 4), (.mov (.tmp 86)), none⟩]
def doormanlaw10_StrataLevels_r18 : List AStep := [⟨(some 87), (.mov (.tmp 6)), none⟩, ⟨(some 88), (.mov (.tmp 9)), none⟩, ⟨(some 89), (.call (.con (.func n_doormanref10_Levels [])) [(.tmp 87), (.tmp 88)]), none⟩, ⟨(some 12), (.mov (.tmp 89)), none⟩]
def doormanlaw10_StrataLevels_r19 : List AStep := [⟨(some 90), (.mov (.tmp 8)), none⟩, ⟨(some 91), (.bin .neq (.tmp 90) (.con (.int .i64 0))), none⟩, ⟨(some 92), (.mov (.tmp 91)), none⟩, ⟨(some 93), (.mov (.tmp 7)), (some (92, false))⟩, ⟨(some 94), (.len (.tmp 93)), (some (92, false))⟩, ⟨(some 95), (.mov (.tmp 6)), (some (92, false))⟩, ⟨(some 96), (.bin .neq (.tmp 94) (.tmp 95)), (some (92, false))⟩, ⟨(some 97), (.pick (.tmp 92) (.con (.bool true)) (.tmp 96)), none⟩]
def doormanlaw10_StrataLevels_r20 : List AStep := [⟨(some 4), (.mov (.con (.bool false))), none⟩]
def doormanlaw10_StrataLevels_r21 : List AStep := [⟨(some 13), (.mov (.con (.int .i64 0))), none⟩]
def doormanlaw10_StrataLevels_r22 : List AStep := [⟨(some 98), (.mov (.tmp 13)), none⟩, ⟨(some 99), (.mov (.tmp 6)), none⟩, ⟨(some 100), (.bin .lss (.tmp 98) (.tmp 99)), none⟩]
def doormanlaw10_StrataLevels_r23 : List DStep := [⟨0, 0, ⟨(some 103), (.mov (.tmp 7)), none⟩⟩, ⟨1, 0, ⟨(some 104), (.mov (.tmp 13)), none⟩⟩, ⟨2, 3, ⟨(some 105), (.indexAddr 1 (.tmp 103) (.tmp 104)), none⟩⟩, ⟨3, 7, ⟨(some 106), (.load false 1 (.tmp 105)), none⟩⟩, ⟨4, 0, ⟨(some 107), (.mov (.tmp 12)), none⟩⟩, ⟨5, 0, ⟨(some 108), (.mov (.tmp 13)), none⟩⟩, ⟨6, 48, ⟨(some 109), (.indexAddr 1 (.tmp 107) (.tmp 108)), none⟩⟩, ⟨7, 112, ⟨(some 110), (.load false 1 (.tmp 109)), none⟩⟩, ⟨8, 255, ⟨(some 111), (.bin .neq (.tmp 106) (.tmp 110)), none⟩⟩]
def doormanlaw10_StrataLevels_r24 : List AStep := [⟨(some 4), (.mov (.con (.bool false))), none⟩]
def doormanlaw10_StrataLevels_r25 : List AStep := [⟨(some 101), (.mov (.tmp 13)), none⟩, ⟨(some 102), (.bin .add (.tmp 101) (.con (.int .i64 1))), none⟩, ⟨(some 13), (.mov (.tmp 102)), none⟩]
def doormanlaw10_StrataLevels_l26 : ACode := (.seq (.seq (.ops doormanlaw10_StrataLevels_r22) (.cond (.tmp 100) .skip (.exit 2))) (.seq (.block 3 (.seq (.draw doormanlaw10_StrataLevels_r23) (.cond (.tmp 111) (.seq (.ops doormanlaw10_StrataLevels_r24) .ret) .skip))) (.ops doormanlaw10_StrataLevels_r25)))
def doormanlaw10_StrataLevels_r27 : List AStep := [⟨(some 4), (.mov (.con (.bool true))), none⟩]
def doormanlaw10_StrataLevels_c : ACode := (.seq (.ops doormanlaw10_StrataLevels_r0) (.seq (.ops doormanlaw10_StrataLevels_r1) (.seq (.seq (.ops doormanlaw10_StrataLevels_r2) (.cond (.tmp 16) (.seq (.ops doormanlaw10_StrataLevels_r3) .ret) .skip)) (.seq (.ops doormanlaw10_StrataLevels_r4) (.seq (.seq (.ops doormanlaw10_StrataLevels_r5) (.cond (.tmp 22) (.seq (.ops doormanlaw10_StrataLevels_r6) .ret) .skip)) (.seq (.ops doormanlaw10_StrataLevels_r7) (.seq (.ops doormanlaw10_StrataLevels_r8) (.seq (.seq (.ops doormanlaw10_StrataLevels_r9) (.block 0 (.loop doormanlaw10_StrataLevels_l14))) (.seq (.ops doormanlaw10_StrataLevels_r15) (.seq (.seq (.ops doormanlaw10_StrataLevels_r16) (.cond (.tmp 79) (.seq (.ops doormanlaw10_StrataLevels_r17) .ret) .skip)) (.seq (.ops doormanlaw10_StrataLevels_r18) (.seq (.seq (.ops doormanlaw10_StrataLevels_r19) (.cond (.tmp 97) (.seq (.ops doormanlaw10_StrataLevels_r20) .ret) .skip)) (.seq (.seq (.ops doormanlaw10_StrataLevels_r21) (.block 2 (.loop doormanlaw10_StrataLevels_l26))) (.seq (.ops doormanlaw10_StrataLevels_r27) .ret))))))))))))))
def doormanlaw10_StrataLevels_a : AFunc := ⟨112, [(.tmp 4)], doormanlaw10_StrataLevels_c⟩
/-! strata_Levels -/
def strata_Levels_r0 : List AStep := [⟨(some 2), (.box (.tmp 0)), none⟩, ⟨(some 4), (.mov (.con .nils)), none⟩, ⟨(some 5), (.mov (.con (.int .i64 0))), none⟩]
def strata_Levels_r1 : List AStep := [⟨(some 12), (.makeFunc n_strata_Levels_1 [(.tmp 2)]), none⟩, ⟨(some 6), (.mov (.tmp 12)), none⟩]
def strata_Levels_r2 : List AStep := [⟨(some 13), (.load false 1 (.tmp 2)), none⟩, ⟨(some 14), (.bin .lss (.tmp 13) (.con (.int .i64 0))), none⟩, ⟨(some 15), (.mov (.tmp 14)), none⟩, ⟨(some 16), (.load false 1 (.tmp 2)), (some (15, false))⟩, ⟨(some 17), (.bin .gtr (.tmp 16) (.con (.int .i64 4096))), (some (15, false))⟩, ⟨(some 18), (.pick (.tmp 15) (.con (.bool true)) (.tmp 17)), none⟩, ⟨(some 19), (.mov (.tmp 18)), none⟩, ⟨(some 20), (.mov (.tmp 1)), (some (19, false))⟩, ⟨(some 21), (.mov (.tmp 6)), (some (19, false))⟩, ⟨(some 22), (.call (.con (.func n_slices_ContainsFunc_strata_Edge_strata_Edge [])) [(.tmp 20), (.tmp 21)]), (some (19, false))⟩, ⟨(some 23), (.pick (.tmp 19) (.con (.bool true)) (.tmp 22)), none⟩]
def strata_Levels_r3 : List AStep := [⟨(some 4), (.mov (.con .nils)), none⟩, ⟨(some 5), (.mov (.con (.int .i64 1))), none⟩]
def strata_Levels_r4 : List AStep := [⟨(some 24), (.load false 1 (.tmp 2)), none⟩, ⟨(some 25), (.makeSlice 1 8 [(.int .i64 0)] (.tmp 24) (.tmp 24)), none⟩, ⟨(some 7), (.mov (.tmp 25)), none⟩]
def strata_Levels_r5 : List AStep := [⟨(some 8), (.mov (.con (.bool true))), none⟩]
def strata_Levels_r6 : List AStep := [⟨(some 26), (.mov (.tmp 8)), none⟩]
def strata_Levels_r7 : List AStep := [⟨(some 8), (.mov (.con (.bool false))), none⟩]
def strata_Levels_r8 : List AStep := [⟨(some 27), (.mov (.tmp 1)), none⟩, ⟨(some 28), (.len (.tmp 27)), none⟩, ⟨(some 29), (.mov (.con (.int .i64 0))), none⟩]
def strata_Levels_r9 : List AStep := [⟨(some 30), (.bin .lss (.tmp 29) (.tmp 28)), none⟩]
def strata_Levels_r10 : List AStep := [⟨(some 31), (.indexAddr 3 (.tmp 27) (.tmp 29)), none⟩, ⟨(some 32), (.load true 3 (.tmp 31)), none⟩, ⟨(some 10), (.alloc [(.int .i64 0), (.int .i64 0), (.bool false)]), none⟩, ⟨none, (.store 3 (.tmp 10) (.tmp 32)), none⟩]
def strata_Levels_r11 : List AStep := [⟨(some 33), (.mov (.tmp 7)), none⟩, ⟨(some 34), (.fieldAddr 1 (.tmp 10)), none⟩, ⟨(some 35), (.load false 1 (.tmp 34)), none⟩, ⟨(some 36), (.indexAddr 1 (.tmp 33) (.tmp 35)), none⟩, ⟨(some 37), (.load false 1 (.tmp 36)), none⟩, ⟨(some 11), (.mov (.tmp 37)), none⟩]
def strata_Levels_r12 : List AStep := [⟨(some 38), (.fieldAddr 2 (.tmp 10)), none⟩, ⟨(some 39), (.load false 1 (.tmp 38)), none⟩]
def strata_Levels_r13 : List AStep := [⟨(some 40), (.mov (.tmp 11)), none⟩, ⟨(some 41), (.bin .add (.tmp 40) (.con (.int .i64 1))), none⟩, ⟨(some 11), (.mov (.tmp 41)), none⟩]
def strata_Levels_r14 : List AStep := [⟨(some 42), (.mov (.tmp 7)), none⟩, ⟨(some 43), (.fieldAddr 0 (.tmp 10)), none⟩, ⟨(some 44), (.load false 1 (.tmp 43)), none⟩, ⟨(some 45), (.indexAddr 1 (.tmp 42) (.tmp 44)), none⟩, ⟨(some 46), (.load false 1 (.tmp 45)), none⟩, ⟨(some 47), (.mov (.tmp 11)), none⟩, ⟨(some 48), (.bin .lss (.tmp 46) (.tmp 47)), none⟩]
def strata_Levels_r15 : List AStep := [⟨(some 49), (.mov (.tmp 7)), none⟩, ⟨(some 50), (.fieldAddr 0 (.tmp 10)), none⟩, ⟨(some 51), (.load false 1 (.tmp 50)), none⟩, ⟨(some 52), (.mov (.tmp 11)), none⟩, ⟨(some 53), (.indexAddr 1 (.tmp 49) (.tmp 51)), none⟩, ⟨none, (.store 1 (.tmp 53) (.tmp 52)), none⟩]
def strata_Levels_r16 : List AStep := [⟨(some 8), (.mov (.con (.bool true))), none⟩]
def strata_Levels_r17 : List AStep := [⟨(some 54), (.mov (.tmp 11)), none⟩, ⟨(some 55), (.load false 1 (.tmp 2)), none⟩, ⟨(some 56), (.bin .gtr (.tmp 54) (.tmp 55)), none⟩]
def strata_Levels_r18 : List AStep := [⟨(some 4), (.mov (.con .nils)), none⟩, ⟨(some 5), (.mov (.con (.int .i64 33))), none⟩]
def strata_Levels_r19 : List AStep := [⟨(some 57), (.bin .add (.tmp 29) (.con (.int .i64 1))), none⟩, ⟨(some 29), (.mov (.tmp 57)), none⟩]
def strata_Levels_l20 : ACode := (.seq (.ops strata_Levels_r9) (.seq (.cond (.tmp 30) .skip (.exit 2)) (.seq (.block 3 (.seq (.ops strata_Levels_r10) (.seq (.ops strata_Levels_r11) (.seq (.seq (.ops strata_Levels_r12) (.cond (.tmp 39) (.ops strata_Levels_r13) .skip)) (.seq (.seq (.ops strata_Levels_r14) (.cond (.tmp 48) (.seq (.ops strata_Levels_r15) (.ops strata_Levels_r16)) .skip)) (.seq (.ops strata_Levels_r17) (.cond (.tmp 56) (.seq (.ops strata_Levels_r18) .ret) .skip))))))) (.ops strata_Levels_r19))))
def strata_Levels_l21 : ACode := (.seq (.seq (.ops strata_Levels_r6) (.cond (.tmp 26) .skip (.exit 0))) (.block 1 (.seq (.ops strata_Levels_r7) (.seq (.ops strata_Levels_r8) (.block 2 (.loop strata_Levels_l20))))))
def strata_Levels_r22 : List AStep := [⟨(some 58), (.mov (.tmp 7)), none⟩, ⟨(some 4), (.mov (.tmp 58)), none⟩, ⟨(some 5), (.mov (.con (.int .i64 0))), none⟩]
def strata_Levels_c : ACode := (.seq (.ops strata_Levels_r0) (.seq (.ops strata_Levels_r1) (.seq (.seq (.ops strata_Levels_r2) (.cond (.tmp 23) (.seq (.ops strata_Levels_r3) .ret) .skip)) (.seq (.ops strata_Levels_r4) (.seq (.seq (.ops strata_Levels_r5) (.block 0 (.loop strata_Levels_l21))) (.seq (.ops strata_Levels_r22) .ret))))))
def strata_Levels_a : AFunc := ⟨59, [(.tmp 4), (.tmp 5)], strata_Levels_c⟩
/-! doormanlaw10_edges -/
def doormanlaw10_edges_r0 : List AStep := [⟨(some 2), (.mov (.con .nils)), none⟩]
def doormanlaw10_edges_r1 : List AStep := [⟨(some 3), (.mov (.con .nils)), none⟩]
def doormanlaw10_edges_r2 : List AStep := [⟨(some 4), (.mov (.con (.int .i64 0))), none⟩]
def doormanlaw10_edges_r3 : List AStep := [⟨(some 5), (.mov (.tmp 4)), none⟩, ⟨(some 6), (.mov (.tmp 0)), none⟩, ⟨(some 7), (.len (.tmp 6)), none⟩, ⟨(some 8), (.bin .lss (.tmp 5) (.tmp 7)), none⟩]
def doormanlaw10_edges_r4 : List DStep := [⟨0, 0, ⟨(some 11), (.mov (.tmp 3)), none⟩⟩, ⟨1, 0, ⟨(some 12), (.mov (.tmp 0)), none⟩⟩, ⟨2, 0, ⟨(some 13), (.mov (.tmp 4)), none⟩⟩, ⟨3, 6, ⟨(some 14), (.indexAddr 3 (.tmp 12) (.tmp 13)), none⟩⟩, ⟨4, 14, ⟨(some 15), (.fieldAddr 0 (.tmp 14)), none⟩⟩, ⟨5, 30, ⟨(some 16), (.load false 1 (.tmp 15)), none⟩⟩, ⟨6, 0, ⟨(some 17), (.mov (.tmp 0)), none⟩⟩, ⟨7, 0, ⟨(some 18), (.mov (.tmp 4)), none⟩⟩, ⟨8, 192, ⟨(some 19), (.indexAddr 3 (.tmp 17) (.tmp 18)), none⟩⟩, ⟨9, 448, ⟨(some 20), (.fieldAddr 1 (.tmp 19)), none⟩⟩, ⟨10, 960, ⟨(some 21), (.load false 1 (.tmp 20)), none⟩⟩, ⟨11, 0, ⟨(some 22), (.mov (.tmp 0)), none⟩⟩, ⟨12, 0, ⟨(some 23), (.mov (.tmp 4)), none⟩⟩, ⟨13, 6144, ⟨(some 24), (.indexAddr 3 (.tmp 22) (.tmp 23)), none⟩⟩, ⟨14, 14336, ⟨(some 25), (.fieldAddr 2 (.tmp 24)), none⟩⟩, ⟨15, 30720, ⟨(some 26), (.load false 1 (.tmp 25)), none⟩⟩, ⟨16, 65534, ⟨(some 27), (.build [(.int .i64 0), (.int .i64 0), (.bool false)] [(0, (1, (.tmp 16))), (1, (1, (.tmp 21))), (2, (1, (.tmp 26)))]), none⟩⟩, ⟨17, 131070, ⟨(some 28), (.buildSlice 3 1 [(.int .i64 0), (.int .i64 0), (.bool false)] [(0, (3, (.tmp 27)))]), none⟩⟩, ⟨18, 262143, ⟨(some 29), (.append 3 (.tmp 11) (.tmp 28)), none⟩⟩, ⟨19, 524287, ⟨(some 3), (.mov (.tmp 29)), none⟩⟩]
def doormanlaw10_edges_r5 : List AStep := [⟨(some 9), (.mov (.tmp 4)), none⟩, ⟨(some 10), (.bin .add (.tmp 9) (.con (.int .i64 1))), none⟩, ⟨(some 4), (.mov (.tmp 10)), none⟩]
def doormanlaw10_edges_l6 : ACode := (.seq (.seq (.ops doormanlaw10_edges_r3) (.cond (.tmp 8) .skip (.exit 0))) (.seq (.block 1 (.draw doormanlaw10_edges_r4)) (.ops doormanlaw10_edges_r5)))
def doormanlaw10_edges_r7 : List AStep := [⟨(some 30), (.mov (.tmp 3)), none⟩, ⟨(some 2), (.mov (.tmp 30)), none⟩]
def doormanlaw10_edges_c : ACode := (.seq (.ops doormanlaw10_edges_r0) (.seq (.ops doormanlaw10_edges_r1) (.seq (.seq (.ops doormanlaw10_edges_r2) (.block 0 (.loop doormanlaw10_edges_l6))) (.seq (.ops doormanlaw10_edges_r7) .ret))))
def doormanlaw10_edges_a : AFunc := ⟨31, [(.tmp 2)], doormanlaw10_edges_c⟩
/-! doormanref10_Cycle -/
def doormanref10_Cycle_r0 : List AStep := [⟨(some 4), (.mov (.con (.bool false))), none⟩]
def doormanref10_Cycle_r1 : List AStep := [⟨(some 7), (.mov (.tmp 0)), none⟩, ⟨(some 8), (.mov (.tmp 1)), none⟩, ⟨(some 9), (.call (.con (.func n_doormanref10_ways [])) [(.tmp 7), (.tmp 8)]), none⟩, ⟨(some 5), (.mov (.tmp 9)), none⟩]
def doormanref10_Cycle_r2 : List AStep := [⟨(some 6), (.mov (.con (.int .i64 0))), none⟩]
def doormanref10_Cycle_r3 : List AStep := [⟨(some 10), (.mov (.tmp 6)), none⟩, ⟨(some 11), (.mov (.tmp 1)), none⟩, ⟨(some 12), (.len (.tmp 11)), none⟩, ⟨(some 13), (.bin .lss (.tmp 10) (.tmp 12)), none⟩]
def doormanref10_Cycle_r4 : List DStep := [⟨0, 0, ⟨(some 16), (.mov (.tmp 1)), none⟩⟩, ⟨1, 0, ⟨(some 17), (.mov (.tmp 6)), none⟩⟩, ⟨2, 3, ⟨(some 18), (.indexAddr 3 (.tmp 16) (.tmp 17)), none⟩⟩, ⟨3, 7, ⟨(some 19), (.fieldAddr 2 (.tmp 18)), none⟩⟩, ⟨4, 15, ⟨(some 20), (.load false 1 (.tmp 19)), none⟩⟩, ⟨5, 31, ⟨(some 21), (.mov (.tmp 20)), none⟩⟩, ⟨6, 63, ⟨(some 22), (.mov (.tmp 1)), (some (21, true))⟩⟩, ⟨7, 63, ⟨(some 23), (.mov (.tmp 6)), (some (21, true))⟩⟩, ⟨8, 255, ⟨(some 24), (.indexAddr 3 (.tmp 22) (.tmp 23)), (some (21, true))⟩⟩, ⟨9, 511, ⟨(some 25), (.fieldAddr 0 (.tmp 24)), (some (21, true))⟩⟩, ⟨10, 1023, ⟨(some 26), (.load false 1 (.tmp 25)), (some (21, true))⟩⟩, ⟨11, 63, ⟨(some 27), (.mov (.tmp 1)), (some (21, true))⟩⟩, ⟨12, 63, ⟨(some 28), (.mov (.tmp 6)), (some (21, true))⟩⟩, ⟨13, 6207, ⟨(some 29), (.indexAddr 3 (.tmp 27) (.tmp 28)), (some (21, true))⟩⟩, ⟨14, 14399, ⟨(some 30), (.fieldAddr 1 (.tmp 29)), (some (21, true))⟩⟩, ⟨15, 30783, ⟨(some 31), (.load false 1 (.tmp 30)), (some (21, true))⟩⟩, ⟨16, 65535, ⟨(some 32), (.bin .eql (.tmp 26) (.tmp 31)), (some (21, true))⟩⟩, ⟨17, 131071, ⟨(some 33), (.mov (.tmp 32)), (some (21, true))⟩⟩, ⟨18, 262143, ⟨(some 34), (.mov (.tmp 5)), (some (33, false))⟩⟩, ⟨19, 262143, ⟨(some 35), (.mov (.tmp 1)), (some (33, false))⟩⟩, ⟨20, 262143, ⟨(some 36), (.mov (.tmp 6)), (some (33, false))⟩⟩, ⟨21, 1835007, ⟨(some 37), (.indexAddr 3 (.tmp 35) (.tmp 36)), (some (33, false))⟩⟩, ⟨22, 3932159, ⟨(some 38), (.fieldAddr 1 (.tmp 37)), (some (33, false))⟩⟩, ⟨23, 8126463, ⟨(some 39), (.load false 1 (.tmp 38)), (some (33, false))⟩⟩, ⟨24, 16777215, ⟨(some 40), (.indexAddr 1 (.tmp 34) (.tmp 39)), (some (33, false))⟩⟩, ⟨25, 33554431, ⟨(some 41), (.load false 1 (.tmp 40)), (some (33, false))⟩⟩, ⟨26, 262143, ⟨(some 42), (.mov (.tmp 1)), (some (33, false))⟩⟩, ⟨27, 262143, ⟨(some 43), (.mov (.tmp 6)), (some (33, false))⟩⟩, ⟨28, 201588735, ⟨(some 44), (.indexAddr 3 (.tmp 42) (.tmp 43)), (some (33, false))⟩⟩, ⟨29, 470024191, ⟨(some 45), (.fieldAddr 0 (.tmp 44)), (some (33, false))⟩⟩, ⟨30, 1006895103, ⟨(some 46), (.load false 1 (.tmp 45)), (some (33, false))⟩⟩, ⟨31, 2147483647, ⟨(some 47), (.indexAddr 1 (.tmp 41) (.tmp 46)), (some (33, false))⟩⟩, ⟨32, 4294967295, ⟨(some 48), (.load false 1 (.tmp 47)), (some (33, false))⟩⟩, ⟨33, 8589934591, ⟨(some 49), (.pick (.tmp 33) (.con (.bool true)) (.tmp 48)), (some (21, true))⟩⟩, ⟨34, 17179869183, ⟨(some 50), (.pick (.tmp 21) (.tmp 49) (.con (.bool false))), none⟩⟩]
def doormanref10_Cycle_r5 : List AStep := [⟨(some 4), (.mov (.con (.bool true))), none⟩]
def doormanref10_Cycle_r6 : List AStep := [⟨(some 14), (.mov (.tmp 6)), none⟩, ⟨(some 15), (.bin .add (.tmp 14) (.con (.int .i64 1))), none⟩, ⟨(some 6), (.mov (.tmp 15)), none⟩]
def doormanref10_Cycle_l7 : ACode := (.seq (.seq (.ops doormanref10_Cycle_r3) (.cond (.tmp 13) .skip (.exit 0))) (.seq (.block 1 (.seq (.draw doormanref10_Cycle_r4) (.cond (.tmp 50) (.seq (.ops doormanref10_Cycle_r5) .ret) .skip))) (.ops doormanref10_Cycle_r6)))
def doormanref10_Cycle_r8 : List AStep := [⟨(some 4), (.mov (.con (.bool false))), none⟩]
def doormanref10_Cycle_c : ACode := (.seq (.ops doormanref10_Cycle_r0) (.seq (.ops doormanref10_Cycle_r1) (.seq (.seq (.ops doormanref10_Cycle_r2) (.block 0 (.loop doormanref10_Cycle_l7))) (.seq (.ops doormanref10_Cycle_r8) .ret))))
def doormanref10_Cycle_a : AFunc := ⟨51, [(.tmp 4)], doormanref10_Cycle_c⟩
/-! doormanref10_Levels -/
def doormanref10_Levels_r0 : List AStep := [⟨(some 4), (.mov (.con .nils)), none⟩]
def doormanref10_Levels_r1 : List AStep := [⟨(some 11), (.mov (.tmp 0)), none⟩, ⟨(some 12), (.makeSlice 1 8 [(.int .i64 0)] (.tmp 11) (.tmp 11)), none⟩, ⟨(some 5), (.mov (.tmp 12)), none⟩]
def doormanref10_Levels_r2 : List AStep := [⟨(some 6), (.mov (.con (.int .i64 0))), none⟩]
def doormanref10_Levels_r3 : List AStep := [⟨(some 13), (.mov (.tmp 6)), none⟩, ⟨(some 14), (.mov (.tmp 0)), none⟩, ⟨(some 15), (.bin .leq (.tmp 13) (.tmp 14)), none⟩]
def doormanref10_Levels_r4 : List AStep := [⟨(some 18), (.mov (.tmp 0)), none⟩, ⟨(some 19), (.makeSlice 1 8 [(.int .i64 0)] (.tmp 18) (.tmp 18)), none⟩, ⟨(some 7), (.mov (.tmp 19)), none⟩]
def doormanref10_Levels_r5 : List AStep := [⟨(some 8), (.mov (.con (.int .i64 0))), none⟩]
def doormanref10_Levels_r6 : List AStep := [⟨(some 20), (.mov (.tmp 8)), none⟩, ⟨(some 21), (.mov (.tmp 0)), none⟩, ⟨(some 22), (.bin .lss (.tmp 20) (.tmp 21)), none⟩]
def doormanref10_Levels_r7 : List AStep := [⟨(some 25), (.mov (.tmp 7)), none⟩, ⟨(some 26), (.mov (.tmp 8)), none⟩, ⟨(some 27), (.mov (.tmp 5)), none⟩, ⟨(some 28), (.mov (.tmp 8)), none⟩, ⟨(some 29), (.indexAddr 1 (.tmp 27) (.tmp 28)), none⟩, ⟨(some 30), (.load false 1 (.tmp 29)), none⟩, ⟨(some 31), (.indexAddr 1 (.tmp 25) (.tmp 26)), none⟩, ⟨none, (.store 1 (.tmp 31) (.tmp 30)), none⟩]
def doormanref10_Levels_r8 : List AStep := [⟨(some 23), (.mov (.tmp 8)), none⟩, ⟨(some 24), (.bin .add (.tmp 23) (.con (.int .i64 1))), none⟩, ⟨(some 8), (.mov (.tmp 24)), none⟩]
def doormanref10_Levels_l9 : ACode := (.seq (.seq (.ops doormanref10_Levels_r6) (.cond (.tmp 22) .skip (.exit 2))) (.seq (.block 3 (.ops doormanref10_Levels_r7)) (.ops doormanref10_Levels_r8)))
def doormanref10_Levels_r10 : List AStep := [⟨(some 9), (.mov (.con (.int .i64 0))), none⟩]
def doormanref10_Levels_r11 : List AStep := [⟨(some 32), (.mov (.tmp 9)), none⟩, ⟨(some 33), (.mov (.tmp 1)), none⟩, ⟨(some 34), (.len (.tmp 33)), none⟩, ⟨(some 35), (.bin .lss (.tmp 32) (.tmp 34)), none⟩]
def doormanref10_Levels_r12 : List AStep := [⟨(some 38), (.mov (.tmp 5)), none⟩, ⟨(some 39), (.mov (.tmp 1)), none⟩, ⟨(some 40), (.mov (.tmp 9)), none⟩, ⟨(some 41), (.indexAddr 3 (.tmp 39) (.tmp 40)), none⟩, ⟨(some 42), (.fieldAddr 1 (.tmp 41)), none⟩, ⟨(some 43), (.load false 1 (.tmp 42)), none⟩, ⟨(some 44), (.indexAddr 1 (.tmp 38) (.tmp 43)), none⟩, ⟨(some 45), (.load false 1 (.tmp 44)), none⟩, ⟨(some 10), (.mov (.tmp 45)), none⟩]
def doormanref10_Levels_r13 : List AStep := [⟨(some 46), (.mov (.tmp 1)), none⟩, ⟨(some 47), (.mov (.tmp 9)), none⟩, ⟨(some 48), (.indexAddr 3 (.tmp 46) (.tmp 47)), none⟩, ⟨(some 49), (.fieldAddr 2 (.tmp 48)), none⟩, ⟨(some 50), (.load false 1 (.tmp 49)), none⟩]
def doormanref10_Levels_r14 : List AStep := [⟨(some 51), (.mov (.tmp 10)), none⟩, ⟨(some 52), (.bin .add (.tmp 51) (.con (.int .i64 1))), none⟩, ⟨(some 10), (.mov (.tmp 52)), none⟩]
def doormanref10_Levels_r15 : List AStep := [⟨(some 53), (.mov (.tmp 10)), none⟩, ⟨(some 54), (.mov (.tmp 7)), none⟩, ⟨(some 55), (.mov (.tmp 1)), none⟩, ⟨(some 56), (.mov (.tmp 9)), none⟩, ⟨(some 57), (.indexAddr 3 (.tmp 55) (.tmp 56)), none⟩, ⟨(some 58), (.fieldAddr 0 (.tmp 57)), none⟩, ⟨(some 59), (.load false 1 (.tmp 58)), none⟩, ⟨(some 60), (.indexAddr 1 (.tmp 54) (.tmp 59)), none⟩, ⟨(some 61), (.load false 1 (.tmp 60)), none⟩, ⟨(some 62), (.bin .gtr (.tmp 53) (.tmp 61)), none⟩]
def doormanref10_Levels_r16 : List AStep := [⟨(some 63), (.mov (.tmp 7)), none⟩, ⟨(some 64), (.mov (.tmp 1)), none⟩, ⟨(some 65), (.mov (.tmp 9)), none⟩, ⟨(some 66), (.indexAddr 3 (.tmp 64) (.tmp 65)), none⟩, ⟨(some 67), (.fieldAddr 0 (.tmp 66)), none⟩, ⟨(some 68), (.load false 1 (.tmp 67)), none⟩, ⟨(some 69), (.mov (.tmp 10)), none⟩, ⟨(some 70), (.indexAddr 1 (.tmp 63) (.tmp 68)), none⟩, ⟨none, (.store 1 (.tmp 70) (.tmp 69)), none⟩]
def doormanref10_Levels_r17 : List AStep := [⟨(some 36), (.mov (.tmp 9)), none⟩, ⟨(some 37), (.bin .add (.tmp 36) (.con (.int .i64 1))), none⟩, ⟨(some 9), (.mov (.tmp 37)), none⟩]
def doormanref10_Levels_l18 : ACode := (.seq (.seq (.ops doormanref10_Levels_r11) (.cond (.tmp 35) .skip (.exit 4))) (.seq (.block 5 (.seq (.ops doormanref10_Levels_r12) (.seq (.seq (.ops doormanref10_Levels_r13) (.cond (.tmp 50) (.ops doormanref10_Levels_r14) .skip)) (.seq (.ops doormanref10_Levels_r15) (.cond (.tmp 62) (.ops doormanref10_Levels_r16) .skip))))) (.ops doormanref10_Levels_r17)))
def doormanref10_Levels_r19 : List AStep := [⟨(some 71), (.mov (.tmp 7)), none⟩, ⟨(some 5), (.mov (.tmp 71)), none⟩]
def doormanref10_Levels_r20 : List AStep := [⟨(some 16), (.mov (.tmp 6)), none⟩, ⟨(some 17), (.bin .add (.tmp 16) (.con (.int .i64 1))), none⟩, ⟨(some 6), (.mov (.tmp 17)), none⟩]
def doormanref10_Levels_l21 : ACode := (.seq (.seq (.ops doormanref10_Levels_r3) (.cond (.tmp 15) .skip (.exit 0))) (.seq (.block 1 (.seq (.ops doormanref10_Levels_r4) (.seq (.seq (.ops doormanref10_Levels_r5) (.block 2 (.loop doormanref10_Levels_l9))) (.seq (.seq (.ops doormanref10_Levels_r10) (.block 4 (.loop doormanref10_Levels_l18))) (.ops doormanref10_Levels_r19))))) (.ops doormanref10_Levels_r20)))
def doormanref10_Levels_r22 : List AStep := [⟨(some 72), (.mov (.tmp 5)), none⟩, ⟨(some 4), (.mov (.tmp 72)), none⟩]
def doormanref10_Levels_c : ACode := (.seq (.ops doormanref10_Levels_r0) (.seq (.ops doormanref10_Levels_r1) (.seq (.seq (.ops doormanref10_Levels_r2) (.block 0 (.loop doormanref10_Levels_l21))) (.seq (.ops doormanref10_Levels_r22) .ret))))
def doormanref10_Levels_a : AFunc := ⟨73, [(.tmp 4)], doormanref10_Levels_c⟩
/-! strata_Levels_1 -/
def strata_Levels_1_r0 : List AStep := [⟨(some 2), (.box (.tmp 0)), none⟩, ⟨(some 3), (.mov (.con (.bool false))), none⟩]
def strata_Levels_1_r1 : List AStep := [⟨(some 4), (.fieldAddr 0 (.tmp 2)), none⟩, ⟨(some 5), (.load false 1 (.tmp 4)), none⟩, ⟨(some 6), (.bin .lss (.tmp 5) (.con (.int .i64 0))), none⟩, ⟨(some 7), (.mov (.tmp 6)), none⟩, ⟨(some 8), (.fieldAddr 0 (.tmp 2)), (some (7, false))⟩, ⟨(some 9), (.load false 1 (.tmp 8)), (some (7, false))⟩, ⟨(some 10), (.load false 1 (.tmp 1)), (some (7, false))⟩, ⟨(some 11), (.bin .geq (.tmp 9) (.tmp 10)), (some (7, false))⟩, ⟨(some 12), (.pick (.tmp 7) (.con (.bool true)) (.tmp 11)), none⟩, ⟨(some 13), (.mov (.tmp 12)), none⟩, ⟨(some 14), (.fieldAddr 1 (.tmp 2)), (some (13, false))⟩, ⟨(some 15), (.load false 1 (.tmp 14)), (some (13, false))⟩, ⟨(some 16), (.bin .lss (.tmp 15) (.con (.int .i64 0))), (some (13, false))⟩, ⟨(some 17), (.pick (.tmp 13) (.con (.bool true)) (.tmp 16)), none⟩, ⟨(some 18), (.mov (.tmp 17)), none⟩, ⟨(some 19), (.fieldAddr 1 (.tmp 2)), (some (18, false))⟩, ⟨(some 20), (.load false 1 (.tmp 19)), (some (18, false))⟩, ⟨(some 21), (.load false 1 (.tmp 1)), (some (18, false))⟩, ⟨(some 22), (.bin .geq (.tmp 20) (.tmp 21)), (some (18, false))⟩, ⟨(some 23), (.pick (.tmp 18) (.con (.bool true)) (.tmp 22)), none⟩, ⟨(some 3), (.mov (.tmp 23)), none⟩]
def strata_Levels_1_c : ACode := (.seq (.ops strata_Levels_1_r0) (.seq (.ops strata_Levels_1_r1) .ret))
def strata_Levels_1_a : AFunc := ⟨24, [(.tmp 3)], strata_Levels_1_c⟩
/-! slices_ContainsFunc_strata_Edge_strata_Edge -/
def slices_ContainsFunc_strata_Edge_strata_Edge_r0 : List AStep := [⟨(some 4), (.mov (.con (.bool false))), none⟩]
def slices_ContainsFunc_strata_Edge_strata_Edge_r1 : List AStep := [⟨(some 5), (.mov (.tmp 0)), none⟩, ⟨(some 6), (.mov (.tmp 1)), none⟩, ⟨(some 7), (.call (.con (.func n_slices_IndexFunc_strata_Edge_strata_Edge [])) [(.tmp 5), (.tmp 6)]), none⟩, ⟨(some 8), (.bin .geq (.tmp 7) (.con (.int .i64 0))), none⟩, ⟨(some 4), (.mov (.tmp 8)), none⟩]
def slices_ContainsFunc_strata_Edge_strata_Edge_c : ACode := (.seq (.ops slices_ContainsFunc_strata_Edge_strata_Edge_r0) (.seq (.ops slices_ContainsFunc_strata_Edge_strata_Edge_r1) .ret))
def slices_ContainsFunc_strata_Edge_strata_Edge_a : AFunc := ⟨9, [(.tmp 4)], slices_ContainsFunc_strata_Edge_strata_Edge_c⟩
/-! doormanref10_ways -/
def doormanref10_ways_r0 : List AStep := [⟨(some 4), (.mov (.con .nils)), none⟩]
def doormanref10_ways_r1 : List AStep := [⟨(some 5), (.mov (.con .nils)), none⟩]
def doormanref10_ways_r2 : List AStep := [⟨(some 6), (.mov (.con (.int .i64 0))), none⟩]
def doormanref10_ways_r3 : List AStep := [⟨(some 11), (.mov (.tmp 6)), none⟩, ⟨(some 12), (.mov (.tmp 0)), none⟩, ⟨(some 13), (.bin .lss (.tmp 11) (.tmp 12)), none⟩]
def doormanref10_ways_r4 : List AStep := [⟨(some 16), (.mov (.tmp 5)), none⟩, ⟨(some 17), (.mov (.tmp 0)), none⟩, ⟨(some 18), (.makeSlice 1 1 [(.bool false)] (.tmp 17) (.tmp 17)), none⟩, ⟨(some 19), (.buildSlice 1 1 [.nils] [(0, (1, (.tmp 18)))]), none⟩, ⟨(some 20), (.append 1 (.tmp 16) (.tmp 19)), none⟩, ⟨(some 5), (.mov (.tmp 20)), none⟩]
def doormanref10_ways_r5 : List AStep := [⟨(some 14), (.mov (.tmp 6)), none⟩, ⟨(some 15), (.bin .add (.tmp 14) (.con (.int .i64 1))), none⟩, ⟨(some 6), (.mov (.tmp 15)), none⟩]
def doormanref10_ways_l6 : ACode := (.seq (.seq (.ops doormanref10_ways_r3) (.cond (.tmp 13) .skip (.exit 0))) (.seq (.block 1 (.ops doormanref10_ways_r4)) (.ops doormanref10_ways_r5)))
def doormanref10_ways_r7 : List AStep := [⟨(some 7), (.mov (.con (.int .i64 0))), none⟩]
def doormanref10_ways_r8 : List AStep := [⟨(some 21), (.mov (.tmp 7)), none⟩, ⟨(some 22), (.mov (.tmp 1)), none⟩, ⟨(some 23), (.len (.tmp 22)), none⟩, ⟨(some 24), (.bin .lss (.tmp 21) (.tmp 23)), none⟩]
def doormanref10_ways_r9 : List DStep := [⟨0, 0, ⟨(some 27), (.mov (.tmp 5)), none⟩⟩, ⟨1, 0, ⟨(some 28), (.mov (.tmp 1)), none⟩⟩, ⟨2, 0, ⟨(some 29), (.mov (.tmp 7)), none⟩⟩, ⟨3, 6, ⟨(some 30), (.indexAddr 3 (.tmp 28) (.tmp 29)), none⟩⟩, ⟨4, 14, ⟨(some 31), (.fieldAddr 0 (.tmp 30)), none⟩⟩, ⟨5, 30, ⟨(some 32), (.load false 1 (.tmp 31)), none⟩⟩, ⟨6, 63, ⟨(some 33), (.indexAddr 1 (.tmp 27) (.tmp 32)), none⟩⟩, ⟨7, 127, ⟨(some 34), (.load false 1 (.tmp 33)), none⟩⟩, ⟨8, 0, ⟨(some 35), (.mov (.tmp 1)), none⟩⟩, ⟨9, 0, ⟨(some 36), (.mov (.tmp 7)), none⟩⟩, ⟨10, 768, ⟨(some 37), (.indexAddr 3 (.tmp 35) (.tmp 36)), none⟩⟩, ⟨11, 1792, ⟨(some 38), (.fieldAddr 1 (.tmp 37)), none⟩⟩, ⟨12, 3840, ⟨(some 39), (.load false 1 (.tmp 38)), none⟩⟩, ⟨13, 8191, ⟨(some 40), (.indexAddr 1 (.tmp 34) (.tmp 39)), none⟩⟩, ⟨14, 16383, ⟨none, (.store 1 (.tmp 40) (.con (.bool true))), none⟩⟩]
def doormanref10_ways_r10 : List AStep := [⟨(some 25), (.mov (.tmp 7)), none⟩, ⟨(some 26), (.bin .add (.tmp 25) (.con (.int .i64 1))), none⟩, ⟨(some 7), (.mov (.tmp 26)), none⟩]
def doormanref10_ways_l11 : ACode := (.seq (.seq (.ops doormanref10_ways_r8) (.cond (.tmp 24) .skip (.exit 2))) (.seq (.block 3 (.draw doormanref10_ways_r9)) (.ops doormanref10_ways_r10)))
def doormanref10_ways_r12 : List AStep := [⟨(some 8), (.mov (.con (.int .i64 0))), none⟩]
def doormanref10_ways_r13 : List AStep := [⟨(some 41), (.mov (.tmp 8)), none⟩, ⟨(some 42), (.mov (.tmp 0)), none⟩, ⟨(some 43), (.bin .lss (.tmp 41) (.tmp 42)), none⟩]
def doormanref10_ways_r14 : List AStep := [⟨(some 9), (.mov (.con (.int .i64 0))), none⟩]
def doormanref10_ways_r15 : List AStep := [⟨(some 46), (.mov (.tmp 9)), none⟩, ⟨(some 47), (.mov (.tmp 0)), none⟩, ⟨(some 48), (.bin .lss (.tmp 46) (.tmp 47)), none⟩]
def doormanref10_ways_r16 : List AStep := [⟨(some 10), (.mov (.con (.int .i64 0))), none⟩]
def doormanref10_ways_r17 : List AStep := [⟨(some 51), (.mov (.tmp 10)), none⟩, ⟨(some 52), (.mov (.tmp 0)), none⟩, ⟨(some 53), (.bin .lss (.tmp 51) (.tmp 52)), none⟩]
def doormanref10_ways_r18 : List DStep := [⟨0, 0, ⟨(some 56), (.mov (.tmp 5)), none⟩⟩, ⟨1, 0, ⟨(some 57), (.mov (.tmp 9)), none⟩⟩, ⟨2, 3, ⟨(some 58), (.indexAddr 1 (.tmp 56) (.tmp 57)), none⟩⟩, ⟨3, 7, ⟨(some 59), (.load false 1 (.tmp 58)), none⟩⟩, ⟨4, 0, ⟨(some 60), (.mov (.tmp 10)), none⟩⟩, ⟨5, 0, ⟨(some 61), (.mov (.tmp 5)), none⟩⟩, ⟨6, 0, ⟨(some 62), (.mov (.tmp 9)), none⟩⟩, ⟨7, 96, ⟨(some 63), (.indexAddr 1 (.tmp 61) (.tmp 62)), none⟩⟩, ⟨8, 224, ⟨(some 64), (.load false 1 (.tmp 63)), none⟩⟩, ⟨9, 0, ⟨(some 65), (.mov (.tmp 10)), none⟩⟩, ⟨10, 992, ⟨(some 66), (.indexAddr 1 (.tmp 64) (.tmp 65)), none⟩⟩, ⟨11, 2016, ⟨(some 67), (.load false 1 (.tmp 66)), none⟩⟩, ⟨12, 4064, ⟨(some 68), (.mov (.tmp 67)), none⟩⟩, ⟨13, 8160, ⟨(some 69), (.mov (.tmp 5)), (some (68, false))⟩⟩, ⟨14, 8160, ⟨(some 70), (.mov (.tmp 9)), (some (68, false))⟩⟩, ⟨15, 32736, ⟨(some 71), (.indexAddr 1 (.tmp 69) (.tmp 70)), (some (68, false))⟩⟩, ⟨16, 65504, ⟨(some 72), (.load false 1 (.tmp 71)), (some (68, false))⟩⟩, ⟨17, 8160, ⟨(some 73), (.mov (.tmp 8)), (some (68, false))⟩⟩, ⟨18, 262112, ⟨(some 74), (.indexAddr 1 (.tmp 72) (.tmp 73)), (some (68, false))⟩⟩, ⟨19, 524256, ⟨(some 75), (.load false 1 (.tmp 74)), (some (68, false))⟩⟩, ⟨20, 1048544, ⟨(some 76), (.mov (.tmp 75)), (some (68, false))⟩⟩, ⟨21, 2097120, ⟨(some 77), (.mov (.tmp 5)), (some (76, true))⟩⟩, ⟨22, 2097120, ⟨(some 78), (.mov (.tmp 8)), (some (76, true))⟩⟩, ⟨23, 8388576, ⟨(some 79), (.indexAddr 1 (.tmp 77) (.tmp 78)), (some (76, true))⟩⟩, ⟨24, 16777184, ⟨(some 80), (.load false 1 (.tmp 79)), (some (76, true))⟩⟩, ⟨25, 2097120, ⟨(some 81), (.mov (.tmp 10)), (some (76, true))⟩⟩, ⟨26, 67108832, ⟨(some 82), (.indexAddr 1 (.tmp 80) (.tmp 81)), (some (76, true))⟩⟩, ⟨27, 134217696, ⟨(some 83), (.load false 1 (.tmp 82)), (some (76, true))⟩⟩, ⟨28, 268435424, ⟨(some 84), (.pick (.tmp 76) (.tmp 83) (.con (.bool false))), (some (68, false))⟩⟩, ⟨29, 536870880, ⟨(some 85), (.pick (.tmp 68) (.con (.bool true)) (.tmp 84)), none⟩⟩, ⟨30, 1073741823, ⟨(some 86), (.indexAddr 1 (.tmp 59) (.tmp 60)), none⟩⟩, ⟨31, 2147483647, ⟨none, (.store 1 (.tmp 86) (.tmp 85)), none⟩⟩]
def doormanref10_ways_r19 : List AStep := [⟨(some 54), (.mov (.tmp 10)), none⟩, ⟨(some 55), (.bin .add (.tmp 54) (.con (.int .i64 1))), none⟩, ⟨(some 10), (.mov (.tmp 55)), none⟩]
def doormanref10_ways_l20 : ACode := (.seq (.seq (.ops doormanref10_ways_r17) (.cond (.tmp 53) .skip (.exit 8))) (.seq (.block 9 (.draw doormanref10_ways_r18)) (.ops doormanref10_ways_r19)))
def doormanref10_ways_r21 : List AStep := [⟨(some 49), (.mov (.tmp 9)), none⟩, ⟨(some 50), (.bin .add (.tmp 49) (.con (.int .i64 1))), none⟩, ⟨(some 9), (.mov (.tmp 50)), none⟩]
def doormanref10_ways_l22 : ACode := (.seq (.seq (.ops doormanref10_ways_r15) (.cond (.tmp 48) .skip (.exit 6))) (.seq (.block 7 (.seq (.ops doormanref10_ways_r16) (.block 8 (.loop doormanref10_ways_l20)))) (.ops doormanref10_ways_r21)))
def doormanref10_ways_r23 : List AStep := [⟨(some 44), (.mov (.tmp 8)), none⟩, ⟨(some 45), (.bin .add (.tmp 44) (.con (.int .i64 1))), none⟩, ⟨(some 8), (.mov (.tmp 45)), none⟩]
def doormanref10_ways_l24 : ACode := (.seq (.seq (.ops doormanref10_ways_r13) (.cond (.tmp 43) .skip (.exit 4))) (.seq (.block 5 (.seq (.ops doormanref10_ways_r14) (.block 6 (.loop doormanref10_ways_l22)))) (.ops doormanref10_ways_r23)))
def doormanref10_ways_r25 : List AStep := [⟨(some 87), (.mov (.tmp 5)), none⟩, ⟨(some 4), (.mov (.tmp 87)), none⟩]
def doormanref10_ways_c : ACode := (.seq (.ops doormanref10_ways_r0) (.seq (.ops doormanref10_ways_r1) (.seq (.seq (.ops doormanref10_ways_r2) (.block 0 (.loop doormanref10_ways_l6))) (.seq (.seq (.ops doormanref10_ways_r7) (.block 2 (.loop doormanref10_ways_l11))) (.seq (.seq (.ops doormanref10_ways_r12) (.block 4 (.loop doormanref10_ways_l24))) (.seq (.ops doormanref10_ways_r25) .ret))))))
def doormanref10_ways_a : AFunc := ⟨88, [(.tmp 4)], doormanref10_ways_c⟩
/-! slices_IndexFunc_strata_Edge_strata_Edge -/
def slices_IndexFunc_strata_Edge_strata_Edge_r0 : List AStep := [⟨(some 4), (.mov (.con (.int .i64 0))), none⟩]
def slices_IndexFunc_strata_Edge_strata_Edge_r1 : List AStep := [⟨(some 6), (.mov (.tmp 0)), none⟩, ⟨(some 7), (.len (.tmp 6)), none⟩, ⟨(some 8), (.mov (.con (.int .i64 0))), none⟩]
def slices_IndexFunc_strata_Edge_strata_Edge_r2 : List AStep := [⟨(some 9), (.bin .lss (.tmp 8) (.tmp 7)), none⟩]
def slices_IndexFunc_strata_Edge_strata_Edge_r3 : List AStep := [⟨(some 10), (.mov (.tmp 8)), none⟩, ⟨(some 5), (.mov (.tmp 10)), none⟩]
def slices_IndexFunc_strata_Edge_strata_Edge_r4 : List AStep := [⟨(some 11), (.mov (.tmp 1)), none⟩, ⟨(some 12), (.mov (.tmp 0)), none⟩, ⟨(some 13), (.mov (.tmp 5)), none⟩, ⟨(some 14), (.indexAddr 3 (.tmp 12) (.tmp 13)), none⟩, ⟨(some 15), (.load true 3 (.tmp 14)), none⟩, ⟨(some 16), (.call (.tmp 11) [(.tmp 15)]), none⟩]
def slices_IndexFunc_strata_Edge_strata_Edge_r5 : List AStep := [⟨(some 17), (.mov (.tmp 5)), none⟩, ⟨(some 4), (.mov (.tmp 17)), none⟩]
def slices_IndexFunc_strata_Edge_strata_Edge_r6 : List AStep := [⟨(some 18), (.bin .add (.tmp 8) (.con (.int .i64 1))), none⟩, ⟨(some 8), (.mov (.tmp 18)), none⟩]
def slices_IndexFunc_strata_Edge_strata_Edge_l7 : ACode := (.seq (.ops slices_IndexFunc_strata_Edge_strata_Edge_r2) (.seq (.cond (.tmp 9) .skip (.exit 0)) (.seq (.block 1 (.seq (.ops slices_IndexFunc_strata_Edge_strata_Edge_r3) (.seq (.ops slices_IndexFunc_strata_Edge_strata_Edge_r4) (.cond (.tmp 16) (.seq (.ops slices_IndexFunc_strata_Edge_strata_Edge_r5) .ret) .skip)))) (.ops slices_IndexFunc_strata_Edge_strata_Edge_r6))))
def slices_IndexFunc_strata_Edge_strata_Edge_r8 : List AStep := [⟨(some 4), (.mov (.con (.int .i64 (-1)))), none⟩]
def slices_IndexFunc_strata_Edge_strata_Edge_c : ACode := (.seq (.ops slices_IndexFunc_strata_Edge_strata_Edge_r0) (.seq (.seq (.ops slices_IndexFunc_strata_Edge_strata_Edge_r1) (.block 0 (.loop slices_IndexFunc_strata_Edge_strata_Edge_l7))) (.seq (.ops slices_IndexFunc_strata_Edge_strata_Edge_r8) .ret)))
def slices_IndexFunc_strata_Edge_strata_Edge_a : AFunc := ⟨19, [(.tmp 4)], slices_IndexFunc_strata_Edge_strata_Edge_c⟩
/-! parse_reader_pass -/
def parse_reader_pass_r0 : List AStep := [⟨(some 4), (.mov (.con (.bool false))), none⟩]
def parse_reader_pass_r1 : List AStep := [⟨(some 5), (.mov (.tmp 0)), none⟩, ⟨(some 6), (.mov (.tmp 1)), none⟩, ⟨(some 7), (.call (.con (.func n_parse_reader_is [])) [(.tmp 5), (.tmp 6)]), none⟩, ⟨(some 8), (.not (.tmp 7)), none⟩]
def parse_reader_pass_r2 : List AStep := [⟨(some 4), (.mov (.con (.bool false))), none⟩]
def parse_reader_pass_r3 : List AStep := [⟨(some 9), (.mov (.tmp 0)), none⟩, ⟨(some 10), (.mov (.tmp 0)), none⟩, ⟨(some 11), (.nilCheck (.tmp 10)), none⟩, ⟨(some 12), (.fieldAddr 0 (.tmp 11)), none⟩, ⟨(some 13), (.load false 1 (.tmp 12)), none⟩, ⟨(some 14), (.sliceS 3 (.tmp 13) (some (.con (.int .i64 1))) none), none⟩, ⟨(some 15), (.nilCheck (.tmp 9)), none⟩, ⟨(some 16), (.fieldAddr 0 (.tmp 15)), none⟩, ⟨none, (.store 1 (.tmp 16) (.tmp 14)), none⟩]
def parse_reader_pass_r4 : List AStep := [⟨(some 4), (.mov (.con (.bool true))), none⟩]
def parse_reader_pass_c : ACode := (.seq (.ops parse_reader_pass_r0) (.seq (.seq (.ops parse_reader_pass_r1) (.cond (.tmp 8) (.seq (.ops parse_reader_pass_r2) .ret) .skip)) (.seq (.ops parse_reader_pass_r3) (.seq (.ops parse_reader_pass_r4) .ret))))
def parse_reader_pass_a : AFunc := ⟨17, [(.tmp 4)], parse_reader_pass_c⟩
/-! parse_reader_is -/
def parse_reader_is_r0 : List AStep := [⟨(some 4), (.mov (.con (.bool false))), none⟩]
def parse_reader_is_r1 : List AStep := [⟨(some 5), (.mov (.tmp 0)), none⟩, ⟨(some 6), (.nilCheck (.tmp 5)), none⟩, ⟨(some 7), (.fieldAddr 0 (.tmp 6)), none⟩, ⟨(some 8), (.load false 1 (.tmp 7)), none⟩, ⟨(some 9), (.indexAddr 3 (.tmp 8) (.con (.int .i64 0))), none⟩, ⟨(some 10), (.fieldAddr 1 (.tmp 9)), none⟩, ⟨(some 11), (.load false 1 (.tmp 10)), none⟩, ⟨(some 12), (.mov (.tmp 1)), none⟩, ⟨(some 13), (.bin .eql (.tmp 11) (.tmp 12)), none⟩, ⟨(some 14), (.mov (.tmp 13)), none⟩, ⟨(some 15), (.mov (.tmp 0)), (some (14, true))⟩, ⟨(some 16), (.nilCheck (.tmp 15)), (some (14, true))⟩, ⟨(some 17), (.fieldAddr 0 (.tmp 16)), (some (14, true))⟩, ⟨(some 18), (.load false 1 (.tmp 17)), (some (14, true))⟩, ⟨(some 19), (.indexAddr 3 (.tmp 18) (.con (.int .i64 0))), (some (14, true))⟩, ⟨(some 20), (.fieldAddr 0 (.tmp 19)), (some (14, true))⟩, ⟨(some 21), (.load false 1 (.tmp 20)), (some (14, true))⟩, ⟨(some 22), (.bin .eql (.tmp 21) (.con (.int .i64 2))), (some (14, true))⟩, ⟨(some 23), (.mov (.tmp 22)), (some (14, true))⟩, ⟨(some 24), (.mov (.tmp 1)), (some (23, false))⟩, ⟨(some 25), (.call (.con (.func n_token_Key [])) [(.tmp 24)]), (some (23, false))⟩, ⟨(some 26), (.pick (.tmp 23) (.con (.bool true)) (.tmp 25)), (some (14, true))⟩, ⟨(some 27), (.pick (.tmp 14) (.tmp 26) (.con (.bool false))), none⟩, ⟨(some 4), (.mov (.tmp 27)), none⟩]
def parse_reader_is_c : ACode := (.seq (.ops parse_reader_is_r0) (.seq (.ops parse_reader_is_r1) .ret))
def parse_reader_is_a : AFunc := ⟨28, [(.tmp 4)], parse_reader_is_c⟩
/-! token_Key -/
def token_Key_r0 : List AStep := [⟨(some 2), (.mov (.con (.bool false))), none⟩]
def token_Key_r1 : List AStep := [⟨(some 3), (.load false 1 (.con (.gptr g_token_keys))), none⟩, ⟨(some 4), (.mov (.tmp 0)), none⟩, ⟨(some 5), (.call (.con (.func n_slices_Contains_string_string [])) [(.tmp 3), (.tmp 4)]), none⟩, ⟨(some 2), (.mov (.tmp 5)), none⟩]
def token_Key_c : ACode := (.seq (.ops token_Key_r0) (.seq (.ops token_Key_r1) .ret))
def token_Key_a : AFunc := ⟨6, [(.tmp 2)], token_Key_c⟩
/-! slices_Contains_string_string -/
def slices_Contains_string_string_r0 : List AStep := [⟨(some 4), (.mov (.con (.bool false))), none⟩]
def slices_Contains_string_string_r1 : List AStep := [⟨(some 5), (.mov (.tmp 0)), none⟩, ⟨(some 6), (.mov (.tmp 1)), none⟩, ⟨(some 7), (.call (.con (.func n_slices_Index_string_string [])) [(.tmp 5), (.tmp 6)]), none⟩, ⟨(some 8), (.bin .geq (.tmp 7) (.con (.int .i64 0))), none⟩, ⟨(some 4), (.mov (.tmp 8)), none⟩]
def slices_Contains_string_string_c : ACode := (.seq (.ops slices_Contains_string_string_r0) (.seq (.ops slices_Contains_string_string_r1) .ret))
def slices_Contains_string_string_a : AFunc := ⟨9, [(.tmp 4)], slices_Contains_string_string_c⟩
/-! parse_reader_sign -/
def parse_reader_sign_r0 : List AStep := [⟨(some 2), (.mov (.con (.int .i64 0))), none⟩]
def parse_reader_sign_r1 : List AStep := [⟨(some 5), .makeMap, none⟩, ⟨none, (.mapPut .str (.tmp 5) (.con (.str [124])) (.con (.int .i64 4))), none⟩, ⟨none, (.mapPut .str (.tmp 5) (.con (.str [38])) (.con (.int .i64 5))), none⟩, ⟨none, (.mapPut .str (.tmp 5) (.con (.str [45])) (.con (.int .i64 6))), none⟩, ⟨(some 6), (.mov (.tmp 5)), none⟩, ⟨(some 7), (.rangeM (.tmp 6)), none⟩]
def parse_reader_sign_r2 : List AStep := [⟨(some 8), (.nextM (.tmp 7)), none⟩, ⟨(some 9), (.extract (.tmp 8) 0), none⟩]
def parse_reader_sign_r3 : List AStep := [⟨(some 10), (.entryM (.tmp 7)), none⟩, ⟨(some 11), (.extract (.tmp 10) 0), none⟩, ⟨(some 12), (.extract (.tmp 10) 1), none⟩, ⟨(some 3), (.mov (.tmp 11)), none⟩, ⟨(some 4), (.mov (.tmp 12)), none⟩]
def parse_reader_sign_r4 : List AStep := [⟨(some 13), (.mov (.tmp 0)), none⟩, ⟨(some 14), (.mov (.tmp 3)), none⟩, ⟨(some 15), (.call (.con (.func n_parse_reader_pass [])) [(.tmp 13), (.tmp 14)]), none⟩]
def parse_reader_sign_r5 : List AStep := [⟨(some 16), (.mov (.tmp 4)), none⟩, ⟨(some 2), (.mov (.tmp 16)), none⟩]
def parse_reader_sign_l6 : ACode := (.seq (.ops parse_reader_sign_r2) (.seq (.cond (.tmp 9) .skip (.exit 0)) (.block 1 (.seq (.ops parse_reader_sign_r3) (.seq (.ops parse_reader_sign_r4) (.cond (.tmp 15) (.seq (.ops parse_reader_sign_r5) .ret) .skip))))))
def parse_reader_sign_r7 : List AStep := [⟨(some 2), (.mov (.con (.int .i64 0))), none⟩]
def parse_reader_sign_c : ACode := (.seq (.ops parse_reader_sign_r0) (.seq (.seq (.ops parse_reader_sign_r1) (.block 0 (.loop parse_reader_sign_l6))) (.seq (.ops parse_reader_sign_r7) .ret)))
def parse_reader_sign_a : AFunc := ⟨17, [(.tmp 2)], parse_reader_sign_c⟩
/-! slices_Index_string_string -/
def slices_Index_string_string_r0 : List AStep := [⟨(some 4), (.mov (.con (.int .i64 0))), none⟩]
def slices_Index_string_string_r1 : List AStep := [⟨(some 6), (.mov (.tmp 0)), none⟩, ⟨(some 7), (.len (.tmp 6)), none⟩, ⟨(some 8), (.mov (.con (.int .i64 0))), none⟩]
def slices_Index_string_string_r2 : List AStep := [⟨(some 9), (.bin .lss (.tmp 8) (.tmp 7)), none⟩]
def slices_Index_string_string_r3 : List AStep := [⟨(some 10), (.mov (.tmp 8)), none⟩, ⟨(some 5), (.mov (.tmp 10)), none⟩]
def slices_Index_string_string_r4 : List AStep := [⟨(some 11), (.mov (.tmp 1)), none⟩, ⟨(some 12), (.mov (.tmp 0)), none⟩, ⟨(some 13), (.mov (.tmp 5)), none⟩, ⟨(some 14), (.indexAddr 1 (.tmp 12) (.tmp 13)), none⟩, ⟨(some 15), (.load false 1 (.tmp 14)), none⟩, ⟨(some 16), (.bin .eql (.tmp 11) (.tmp 15)), none⟩]
def slices_Index_string_string_r5 : List AStep := [⟨(some 17), (.mov (.tmp 5)), none⟩, ⟨(some 4), (.mov (.tmp 17)), none⟩]
def slices_Index_string_string_r6 : List AStep := [⟨(some 18), (.bin .add (.tmp 8) (.con (.int .i64 1))), none⟩, ⟨(some 8), (.mov (.tmp 18)), none⟩]
def slices_Index_string_string_l7 : ACode := (.seq (.ops slices_Index_string_string_r2) (.seq (.cond (.tmp 9) .skip (.exit 0)) (.seq (.block 1 (.seq (.ops slices_Index_string_string_r3) (.seq (.ops slices_Index_string_string_r4) (.cond (.tmp 16) (.seq (.ops slices_Index_string_string_r5) .ret) .skip)))) (.ops slices_Index_string_string_r6))))
def slices_Index_string_string_r8 : List AStep := [⟨(some 4), (.mov (.con (.int .i64 (-1)))), none⟩]
def slices_Index_string_string_c : ACode := (.seq (.ops slices_Index_string_string_r0) (.seq (.seq (.ops slices_Index_string_string_r1) (.block 0 (.loop slices_Index_string_string_l7))) (.seq (.ops slices_Index_string_string_r8) .ret)))
def slices_Index_string_string_a : AFunc := ⟨19, [(.tmp 4)], slices_Index_string_string_c⟩
set_option maxRecDepth 100000 in
theorem T_doormanlaw10_StrataLevels : table PP n_doormanlaw10_StrataLevels = some doormanlaw10_StrataLevels_a := by kernel_rfl
set_option maxRecDepth 100000 in
theorem T_strata_Levels : table PP n_strata_Levels = some strata_Levels_a := by kernel_rfl
set_option maxRecDepth 100000 in
theorem T_doormanlaw10_edges : table PP n_doormanlaw10_edges = some doormanlaw10_edges_a := by kernel_rfl
set_option maxRecDepth 100000 in
theorem T_doormanref10_Cycle : table PP n_doormanref10_Cycle = some doormanref10_Cycle_a := by kernel_rfl
set_option maxRecDepth 100000 in
theorem T_doormanref10_Levels : table PP n_doormanref10_Levels = some doormanref10_Levels_a := by kernel_rfl
set_option maxRecDepth 100000 in
theorem T_strata_Levels_1 : table PP n_strata_Levels_1 = some strata_Levels_1_a := by kernel_rfl
set_option maxRecDepth 100000 in
theorem T_slices_ContainsFunc_strata_Edge_strata_Edge : table PP n_slices_ContainsFunc_strata_Edge_strata_Edge = some slices_ContainsFunc_strata_Edge_strata_Edge_a := by kernel_rfl
set_option maxRecDepth 100000 in
theorem T_doormanref10_ways : table PP n_doormanref10_ways = some doormanref10_ways_a := by kernel_rfl
set_option maxRecDepth 100000 in
theorem T_slices_IndexFunc_strata_Edge_strata_Edge : table PP n_slices_IndexFunc_strata_Edge_strata_Edge = some slices_IndexFunc_strata_Edge_strata_Edge_a := by kernel_rfl
set_option maxRecDepth 100000 in
theorem T_parse_reader_pass : table PP n_parse_reader_pass = some parse_reader_pass_a := by kernel_rfl
set_option maxRecDepth 100000 in
theorem T_parse_reader_is : table PP n_parse_reader_is = some parse_reader_is_a := by kernel_rfl
set_option maxRecDepth 100000 in
theorem T_token_Key : table PP n_token_Key = some token_Key_a := by kernel_rfl
set_option maxRecDepth 100000 in
theorem T_slices_Contains_string_string : table PP n_slices_Contains_string_string = some slices_Contains_string_string_a := by kernel_rfl
set_option maxRecDepth 100000 in
theorem T_parse_reader_sign : table PP n_parse_reader_sign = some parse_reader_sign_a := by kernel_rfl
set_option maxRecDepth 100000 in
theorem T_slices_Index_string_string : table PP n_slices_Index_string_string = some slices_Index_string_string_a := by kernel_rfl
end Go.Proofs.YtaahagjaldgmoaaDoor.Ev.C
