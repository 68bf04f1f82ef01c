/- The functions of the program as the interpreter has them, printed by a program of ours. -/
import Derived.Test.YtaahagjaldgmoaaDoorProg
import Derived.Test.YtaahagjaldgmoaaDoorEv29
namespace Go.Proofs.YtaahagjaldgmoaaDoor.Ev.C
open Go Go.Proofs.YtaahagjaldgmoaaDoor.Ev
noncomputable abbrev PP : Program := Go.Proofs.Tryd.prog
def n_bytealg_IndexByteString : Nat := 107
def n_doormanlaw10_StrataLeast : Nat := 4
def n_doormanlaw10_awake : Nat := 8
def n_parse_reader_is : Nat := 62
def n_parse_reader_pass : Nat := 40
def n_parse_reader_sign : Nat := 90
def n_slices_ContainsFunc_strata_Edge_strata_Edge : Nat := 17
def n_slices_Contains_string_string : Nat := 88
def n_slices_IndexFunc_strata_Edge_strata_Edge : Nat := 33
def n_slices_Index_string_string : Nat := 99
def n_strata_Levels : Nat := 9
def n_strata_Levels_1 : Nat := 16
def n_token_Key : Nat := 63
def g_token_keys : Nat := 0
def g_bytealg_MaxLen : Nat := 1
/-! doormanlaw10_StrataLeast -/
def doormanlaw10_StrataLeast_r0 : List AStep := [⟨(some 4), (.mov (.con (.bool false))), none⟩]
def doormanlaw10_StrataLeast_r1 : List AStep := [⟨(some 17), (.call (.con (.func n_doormanlaw10_awake [])) []), none⟩, ⟨(some 5), (.mov (.tmp 17)), none⟩]
def doormanlaw10_StrataLeast_r2 : List AStep := [⟨(some 18), (.mov (.tmp 5)), none⟩, ⟨(some 19), (.not (.tmp 18)), none⟩]
def doormanlaw10_StrataLeast_r3 : List AStep := [⟨(some 4), (.mov (.con (.bool false))), none⟩]
def doormanlaw10_StrataLeast_r4 : List AStep := [⟨(some 20), (.mov (.tmp 0)), none⟩, ⟨(some 21), (.cvInt .i64 (.tmp 20)), none⟩, ⟨(some 22), (.bin .rem (.tmp 21) (.con (.int .i64 30))), none⟩, ⟨(some 6), (.mov (.tmp 22)), none⟩]
def doormanlaw10_StrataLeast_r5 : List AStep := [⟨(some 23), (.mov (.tmp 1)), none⟩, ⟨(some 24), (.len (.tmp 23)), none⟩, ⟨(some 25), (.bin .gtr (.tmp 24) (.con (.int .i64 100))), none⟩]
def doormanlaw10_StrataLeast_r6 : List AStep := [⟨(some 4), (.mov (.con (.bool true))), none⟩]
def doormanlaw10_StrataLeast_r7 : List AStep := [⟨(some 27), (.mov (.tmp 6)), none⟩, ⟨(some 28), (.mov (.tmp 1)), none⟩, ⟨(some 29), (.call (.con (.func n_strata_Levels [])) [(.tmp 27), (.tmp 28)]), none⟩, ⟨(some 26), (.mov (.tmp 29)), none⟩, ⟨(some 30), (.extract (.tmp 26) 0), none⟩, ⟨(some 31), (.extract (.tmp 26) 1), none⟩, ⟨(some 7), (.mov (.tmp 30)), none⟩, ⟨(some 8), (.mov (.tmp 31)), none⟩]
def doormanlaw10_StrataLeast_r8 : List AStep := [⟨(some 9), (.mov (.con (.int .i64 0))), none⟩]
def doormanlaw10_StrataLeast_r9 : List AStep := [⟨(some 10), (.mov (.con (.int .i64 0))), none⟩]
def doormanlaw10_StrataLeast_r10 : List AStep := [⟨(some 32), (.mov (.tmp 10)), none⟩, ⟨(some 33), (.mov (.tmp 1)), none⟩, ⟨(some 34), (.len (.tmp 33)), none⟩, ⟨(some 35), (.bin .lss (.tmp 32) (.tmp 34)), none⟩]
def doormanlaw10_StrataLeast_r11 : List AStep := [⟨(some 38), (.mov (.tmp 1)), none⟩, ⟨(some 39), (.mov (.tmp 10)), none⟩, ⟨(some 40), (.indexAddr 3 (.tmp 38) (.tmp 39)), none⟩, ⟨(some 41), (.fieldAddr 0 (.tmp 40)), none⟩, ⟨(some 42), (.load false 1 (.tmp 41)), none⟩, ⟨(some 43), (.bin .lss (.tmp 42) (.con (.int .i64 0))), none⟩, ⟨(some 44), (.mov (.tmp 43)), none⟩, ⟨(some 45), (.mov (.tmp 1)), (some (44, false))⟩, ⟨(some 46), (.mov (.tmp 10)), (some (44, false))⟩, ⟨(some 47), (.indexAddr 3 (.tmp 45) (.tmp 46)), (some (44, false))⟩, ⟨(some 48), (.fieldAddr 0 (.tmp 47)), (some (44, false))⟩, ⟨(some 49), (.load false 1 (.tmp 48)), (some (44, false))⟩, ⟨(some 50), (.mov (.tmp 6)), (some (44, false))⟩, ⟨(some 51), (.bin .geq (.tmp 49) (.tmp 50)), (some (44, false))⟩, ⟨(some 52), (.pick (.tmp 44) (.con (.bool true)) (.tmp 51)), none⟩, ⟨(some 53), (.mov (.tmp 52)), none⟩, ⟨(some 54), (.mov (.tmp 1)), (some (53, false))⟩, ⟨(some 55), (.mov (.tmp 10)), (some (53, false))⟩, ⟨(some 56), (.indexAddr 3 (.tmp 54) (.tmp 55)), (some (53, false))⟩, ⟨(some 57), (.fieldAddr 1 (.tmp 56)), (some (53, false))⟩, ⟨(some 58), (.load false 1 (.tmp 57)), (some (53, false))⟩, ⟨(some 59), (.bin .lss (.tmp 58) (.con (.int .i64 0))), (some (53, false))⟩, ⟨(some 60), (.pick (.tmp 53) (.con (.bool true)) (.tmp 59)), none⟩, ⟨(some 61), (.mov (.tmp 60)), none⟩, ⟨(some 62), (.mov (.tmp 1)), (some (61, false))⟩, ⟨(some 63), (.mov (.tmp 10)), (some (61, false))⟩, ⟨(some 64), (.indexAddr 3 (.tmp 62) (.tmp 63)), (some (61, false))⟩, ⟨(some 65), (.fieldAddr 1 (.tmp 64)), (some (61, false))⟩, ⟨(some 66), (.load false 1 (.tmp 65)), (some (61, false))⟩, ⟨(some 67), (.mov (.tmp 6)), (some (61, false))⟩, ⟨(some 68), (.bin .geq (.tmp 66) (.tmp 67)), (some (61, false))⟩, ⟨(some 69), (.pick (.tmp 61) (.con (.bool true)) (.tmp 68)), none⟩]
def doormanlaw10_StrataLeast_r12 : List AStep := [⟨(some 70), (.mov (.tmp 8)), none⟩, ⟨(some 71), (.bin .eql (.tmp 70) (.con (.int .i64 1))), none⟩, ⟨(some 4), (.mov (.tmp 71)), none⟩]
def doormanlaw10_StrataLeast_r13 : List AStep := [⟨(some 72), (.mov (.tmp 1)), none⟩, ⟨(some 73), (.mov (.tmp 10)), none⟩, ⟨(some 74), (.indexAddr 3 (.tmp 72) (.tmp 73)), none⟩, ⟨(some 75), (.fieldAddr 2 (.tmp 74)), none⟩, ⟨(some 76), (.load false 1 (.tmp 75)), none⟩]
def doormanlaw10_StrataLeast_r14 : List AStep := [⟨(some 77), (.mov (.tmp 9)), none⟩, ⟨(some 78), (.bin .add (.tmp 77) (.con (.int .i64 1))), none⟩, ⟨(some 9), (.mov (.tmp 78)), none⟩]
def doormanlaw10_StrataLeast_r15 : List AStep := [⟨(some 36), (.mov (.tmp 10)), none⟩, ⟨(some 37), (.bin .add (.tmp 36) (.con (.int .i64 1))), none⟩, ⟨(some 10), (.mov (.tmp 37)), none⟩]
def doormanlaw10_StrataLeast_l16 : ACode := (.seq (.seq (.ops doormanlaw10_StrataLeast_r10) (.cond (.tmp 35) .skip (.exit 0))) (.seq (.block 1 (.seq (.seq (.ops doormanlaw10_StrataLeast_r11) (.cond (.tmp 69) (.seq (.ops doormanlaw10_StrataLeast_r12) .ret) .skip)) (.seq (.ops doormanlaw10_StrataLeast_r13) (.cond (.tmp 76) (.ops doormanlaw10_StrataLeast_r14) .skip)))) (.ops doormanlaw10_StrataLeast_r15)))
def doormanlaw10_StrataLeast_r17 : List AStep := [⟨(some 79), (.mov (.tmp 8)), none⟩, ⟨(some 80), (.bin .neq (.tmp 79) (.con (.int .i64 0))), none⟩]
def doormanlaw10_StrataLeast_r18 : List AStep := [⟨(some 81), (.mov (.tmp 8)), none⟩, ⟨(some 82), (.bin .eql (.tmp 81) (.con (.int .i64 33))), none⟩, ⟨(some 83), (.mov (.tmp 82)), none⟩, ⟨(some 84), (.mov (.tmp 9)), (some (83, true))⟩, ⟨(some 85), (.bin .gtr (.tmp 84) (.con (.int .i64 0))), (some (83, true))⟩, ⟨(some 86), (.pick (.tmp 83) (.tmp 85) (.con (.bool false))), none⟩, ⟨(some 4), (.mov (.tmp 86)), none⟩]
def doormanlaw10_StrataLeast_r19 : List AStep := [⟨(some 87), (.mov (.tmp 7)), none⟩, ⟨(some 88), (.len (.tmp 87)), none⟩, ⟨(some 89), (.mov (.tmp 6)), none⟩, ⟨(some 90), (.bin .neq (.tmp 88) (.tmp 89)), none⟩]
def doormanlaw10_StrataLeast_r20 : List AStep := [⟨(some 4), (.mov (.con (.bool false))), none⟩]
def doormanlaw10_StrataLeast_r21 : List AStep := [⟨(some 91), (.mov (.tmp 6)), none⟩, ⟨(some 92), (.makeSlice 1 1 [(.bool false)] (.tmp 91) (.tmp 91)), none⟩, ⟨(some 11), (.mov (.tmp 92)), none⟩]
def doormanlaw10_StrataLeast_r22 : List AStep := [⟨(some 12), (.mov (.con (.int .i64 0))), none⟩]
def doormanlaw10_StrataLeast_r23 : List AStep := [⟨(some 93), (.mov (.tmp 12)), none⟩, ⟨(some 94), (.mov (.tmp 1)), none⟩, ⟨(some 95), (.len (.tmp 94)), none⟩, ⟨(some 96), (.bin .lss (.tmp 93) (.tmp 95)), none⟩]
def doormanlaw10_StrataLeast_r24 : List AStep := [⟨(some 99), (.mov (.tmp 7)), none⟩, ⟨(some 100), (.mov (.tmp 1)), none⟩, ⟨(some 101), (.mov (.tmp 12)), none⟩, ⟨(some 102), (.indexAddr 3 (.tmp 100) (.tmp 101)), none⟩, ⟨(some 103), (.fieldAddr 1 (.tmp 102)), none⟩, ⟨(some 104), (.load false 1 (.tmp 103)), none⟩, ⟨(some 105), (.indexAddr 1 (.tmp 99) (.tmp 104)), none⟩, ⟨(some 106), (.load false 1 (.tmp 105)), none⟩, ⟨(some 13), (.mov (.tmp 106)), none⟩]
def doormanlaw10_StrataLeast_r25 : List AStep := [⟨(some 107), (.mov (.tmp 1)), none⟩, ⟨(some 108), (.mov (.tmp 12)), none⟩, ⟨(some 109), (.indexAddr 3 (.tmp 107) (.tmp 108)), none⟩, ⟨(some 110), (.fieldAddr 2 (.tmp 109)), none⟩, ⟨(some 111), (.load false 1 (.tmp 110)), none⟩]
def doormanlaw10_StrataLeast_r26 : List AStep := [⟨(some 112), (.mov (.tmp 13)), none⟩, ⟨(some 113), (.bin .add (.tmp 112) (.con (.int .i64 1))), none⟩, ⟨(some 13), (.mov (.tmp 113)), none⟩]
def doormanlaw10_StrataLeast_r27 : List AStep := [⟨(some 114), (.mov (.tmp 7)), none⟩, ⟨(some 115), (.mov (.tmp 1)), none⟩, ⟨(some 116), (.mov (.tmp 12)), none⟩, ⟨(some 117), (.indexAddr 3 (.tmp 115) (.tmp 116)), none⟩, ⟨(some 118), (.fieldAddr 0 (.tmp 117)), none⟩, ⟨(some 119), (.load false 1 (.tmp 118)), none⟩, ⟨(some 120), (.indexAddr 1 (.tmp 114) (.tmp 119)), none⟩, ⟨(some 121), (.load false 1 (.tmp 120)), none⟩, ⟨(some 122), (.mov (.tmp 13)), none⟩, ⟨(some 123), (.bin .lss (.tmp 121) (.tmp 122)), none⟩]
def doormanlaw10_StrataLeast_r28 : List AStep := [⟨(some 4), (.mov (.con (.bool false))), none⟩]
def doormanlaw10_StrataLeast_r29 : List AStep := [⟨(some 124), (.mov (.tmp 7)), none⟩, ⟨(some 125), (.mov (.tmp 1)), none⟩, ⟨(some 126), (.mov (.tmp 12)), none⟩, ⟨(some 127), (.indexAddr 3 (.tmp 125) (.tmp 126)), none⟩, ⟨(some 128), (.fieldAddr 0 (.tmp 127)), none⟩, ⟨(some 129), (.load false 1 (.tmp 128)), none⟩, ⟨(some 130), (.indexAddr 1 (.tmp 124) (.tmp 129)), none⟩, ⟨(some 131), (.load false 1 (.tmp 130)), none⟩, ⟨(some 132), (.mov (.tmp 13)), none⟩, ⟨(some 133), (.bin .eql (.tmp 131) (.tmp 132)), none⟩]
def doormanlaw10_StrataLeast_r30 : List AStep := [⟨(some 134), (.mov (.tmp 11)), none⟩, ⟨(some 135), (.mov (.tmp 1)), none⟩, ⟨(some 136), (.mov (.tmp 12)), none⟩, ⟨(some 137), (.indexAddr 3 (.tmp 135) (.tmp 136)), none⟩, ⟨(some 138), (.fieldAddr 0 (.tmp 137)), none⟩, ⟨(some 139), (.load false 1 (.tmp 138)), none⟩, ⟨(some 140), (.indexAddr 1 (.tmp 134) (.tmp 139)), none⟩, ⟨none, (.store 1 (.tmp 140) (.con (.bool true))), none⟩]
def doormanlaw10_StrataLeast_r31 : List AStep := [⟨(some 97), (.mov (.tmp 12)), none⟩, ⟨(some 98), (.bin .add (.tmp 97) (.con (.int .i64 1))), none⟩, ⟨(some 12), (.mov (.tmp 98)), none⟩]
def doormanlaw10_StrataLeast_l32 : ACode := (.seq (.seq (.ops doormanlaw10_StrataLeast_r23) (.cond (.tmp 96) .skip (.exit 2))) (.seq (.block 3 (.seq (.ops doormanlaw10_StrataLeast_r24) (.seq (.seq (.ops doormanlaw10_StrataLeast_r25) (.cond (.tmp 111) (.ops doormanlaw10_StrataLeast_r26) .skip)) (.seq (.seq (.ops doormanlaw10_StrataLeast_r27) (.cond (.tmp 123) (.seq (.ops doormanlaw10_StrataLeast_r28) .ret) .skip)) (.seq (.ops doormanlaw10_StrataLeast_r29) (.cond (.tmp 133) (.ops doormanlaw10_StrataLeast_r30) .skip)))))) (.ops doormanlaw10_StrataLeast_r31)))
def doormanlaw10_StrataLeast_r33 : List AStep := [⟨(some 14), (.mov (.con (.int .i64 0))), none⟩]
def doormanlaw10_StrataLeast_r34 : List AStep := [⟨(some 141), (.mov (.tmp 14)), none⟩, ⟨(some 142), (.mov (.tmp 6)), none⟩, ⟨(some 143), (.bin .lss (.tmp 141) (.tmp 142)), none⟩]
def doormanlaw10_StrataLeast_r35 : List AStep := [⟨(some 146), (.mov (.tmp 7)), none⟩, ⟨(some 147), (.mov (.tmp 14)), none⟩, ⟨(some 148), (.indexAddr 1 (.tmp 146) (.tmp 147)), none⟩, ⟨(some 149), (.load false 1 (.tmp 148)), none⟩, ⟨(some 150), (.bin .lss (.tmp 149) (.con (.int .i64 0))), none⟩, ⟨(some 151), (.mov (.tmp 150)), none⟩, ⟨(some 152), (.mov (.tmp 7)), (some (151, false))⟩, ⟨(some 153), (.mov (.tmp 14)), (some (151, false))⟩, ⟨(some 154), (.indexAddr 1 (.tmp 152) (.tmp 153)), (some (151, false))⟩, ⟨(some 155), (.load false 1 (.tmp 154)), (some (151, false))⟩, ⟨(some 156), (.mov (.tmp 9)), (some (151, false))⟩, ⟨(some 157), (.bin .gtr (.tmp 155) (.tmp 156)), (some (151, false))⟩, ⟨(some 158), (.pick (.tmp 151) (.con (.bool true)) (.tmp 157)), none⟩, ⟨(some 159), (.mov (.tmp 158)), none⟩, ⟨(some 160), (.mov (.tmp 7)), (some (159, false))⟩, ⟨(some 161), (.mov (.tmp 14)), (some (159, false))⟩, ⟨(some 162), (.indexAddr 1 (.tmp 160) (.tmp 161)), (some (159, false))⟩, ⟨(some 163), (.load false 1 (.tmp 162)), (some (159, false))⟩, ⟨(some 164), (.bin .gtr (.tmp 163) (.con (.int .i64 0))), (some (159, false))⟩, ⟨(some 165), (.mov (.tmp 164)), (some (159, false))⟩, ⟨(some 166), (.mov (.tmp 11)), (some (165, true))⟩, ⟨(some 167), (.mov (.tmp 14)), (some (165, true))⟩, ⟨(some 168), (.indexAddr 1 (.tmp 166) (.tmp 167)), (some (165, true))⟩, ⟨(some 169), (.load false 1 (.tmp 168)), (some (165, true))⟩, ⟨(some 170), (.not (.tmp 169)), (some (165, true))⟩, ⟨(some 171), (.pick (.tmp 165) (.tmp 170) (.con (.bool false))), (some (159, false))⟩, ⟨(some 172), (.pick (.tmp 159) (.con (.bool true)) (.tmp 171)), none⟩]
def doormanlaw10_StrataLeast_r36 : List AStep := [⟨(some 4), (.mov (.con (.bool false))), none⟩]
def doormanlaw10_StrataLeast_r37 : List AStep := [⟨(some 144), (.mov (.tmp 14)), none⟩, ⟨(some 145), (.bin .add (.tmp 144) (.con (.int .i64 1))), none⟩, ⟨(some 14), (.mov (.tmp 145)), none⟩]
def doormanlaw10_StrataLeast_l38 : ACode := (.seq (.seq (.ops doormanlaw10_StrataLeast_r34) (.cond (.tmp 143) .skip (.exit 4))) (.seq (.block 5 (.seq (.ops doormanlaw10_StrataLeast_r35) (.cond (.tmp 172) (.seq (.ops doormanlaw10_StrataLeast_r36) .ret) .skip))) (.ops doormanlaw10_StrataLeast_r37)))
def doormanlaw10_StrataLeast_r39 : List AStep := [⟨(some 174), (.call (.con (.func n_strata_Levels [])) [(.con (.int .i64 (-1))), (.con .nils)]), none⟩, ⟨(some 173), (.mov (.tmp 174)), none⟩, ⟨(some 175), (.extract (.tmp 173) 0), none⟩, ⟨(some 176), (.extract (.tmp 173) 1), none⟩, ⟨(some 15), (.mov (.tmp 175)), none⟩, ⟨(some 16), (.mov (.tmp 176)), none⟩]
def doormanlaw10_StrataLeast_r40 : List AStep := [⟨(some 177), (.mov (.tmp 16)), none⟩, ⟨(some 178), (.bin .eql (.tmp 177) (.con (.int .i64 1))), none⟩, ⟨(some 4), (.mov (.tmp 178)), none⟩]
def doormanlaw10_StrataLeast_c : ACode := (.seq (.ops doormanlaw10_StrataLeast_r0) (.seq (.ops doormanlaw10_StrataLeast_r1) (.seq (.seq (.ops doormanlaw10_StrataLeast_r2) (.cond (.tmp 19) (.seq (.ops doormanlaw10_StrataLeast_r3) .ret) .skip)) (.seq (.ops doormanlaw10_StrataLeast_r4) (.seq (.seq (.ops doormanlaw10_StrataLeast_r5) (.cond (.tmp 25) (.seq (.ops doormanlaw10_StrataLeast_r6) .ret) .skip)) (.seq (.ops doormanlaw10_StrataLeast_r7) (.seq (.ops doormanlaw10_StrataLeast_r8) (.seq (.seq (.ops doormanlaw10_StrataLeast_r9) (.block 0 (.loop doormanlaw10_StrataLeast_l16))) (.seq (.seq (.ops doormanlaw10_StrataLeast_r17) (.cond (.tmp 80) (.seq (.ops doormanlaw10_StrataLeast_r18) .ret) .skip)) (.seq (.seq (.ops doormanlaw10_StrataLeast_r19) (.cond (.tmp 90) (.seq (.ops doormanlaw10_StrataLeast_r20) .ret) .skip)) (.seq (.ops doormanlaw10_StrataLeast_r21) (.seq (.seq (.ops doormanlaw10_StrataLeast_r22) (.block 2 (.loop doormanlaw10_StrataLeast_l32))) (.seq (.seq (.ops doormanlaw10_StrataLeast_r33) (.block 4 (.loop doormanlaw10_StrataLeast_l38))) (.seq (.ops doormanlaw10_StrataLeast_r39) (.seq (.ops doormanlaw10_StrataLeast_r40) .ret)))))))))))))))
def doormanlaw10_StrataLeast_a : AFunc := ⟨179, [(.tmp 4)], doormanlaw10_StrataLeast_c⟩
/-! strata_Levels -/
def strata_Levels_r0 : List AStep := [⟨(some 2), (.box (.tmp 0)), none⟩, ⟨(some 4), (.mov (.con .nils)), none⟩, ⟨(some 5), (.mov (.con (.int .i64 0))), none⟩]
def strata_Levels_r1 : List AStep := [⟨(some 12), (.makeFunc n_strata_Levels_1 [(.tmp 2)]), none⟩, ⟨(some 6), (.mov (.tmp 12)), none⟩]
def strata_Levels_r2 : List AStep := [⟨(some 13), (.load false 1 (.tmp 2)), none⟩, ⟨(some 14), (.bin .lss (.tmp 13) (.con (.int .i64 0))), none⟩, ⟨(some 15), (.mov (.tmp 14)), none⟩, ⟨(some 16), (.load false 1 (.tmp 2)), (some (15, false))⟩, ⟨(some 17), (.bin .gtr (.tmp 16) (.con (.int .i64 4096))), (some (15, false))⟩, ⟨(some 18), (.pick (.tmp 15) (.con (.bool true)) (.tmp 17)), none⟩, ⟨(some 19), (.mov (.tmp 18)), none⟩, ⟨(some 20), (.mov (.tmp 1)), (some (19, false))⟩, ⟨(some 21), (.mov (.tmp 6)), (some (19, false))⟩, ⟨(some 22), (.call (.con (.func n_slices_ContainsFunc_strata_Edge_strata_Edge [])) [(.tmp 20), (.tmp 21)]), (some (19, false))⟩, ⟨(some 23), (.pick (.tmp 19) (.con (.bool true)) (.tmp 22)), none⟩]
def strata_Levels_r3 : List AStep := [⟨(some 4), (.mov (.con .nils)), none⟩, ⟨(some 5), (.mov (.con (.int .i64 1))), none⟩]
def strata_Levels_r4 : List AStep := [⟨(some 24), (.load false 1 (.tmp 2)), none⟩, ⟨(some 25), (.makeSlice 1 8 [(.int .i64 0)] (.tmp 24) (.tmp 24)), none⟩, ⟨(some 7), (.mov (.tmp 25)), none⟩]
def strata_Levels_r5 : List AStep := [⟨(some 8), (.mov (.con (.bool true))), none⟩]
def strata_Levels_r6 : List AStep := [⟨(some 26), (.mov (.tmp 8)), none⟩]
def strata_Levels_r7 : List AStep := [⟨(some 8), (.mov (.con (.bool false))), none⟩]
def strata_Levels_r8 : List AStep := [⟨(some 27), (.mov (.tmp 1)), none⟩, ⟨(some 28), (.len (.tmp 27)), none⟩, ⟨(some 29), (.mov (.con (.int .i64 0))), none⟩]
def strata_Levels_r9 : List AStep := [⟨(some 30), (.bin .lss (.tmp 29) (.tmp 28)), none⟩]
def strata_Levels_r10 : List AStep := [⟨(some 31), (.indexAddr 3 (.tmp 27) (.tmp 29)), none⟩, ⟨(some 32), (.load true 3 (.tmp 31)), none⟩, ⟨(some 10), (.alloc [(.int .i64 0), (.int .i64 0), (.bool false)]), none⟩, ⟨none, (.store 3 (.tmp 10) (.tmp 32)), none⟩]
def strata_Levels_r11 : List AStep := [⟨(some 33), (.mov (.tmp 7)), none⟩, ⟨(some 34), (.fieldAddr 1 (.tmp 10)), none⟩, ⟨(some 35), (.load false 1 (.tmp 34)), none⟩, ⟨(some 36), (.indexAddr 1 (.tmp 33) (.tmp 35)), none⟩, ⟨(some 37), (.load false 1 (.tmp 36)), none⟩, ⟨(some 11), (.mov (.tmp 37)), none⟩]
def strata_Levels_r12 : List AStep := [⟨(some 38), (.fieldAddr 2 (.tmp 10)), none⟩, ⟨(some 39), (.load false 1 (.tmp 38)), none⟩]
def strata_Levels_r13 : List AStep := [⟨(some 40), (.mov (.tmp 11)), none⟩, ⟨(some 41), (.bin .add (.tmp 40) (.con (.int .i64 1))), none⟩, ⟨(some 11), (.mov (.tmp 41)), none⟩]
def strata_Levels_r14 : List AStep := [⟨(some 42), (.mov (.tmp 7)), none⟩, ⟨(some 43), (.fieldAddr 0 (.tmp 10)), none⟩, ⟨(some 44), (.load false 1 (.tmp 43)), none⟩, ⟨(some 45), (.indexAddr 1 (.tmp 42) (.tmp 44)), none⟩, ⟨(some 46), (.load false 1 (.tmp 45)), none⟩, ⟨(some 47), (.mov (.tmp 11)), none⟩, ⟨(some 48), (.bin .lss (.tmp 46) (.tmp 47)), none⟩]
def strata_Levels_r15 : List AStep := [⟨(some 49), (.mov (.tmp 7)), none⟩, ⟨(some 50), (.fieldAddr 0 (.tmp 10)), none⟩, ⟨(some 51), (.load false 1 (.tmp 50)), none⟩, ⟨(some 52), (.mov (.tmp 11)), none⟩, ⟨(some 53), (.indexAddr 1 (.tmp 49) (.tmp 51)), none⟩, ⟨none, (.store 1 (.tmp 53) (.tmp 52)), none⟩]
def strata_Levels_r16 : List AStep := [⟨(some 8), (.mov (.con (.bool true))), none⟩]
def strata_Levels_r17 : List AStep := [⟨(some 54), (.mov (.tmp 11)), none⟩, ⟨(some 55), (.load false 1 (.tmp 2)), none⟩, ⟨(some 56), (.bin .gtr (.tmp 54) (.tmp 55)), none⟩]
def strata_Levels_r18 : List AStep := [⟨(some 4), (.mov (.con .nils)), none⟩, ⟨(some 5), (.mov (.con (.int .i64 33))), none⟩]
def strata_Levels_r19 : List AStep := [⟨(some 57), (.bin .add (.tmp 29) (.con (.int .i64 1))), none⟩, ⟨(some 29), (.mov (.tmp 57)), none⟩]
def strata_Levels_l20 : ACode := (.seq (.ops strata_Levels_r9) (.seq (.cond (.tmp 30) .skip (.exit 2)) (.seq (.block 3 (.seq (.ops strata_Levels_r10) (.seq (.ops strata_Levels_r11) (.seq (.seq (.ops strata_Levels_r12) (.cond (.tmp 39) (.ops strata_Levels_r13) .skip)) (.seq (.seq (.ops strata_Levels_r14) (.cond (.tmp 48) (.seq (.ops strata_Levels_r15) (.ops strata_Levels_r16)) .skip)) (.seq (.ops strata_Levels_r17) (.cond (.tmp 56) (.seq (.ops strata_Levels_r18) .ret) .skip))))))) (.ops strata_Levels_r19))))
def strata_Levels_l21 : ACode := (.seq (.seq (.ops strata_Levels_r6) (.cond (.tmp 26) .skip (.exit 0))) (.block 1 (.seq (.ops strata_Levels_r7) (.seq (.ops strata_Levels_r8) (.block 2 (.loop strata_Levels_l20))))))
def strata_Levels_r22 : List AStep := [⟨(some 58), (.mov (.tmp 7)), none⟩, ⟨(some 4), (.mov (.tmp 58)), none⟩, ⟨(some 5), (.mov (.con (.int .i64 0))), none⟩]
def strata_Levels_c : ACode := (.seq (.ops strata_Levels_r0) (.seq (.ops strata_Levels_r1) (.seq (.seq (.ops strata_Levels_r2) (.cond (.tmp 23) (.seq (.ops strata_Levels_r3) .ret) .skip)) (.seq (.ops strata_Levels_r4) (.seq (.seq (.ops strata_Levels_r5) (.block 0 (.loop strata_Levels_l21))) (.seq (.ops strata_Levels_r22) .ret))))))
def strata_Levels_a : AFunc := ⟨59, [(.tmp 4), (.tmp 5)], strata_Levels_c⟩
/-! strata_Levels_1 -/
def strata_Levels_1_r0 : List AStep := [⟨(some 2), (.box (.tmp 0)), none⟩, ⟨(some 3), (.mov (.con (.bool false))), none⟩]
def strata_Levels_1_r1 : List AStep := [⟨(some 4), (.fieldAddr 0 (.tmp 2)), none⟩, ⟨(some 5), (.load false 1 (.tmp 4)), none⟩, ⟨(some 6), (.bin .lss (.tmp 5) (.con (.int .i64 0))), none⟩, ⟨(some 7), (.mov (.tmp 6)), none⟩, ⟨(some 8), (.fieldAddr 0 (.tmp 2)), (some (7, false))⟩, ⟨(some 9), (.load false 1 (.tmp 8)), (some (7, false))⟩, ⟨(some 10), (.load false 1 (.tmp 1)), (some (7, false))⟩, ⟨(some 11), (.bin .geq (.tmp 9) (.tmp 10)), (some (7, false))⟩, ⟨(some 12), (.pick (.tmp 7) (.con (.bool true)) (.tmp 11)), none⟩, ⟨(some 13), (.mov (.tmp 12)), none⟩, ⟨(some 14), (.fieldAddr 1 (.tmp 2)), (some (13, false))⟩, ⟨(some 15), (.load false 1 (.tmp 14)), (some (13, false))⟩, ⟨(some 16), (.bin .lss (.tmp 15) (.con (.int .i64 0))), (some (13, false))⟩, ⟨(some 17), (.pick (.tmp 13) (.con (.bool true)) (.tmp 16)), none⟩, ⟨(some 18), (.mov (.tmp 17)), none⟩, ⟨(some 19), (.fieldAddr 1 (.tmp 2)), (some (18, false))⟩, ⟨(some 20), (.load false 1 (.tmp 19)), (some (18, false))⟩, ⟨(some 21), (.load false 1 (.tmp 1)), (some (18, false))⟩, ⟨(some 22), (.bin .geq (.tmp 20) (.tmp 21)), (some (18, false))⟩, ⟨(some 23), (.pick (.tmp 18) (.con (.bool true)) (.tmp 22)), none⟩, ⟨(some 3), (.mov (.tmp 23)), none⟩]
def strata_Levels_1_c : ACode := (.seq (.ops strata_Levels_1_r0) (.seq (.ops strata_Levels_1_r1) .ret))
def strata_Levels_1_a : AFunc := ⟨24, [(.tmp 3)], strata_Levels_1_c⟩
/-! slices_ContainsFunc_strata_Edge_strata_Edge -/
def slices_ContainsFunc_strata_Edge_strata_Edge_r0 : List AStep := [⟨(some 4), (.mov (.con (.bool false))), none⟩]
def slices_ContainsFunc_strata_Edge_strata_Edge_r1 : List AStep := [⟨(some 5), (.mov (.tmp 0)), none⟩, ⟨(some 6), (.mov (.tmp 1)), none⟩, ⟨(some 7), (.call (.con (.func n_slices_IndexFunc_strata_Edge_strata_Edge [])) [(.tmp 5), (.tmp 6)]), none⟩, ⟨(some 8), (.bin .geq (.tmp 7) (.con (.int .i64 0))), none⟩, ⟨(some 4), (.mov (.tmp 8)), none⟩]
def slices_ContainsFunc_strata_Edge_strata_Edge_c : ACode := (.seq (.ops slices_ContainsFunc_strata_Edge_strata_Edge_r0) (.seq (.ops slices_ContainsFunc_strata_Edge_strata_Edge_r1) .ret))
def slices_ContainsFunc_strata_Edge_strata_Edge_a : AFunc := ⟨9, [(.tmp 4)], slices_ContainsFunc_strata_Edge_strata_Edge_c⟩
/-! slices_IndexFunc_strata_Edge_strata_Edge -/
def slices_IndexFunc_strata_Edge_strata_Edge_r0 : List AStep := [⟨(some 4), (.mov (.con (.int .i64 0))), none⟩]
def slices_IndexFunc_strata_Edge_strata_Edge_r1 : List AStep := [⟨(some 6), (.mov (.tmp 0)), none⟩, ⟨(some 7), (.len (.tmp 6)), none⟩, ⟨(some 8), (.mov (.con (.int .i64 0))), none⟩]
def slices_IndexFunc_strata_Edge_strata_Edge_r2 : List AStep := [⟨(some 9), (.bin .lss (.tmp 8) (.tmp 7)), none⟩]
def slices_IndexFunc_strata_Edge_strata_Edge_r3 : List AStep := [⟨(some 10), (.mov (.tmp 8)), none⟩, ⟨(some 5), (.mov (.tmp 10)), none⟩]
def slices_IndexFunc_strata_Edge_strata_Edge_r4 : List AStep := [⟨(some 11), (.mov (.tmp 1)), none⟩, ⟨(some 12), (.mov (.tmp 0)), none⟩, ⟨(some 13), (.mov (.tmp 5)), none⟩, ⟨(some 14), (.indexAddr 3 (.tmp 12) (.tmp 13)), none⟩, ⟨(some 15), (.load true 3 (.tmp 14)), none⟩, ⟨(some 16), (.call (.tmp 11) [(.tmp 15)]), none⟩]
def slices_IndexFunc_strata_Edge_strata_Edge_r5 : List AStep := [⟨(some 17), (.mov (.tmp 5)), none⟩, ⟨(some 4), (.mov (.tmp 17)), none⟩]
def slices_IndexFunc_strata_Edge_strata_Edge_r6 : List AStep := [⟨(some 18), (.bin .add (.tmp 8) (.con (.int .i64 1))), none⟩, ⟨(some 8), (.mov (.tmp 18)), none⟩]
def slices_IndexFunc_strata_Edge_strata_Edge_l7 : ACode := (.seq (.ops slices_IndexFunc_strata_Edge_strata_Edge_r2) (.seq (.cond (.tmp 9) .skip (.exit 0)) (.seq (.block 1 (.seq (.ops slices_IndexFunc_strata_Edge_strata_Edge_r3) (.seq (.ops slices_IndexFunc_strata_Edge_strata_Edge_r4) (.cond (.tmp 16) (.seq (.ops slices_IndexFunc_strata_Edge_strata_Edge_r5) .ret) .skip)))) (.ops slices_IndexFunc_strata_Edge_strata_Edge_r6))))
def slices_IndexFunc_strata_Edge_strata_Edge_r8 : List AStep := [⟨(some 4), (.mov (.con (.int .i64 (-1)))), none⟩]
def slices_IndexFunc_strata_Edge_strata_Edge_c : ACode := (.seq (.ops slices_IndexFunc_strata_Edge_strata_Edge_r0) (.seq (.seq (.ops slices_IndexFunc_strata_Edge_strata_Edge_r1) (.block 0 (.loop slices_IndexFunc_strata_Edge_strata_Edge_l7))) (.seq (.ops slices_IndexFunc_strata_Edge_strata_Edge_r8) .ret)))
def slices_IndexFunc_strata_Edge_strata_Edge_a : AFunc := ⟨19, [(.tmp 4)], slices_IndexFunc_strata_Edge_strata_Edge_c⟩
/-! parse_reader_pass -/
def parse_reader_pass_r0 : List AStep := [⟨(some 4), (.mov (.con (.bool false))), none⟩]
def parse_reader_pass_r1 : List AStep := [⟨(some 5), (.mov (.tmp 0)), none⟩, ⟨(some 6), (.mov (.tmp 1)), none⟩, ⟨(some 7), (.call (.con (.func n_parse_reader_is [])) [(.tmp 5), (.tmp 6)]), none⟩, ⟨(some 8), (.not (.tmp 7)), none⟩]
def parse_reader_pass_r2 : List AStep := [⟨(some 4), (.mov (.con (.bool false))), none⟩]
def parse_reader_pass_r3 : List AStep := [⟨(some 9), (.mov (.tmp 0)), none⟩, ⟨(some 10), (.mov (.tmp 0)), none⟩, ⟨(some 11), (.nilCheck (.tmp 10)), none⟩, ⟨(some 12), (.fieldAddr 0 (.tmp 11)), none⟩, ⟨(some 13), (.load false 1 (.tmp 12)), none⟩, ⟨(some 14), (.sliceS 3 (.tmp 13) (some (.con (.int .i64 1))) none), none⟩, ⟨(some 15), (.nilCheck (.tmp 9)), none⟩, ⟨(some 16), (.fieldAddr 0 (.tmp 15)), none⟩, ⟨none, (.store 1 (.tmp 16) (.tmp 14)), none⟩]
def parse_reader_pass_r4 : List AStep := [⟨(some 4), (.mov (.con (.bool true))), none⟩]
def parse_reader_pass_c : ACode := (.seq (.ops parse_reader_pass_r0) (.seq (.seq (.ops parse_reader_pass_r1) (.cond (.tmp 8) (.seq (.ops parse_reader_pass_r2) .ret) .skip)) (.seq (.ops parse_reader_pass_r3) (.seq (.ops parse_reader_pass_r4) .ret))))
def parse_reader_pass_a : AFunc := ⟨17, [(.tmp 4)], parse_reader_pass_c⟩
/-! parse_reader_is -/
def parse_reader_is_r0 : List AStep := [⟨(some 4), (.mov (.con (.bool false))), none⟩]
def parse_reader_is_r1 : List AStep := [⟨(some 5), (.mov (.tmp 0)), none⟩, ⟨(some 6), (.nilCheck (.tmp 5)), none⟩, ⟨(some 7), (.fieldAddr 0 (.tmp 6)), none⟩, ⟨(some 8), (.load false 1 (.tmp 7)), none⟩, ⟨(some 9), (.indexAddr 3 (.tmp 8) (.con (.int .i64 0))), none⟩, ⟨(some 10), (.fieldAddr 1 (.tmp 9)), none⟩, ⟨(some 11), (.load false 1 (.tmp 10)), none⟩, ⟨(some 12), (.mov (.tmp 1)), none⟩, ⟨(some 13), (.bin .eql (.tmp 11) (.tmp 12)), none⟩, ⟨(some 14), (.mov (.tmp 13)), none⟩, ⟨(some 15), (.mov (.tmp 0)), (some (14, true))⟩, ⟨(some 16), (.nilCheck (.tmp 15)), (some (14, true))⟩, ⟨(some 17), (.fieldAddr 0 (.tmp 16)), (some (14, true))⟩, ⟨(some 18), (.load false 1 (.tmp 17)), (some (14, true))⟩, ⟨(some 19), (.indexAddr 3 (.tmp 18) (.con (.int .i64 0))), (some (14, true))⟩, ⟨(some 20), (.fieldAddr 0 (.tmp 19)), (some (14, true))⟩, ⟨(some 21), (.load false 1 (.tmp 20)), (some (14, true))⟩, ⟨(some 22), (.bin .eql (.tmp 21) (.con (.int .i64 2))), (some (14, true))⟩, ⟨(some 23), (.mov (.tmp 22)), (some (14, true))⟩, ⟨(some 24), (.mov (.tmp 1)), (some (23, false))⟩, ⟨(some 25), (.call (.con (.func n_token_Key [])) [(.tmp 24)]), (some (23, false))⟩, ⟨(some 26), (.pick (.tmp 23) (.con (.bool true)) (.tmp 25)), (some (14, true))⟩, ⟨(some 27), (.pick (.tmp 14) (.tmp 26) (.con (.bool false))), none⟩, ⟨(some 4), (.mov (.tmp 27)), none⟩]
def parse_reader_is_c : ACode := (.seq (.ops parse_reader_is_r0) (.seq (.ops parse_reader_is_r1) .ret))
def parse_reader_is_a : AFunc := ⟨28, [(.tmp 4)], parse_reader_is_c⟩
/-! token_Key -/
def token_Key_r0 : List AStep := [⟨(some 2), (.mov (.con (.bool false))), none⟩]
def token_Key_r1 : List AStep := [⟨(some 3), (.load false 1 (.con (.gptr g_token_keys))), none⟩, ⟨(some 4), (.mov (.tmp 0)), none⟩, ⟨(some 5), (.call (.con (.func n_slices_Contains_string_string [])) [(.tmp 3), (.tmp 4)]), none⟩, ⟨(some 2), (.mov (.tmp 5)), none⟩]
def token_Key_c : ACode := (.seq (.ops token_Key_r0) (.seq (.ops token_Key_r1) .ret))
def token_Key_a : AFunc := ⟨6, [(.tmp 2)], token_Key_c⟩
/-! slices_Contains_string_string -/
def slices_Contains_string_string_r0 : List AStep := [⟨(some 4), (.mov (.con (.bool false))), none⟩]
def slices_Contains_string_string_r1 : List AStep := [⟨(some 5), (.mov (.tmp 0)), none⟩, ⟨(some 6), (.mov (.tmp 1)), none⟩, ⟨(some 7), (.call (.con (.func n_slices_Index_string_string [])) [(.tmp 5), (.tmp 6)]), none⟩, ⟨(some 8), (.bin .geq (.tmp 7) (.con (.int .i64 0))), none⟩, ⟨(some 4), (.mov (.tmp 8)), none⟩]
def slices_Contains_string_string_c : ACode := (.seq (.ops slices_Contains_string_string_r0) (.seq (.ops slices_Contains_string_string_r1) .ret))
def slices_Contains_string_string_a : AFunc := ⟨9, [(.tmp 4)], slices_Contains_string_string_c⟩
/-! parse_reader_sign -/
def parse_reader_sign_r0 : List AStep := [⟨(some 2), (.mov (.con (.int .i64 0))), none⟩]
def parse_reader_sign_r1 : List AStep := [⟨(some 5), .makeMap, none⟩, ⟨none, (.mapPut .str (.tmp 5) (.con (.str [124])) (.con (.int .i64 4))), none⟩, ⟨none, (.mapPut .str (.tmp 5) (.con (.str [38])) (.con (.int .i64 5))), none⟩, ⟨none, (.mapPut .str (.tmp 5) (.con (.str [45])) (.con (.int .i64 6))), none⟩, ⟨(some 6), (.mov (.tmp 5)), none⟩, ⟨(some 7), (.rangeM (.tmp 6)), none⟩]
def parse_reader_sign_r2 : List AStep := [⟨(some 8), (.nextM (.tmp 7)), none⟩, ⟨(some 9), (.extract (.tmp 8) 0), none⟩]
def parse_reader_sign_r3 : List AStep := [⟨(some 10), (.entryM (.tmp 7)), none⟩, ⟨(some 11), (.extract (.tmp 10) 0), none⟩, ⟨(some 12), (.extract (.tmp 10) 1), none⟩, ⟨(some 3), (.mov (.tmp 11)), none⟩, ⟨(some 4), (.mov (.tmp 12)), none⟩]
def parse_reader_sign_r4 : List AStep := [⟨(some 13), (.mov (.tmp 0)), none⟩, ⟨(some 14), (.mov (.tmp 3)), none⟩, ⟨(some 15), (.call (.con (.func n_parse_reader_pass [])) [(.tmp 13), (.tmp 14)]), none⟩]
def parse_reader_sign_r5 : List AStep := [⟨(some 16), (.mov (.tmp 4)), none⟩, ⟨(some 2), (.mov (.tmp 16)), none⟩]
def parse_reader_sign_l6 : ACode := (.seq (.ops parse_reader_sign_r2) (.seq (.cond (.tmp 9) .skip (.exit 0)) (.block 1 (.seq (.ops parse_reader_sign_r3) (.seq (.ops parse_reader_sign_r4) (.cond (.tmp 15) (.seq (.ops parse_reader_sign_r5) .ret) .skip))))))
def parse_reader_sign_r7 : List AStep := [⟨(some 2), (.mov (.con (.int .i64 0))), none⟩]
def parse_reader_sign_c : ACode := (.seq (.ops parse_reader_sign_r0) (.seq (.seq (.ops parse_reader_sign_r1) (.block 0 (.loop parse_reader_sign_l6))) (.seq (.ops parse_reader_sign_r7) .ret)))
def parse_reader_sign_a : AFunc := ⟨17, [(.tmp 2)], parse_reader_sign_c⟩
/-! slices_Index_string_string -/
def slices_Index_string_string_r0 : List AStep := [⟨(some 4), (.mov (.con (.int .i64 0))), none⟩]
def slices_Index_string_string_r1 : List AStep := [⟨(some 6), (.mov (.tmp 0)), none⟩, ⟨(some 7), (.len (.tmp 6)), none⟩, ⟨(some 8), (.mov (.con (.int .i64 0))), none⟩]
def slices_Index_string_string_r2 : List AStep := [⟨(some 9), (.bin .lss (.tmp 8) (.tmp 7)), none⟩]
def slices_Index_string_string_r3 : List AStep := [⟨(some 10), (.mov (.tmp 8)), none⟩, ⟨(some 5), (.mov (.tmp 10)), none⟩]
def slices_Index_string_string_r4 : List AStep := [⟨(some 11), (.mov (.tmp 1)), none⟩, ⟨(some 12), (.mov (.tmp 0)), none⟩, ⟨(some 13), (.mov (.tmp 5)), none⟩, ⟨(some 14), (.indexAddr 1 (.tmp 12) (.tmp 13)), none⟩, ⟨(some 15), (.load false 1 (.tmp 14)), none⟩, ⟨(some 16), (.bin .eql (.tmp 11) (.tmp 15)), none⟩]
def slices_Index_string_string_r5 : List AStep := [⟨(some 17), (.mov (.tmp 5)), none⟩, ⟨(some 4), (.mov (.tmp 17)), none⟩]
def slices_Index_string_string_r6 : List AStep := [⟨(some 18), (.bin .add (.tmp 8) (.con (.int .i64 1))), none⟩, ⟨(some 8), (.mov (.tmp 18)), none⟩]
def slices_Index_string_string_l7 : ACode := (.seq (.ops slices_Index_string_string_r2) (.seq (.cond (.tmp 9) .skip (.exit 0)) (.seq (.block 1 (.seq (.ops slices_Index_string_string_r3) (.seq (.ops slices_Index_string_string_r4) (.cond (.tmp 16) (.seq (.ops slices_Index_string_string_r5) .ret) .skip)))) (.ops slices_Index_string_string_r6))))
def slices_Index_string_string_r8 : List AStep := [⟨(some 4), (.mov (.con (.int .i64 (-1)))), none⟩]
def slices_Index_string_string_c : ACode := (.seq (.ops slices_Index_string_string_r0) (.seq (.seq (.ops slices_Index_string_string_r1) (.block 0 (.loop slices_Index_string_string_l7))) (.seq (.ops slices_Index_string_string_r8) .ret)))
def slices_Index_string_string_a : AFunc := ⟨19, [(.tmp 4)], slices_Index_string_string_c⟩
set_option maxRecDepth 100000 in
theorem T_doormanlaw10_StrataLeast : table PP n_doormanlaw10_StrataLeast = some doormanlaw10_StrataLeast_a := by kernel_rfl
set_option maxRecDepth 100000 in
theorem T_strata_Levels : table PP n_strata_Levels = some strata_Levels_a := by kernel_rfl
set_option maxRecDepth 100000 in
theorem T_strata_Levels_1 : table PP n_strata_Levels_1 = some strata_Levels_1_a := by kernel_rfl
set_option maxRecDepth 100000 in
theorem T_slices_ContainsFunc_strata_Edge_strata_Edge : table PP n_slices_ContainsFunc_strata_Edge_strata_Edge = some slices_ContainsFunc_strata_Edge_strata_Edge_a := by kernel_rfl
set_option maxRecDepth 100000 in
theorem T_slices_IndexFunc_strata_Edge_strata_Edge : table PP n_slices_IndexFunc_strata_Edge_strata_Edge = some slices_IndexFunc_strata_Edge_strata_Edge_a := by kernel_rfl
set_option maxRecDepth 100000 in
theorem T_parse_reader_pass : table PP n_parse_reader_pass = some parse_reader_pass_a := by kernel_rfl
set_option maxRecDepth 100000 in
theorem T_parse_reader_is : table PP n_parse_reader_is = some parse_reader_is_a := by kernel_rfl
set_option maxRecDepth 100000 in
theorem T_token_Key : table PP n_token_Key = some token_Key_a := by kernel_rfl
set_option maxRecDepth 100000 in
theorem T_slices_Contains_string_string : table PP n_slices_Contains_string_string = some slices_Contains_string_string_a := by kernel_rfl
set_option maxRecDepth 100000 in
theorem T_parse_reader_sign : table PP n_parse_reader_sign = some parse_reader_sign_a := by kernel_rfl
set_option maxRecDepth 100000 in
theorem T_slices_Index_string_string : table PP n_slices_Index_string_string = some slices_Index_string_string_a := by kernel_rfl
end Go.Proofs.YtaahagjaldgmoaaDoor.Ev.C
