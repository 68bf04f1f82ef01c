/- The functions of the program as the interpreter has them, printed by a program of ours. -/
import Derived.Test.YtmfbememiffkjaaProg
import Derived.Test.YtmfbememiffkjaaEv29
namespace Go.Proofs.Ytmfbememiffkjaa.Ev.C
open Go Go.Proofs.Ytmfbememiffkjaa.Ev
noncomputable abbrev TT : Nat → Option AFunc := table Go.Proofs.Try.prog
/-! 3 -/
def f3_r0 : List AStep := [⟨(some 4), (.mov (.con (.bool false))), none⟩]
def f3_r1 : List AStep := [⟨(some 31), (.call (.con (.func 13 [])) []), none⟩, ⟨(some 5), (.mov (.tmp 31)), none⟩]
def f3_r2 : List AStep := [⟨(some 32), (.mov (.tmp 5)), none⟩, ⟨(some 33), (.not (.tmp 32)), none⟩]
def f3_r3 : List AStep := [⟨(some 4), (.mov (.con (.bool false))), none⟩]
def f3_r4 : List AStep := [⟨(some 34), (.mov (.tmp 1)), none⟩, ⟨(some 35), (.call (.con (.func 14 [])) [(.tmp 34)]), none⟩, ⟨(some 6), (.mov (.tmp 35)), none⟩]
def f3_r5 : List AStep := [⟨(some 36), (.mov (.tmp 0)), none⟩, ⟨(some 37), (.cvInt .i64 (.tmp 36)), none⟩, ⟨(some 38), (.bin .rem (.tmp 37) (.con (.int .i64 6))), none⟩, ⟨(some 39), (.bin .add (.tmp 38) (.con (.int .i64 1))), none⟩, ⟨(some 7), (.mov (.tmp 39)), none⟩]
def f3_r6 : List AStep := [⟨(some 40), (.mov (.tmp 6)), none⟩, ⟨(some 41), (.not (.tmp 40)), none⟩]
def f3_r7 : List AStep := [⟨(some 4), (.mov (.con (.bool true))), none⟩]
def f3_r8 : List AStep := [⟨(some 43), (.mov (.tmp 7)), none⟩, ⟨(some 44), (.call (.con (.func 15 [])) [(.tmp 43)]), none⟩, ⟨(some 42), (.mov (.tmp 44)), none⟩, ⟨(some 45), (.extract (.tmp 42) 0), none⟩, ⟨(some 46), (.extract (.tmp 42) 1), none⟩, ⟨(some 8), (.mov (.tmp 45)), none⟩, ⟨(some 9), (.mov (.tmp 46)), none⟩]
def f3_r9 : List AStep := [⟨(some 47), (.mov (.tmp 9)), none⟩, ⟨(some 48), (.bin .neq (.tmp 47) (.con (.int .i64 0))), none⟩]
def f3_r10 : List AStep := [⟨(some 4), (.mov (.con (.bool false))), none⟩]
def f3_r11 : List AStep := [⟨(some 49), (.mov (.tmp 7)), none⟩, ⟨(some 50), (.call (.con (.func 16 [])) [(.tmp 49)]), none⟩, ⟨(some 10), (.alloc [.nils, .nils, (.int .i64 0), (.bool false)]), none⟩, ⟨none, (.store 4 (.tmp 10) (.tmp 50)), none⟩]
def f3_r12 : List AStep := [⟨(some 11), (.mov (.con (.int .i64 0))), none⟩]
def f3_r13 : List AStep := [⟨(some 51), (.mov (.tmp 11)), none⟩, ⟨(some 52), (.mov (.tmp 1)), none⟩, ⟨(some 53), (.len (.tmp 52)), none⟩, ⟨(some 54), (.bin .lss (.tmp 51) (.tmp 53)), none⟩]
def f3_r14 : List AStep := [⟨(some 57), (.mov (.tmp 1)), none⟩, ⟨(some 58), (.mov (.tmp 11)), none⟩, ⟨(some 59), (.indexAddr 4 (.tmp 57) (.tmp 58)), none⟩, ⟨(some 60), (.load true 4 (.tmp 59)), none⟩, ⟨(some 12), (.alloc [(.int .u8 0), (.int .i64 0), .nils, .nils]), none⟩, ⟨none, (.store 4 (.tmp 12) (.tmp 60)), none⟩]
def f3_r15 : List AStep := [⟨(some 61), (.fieldAddr 0 (.tmp 12)), none⟩, ⟨(some 62), (.load false 1 (.tmp 61)), none⟩]
def f3_r16 : List AStep := [⟨(some 99), (.bin .eql (.tmp 62) (.con (.int .u8 0))), none⟩, ⟨(some 98), (.mov (.tmp 99)), none⟩]
def f3_r17 : List AStep := [⟨(some 100), (.mov (.tmp 8)), none⟩, ⟨(some 101), (.fieldAddr 1 (.tmp 12)), none⟩, ⟨(some 102), (.load false 1 (.tmp 101)), none⟩, ⟨(some 103), (.fieldAddr 2 (.tmp 12)), none⟩, ⟨(some 104), (.load false 1 (.tmp 103)), none⟩, ⟨(some 105), (.call (.con (.func 17 [])) [(.tmp 100), (.tmp 102), (.tmp 104)]), none⟩, ⟨(some 13), (.mov (.tmp 105)), none⟩]
def f3_r18 : List AStep := [⟨(some 107), (.load true 4 (.tmp 10)), none⟩, ⟨(some 108), (.fieldAddr 1 (.tmp 12)), none⟩, ⟨(some 109), (.load false 1 (.tmp 108)), none⟩, ⟨(some 110), (.fieldAddr 2 (.tmp 12)), none⟩, ⟨(some 111), (.load false 1 (.tmp 110)), none⟩, ⟨(some 112), (.cvB2S (.tmp 111)), none⟩, ⟨(some 113), (.call (.con (.func 18 [])) [(.tmp 107), (.tmp 109), (.tmp 112)]), none⟩, ⟨(some 106), (.mov (.tmp 113)), none⟩, ⟨(some 114), (.extract (.tmp 106) 0), none⟩, ⟨(some 115), (.extract (.tmp 106) 1), none⟩, ⟨(some 14), (.alloc [.nils, .nils, (.int .i64 0), (.bool false)]), none⟩, ⟨none, (.store 4 (.tmp 14) (.tmp 114)), none⟩, ⟨(some 15), (.mov (.tmp 115)), none⟩]
def f3_r19 : List AStep := [⟨(some 116), (.load true 4 (.tmp 14)), none⟩, ⟨none, (.store 4 (.tmp 10) (.tmp 116)), none⟩]
def f3_r20 : List AStep := [⟨(some 117), (.mov (.tmp 13)), none⟩, ⟨(some 118), (.mov (.tmp 15)), none⟩, ⟨(some 119), (.bin .neq (.tmp 117) (.tmp 118)), none⟩]
def f3_r21 : List AStep := [⟨(some 4), (.mov (.con (.bool false))), none⟩]
def f3_r22 : List AStep := [⟨(some 121), (.bin .eql (.tmp 62) (.con (.int .u8 1))), none⟩, ⟨(some 120), (.mov (.tmp 121)), none⟩]
def f3_r23 : List AStep := [⟨(some 122), (.mov (.tmp 8)), none⟩, ⟨(some 123), (.call (.con (.func 19 [])) [(.tmp 122)]), none⟩, ⟨(some 16), (.mov (.tmp 123)), none⟩]
def f3_r24 : List AStep := [⟨(some 125), (.load true 4 (.tmp 10)), none⟩, ⟨(some 126), (.call (.con (.func 20 [])) [(.tmp 125)]), none⟩, ⟨(some 124), (.mov (.tmp 126)), none⟩, ⟨(some 127), (.extract (.tmp 124) 0), none⟩, ⟨(some 128), (.extract (.tmp 124) 1), none⟩, ⟨(some 17), (.alloc [.nils, .nils, (.int .i64 0), (.bool false)]), none⟩, ⟨none, (.store 4 (.tmp 17) (.tmp 127)), none⟩, ⟨(some 18), (.mov (.tmp 128)), none⟩]
def f3_r25 : List AStep := [⟨(some 129), (.load true 4 (.tmp 17)), none⟩, ⟨none, (.store 4 (.tmp 10) (.tmp 129)), none⟩]
def f3_r26 : List AStep := [⟨(some 130), (.mov (.tmp 16)), none⟩, ⟨(some 131), (.mov (.tmp 18)), none⟩, ⟨(some 132), (.bin .neq (.tmp 130) (.tmp 131)), none⟩]
def f3_r27 : List AStep := [⟨(some 4), (.mov (.con (.bool false))), none⟩]
def f3_r28 : List AStep := [⟨(some 134), (.bin .eql (.tmp 62) (.con (.int .u8 2))), none⟩, ⟨(some 133), (.mov (.tmp 134)), none⟩]
def f3_r29 : List AStep := [⟨(some 135), (.mov (.tmp 8)), none⟩, ⟨(some 136), (.fieldAddr 1 (.tmp 12)), none⟩, ⟨(some 137), (.load false 1 (.tmp 136)), none⟩, ⟨(some 138), (.call (.con (.func 21 [])) [(.tmp 135), (.tmp 137)]), none⟩]
def f3_r30 : List AStep := [⟨(some 139), (.load true 4 (.tmp 10)), none⟩, ⟨(some 140), (.fieldAddr 1 (.tmp 12)), none⟩, ⟨(some 141), (.load false 1 (.tmp 140)), none⟩, ⟨(some 142), (.call (.con (.func 22 [])) [(.tmp 139), (.tmp 141)]), none⟩, ⟨none, (.store 4 (.tmp 10) (.tmp 142)), none⟩]
def f3_r31 : List AStep := [⟨(some 144), (.bin .eql (.tmp 62) (.con (.int .u8 3))), none⟩, ⟨(some 143), (.mov (.tmp 144)), none⟩]
def f3_r32 : List AStep := [⟨(some 145), (.mov (.tmp 8)), none⟩, ⟨(some 19), (.mov (.tmp 145)), none⟩]
def f3_r33 : List AStep := [⟨(some 146), (.mov (.tmp 8)), none⟩, ⟨(some 147), (.call (.con (.func 23 [])) [(.tmp 146)]), none⟩, ⟨(some 20), (.mov (.tmp 147)), none⟩]
def f3_r34 : List AStep := [⟨(some 148), (.mov (.tmp 8)), none⟩, ⟨(some 149), (.fieldAddr 3 (.tmp 12)), none⟩, ⟨(some 150), (.load false 1 (.tmp 149)), none⟩, ⟨(some 151), (.call (.con (.func 24 [])) [(.tmp 148), (.tmp 150)]), none⟩, ⟨(some 8), (.mov (.tmp 151)), none⟩]
def f3_r35 : List AStep := [⟨(some 152), (.load true 4 (.tmp 10)), none⟩, ⟨(some 153), (.fieldAddr 3 (.tmp 12)), none⟩, ⟨(some 154), (.load false 1 (.tmp 153)), none⟩, ⟨(some 155), (.call (.con (.func 25 [])) [(.tmp 152), (.tmp 154)]), none⟩, ⟨none, (.store 4 (.tmp 10) (.tmp 155)), none⟩]
def f3_r36 : List AStep := [⟨(some 156), (.mov (.tmp 8)), none⟩, ⟨(some 157), (.eq .ptr false (.tmp 156) (.con .nilp)), none⟩, ⟨(some 158), (.mov (.tmp 157)), none⟩, ⟨(some 159), (.mov (.tmp 19)), (some (158, false))⟩, ⟨(some 160), (.call (.con (.func 23 [])) [(.tmp 159)]), (some (158, false))⟩, ⟨(some 161), (.mov (.tmp 20)), (some (158, false))⟩, ⟨(some 162), (.bin .neq (.tmp 160) (.tmp 161)), (some (158, false))⟩, ⟨(some 163), (.pick (.tmp 158) (.con (.bool true)) (.tmp 162)), none⟩]
def f3_r37 : List AStep := [⟨(some 4), (.mov (.con (.bool false))), none⟩]
def f3_r38 : List AStep := [⟨(some 64), (.mov (.tmp 8)), none⟩, ⟨(some 65), (.fieldAddr 1 (.tmp 12)), none⟩, ⟨(some 66), (.load false 1 (.tmp 65)), none⟩, ⟨(some 67), (.call (.con (.func 26 [])) [(.tmp 64), (.tmp 66)]), none⟩, ⟨(some 63), (.mov (.tmp 67)), none⟩, ⟨(some 68), (.extract (.tmp 63) 0), none⟩, ⟨(some 69), (.extract (.tmp 63) 1), none⟩, ⟨(some 21), (.mov (.tmp 68)), none⟩, ⟨(some 22), (.mov (.tmp 69)), none⟩]
def f3_r39 : List AStep := [⟨(some 71), (.load true 4 (.tmp 10)), none⟩, ⟨(some 72), (.fieldAddr 1 (.tmp 12)), none⟩, ⟨(some 73), (.load false 1 (.tmp 72)), none⟩, ⟨(some 74), (.call (.con (.func 27 [])) [(.tmp 71), (.tmp 73)]), none⟩, ⟨(some 70), (.mov (.tmp 74)), none⟩, ⟨(some 75), (.extract (.tmp 70) 0), none⟩, ⟨(some 76), (.extract (.tmp 70) 1), none⟩, ⟨(some 23), (.mov (.tmp 75)), none⟩, ⟨(some 24), (.mov (.tmp 76)), none⟩]
def f3_r40 : List AStep := [⟨(some 77), (.mov (.tmp 21)), none⟩, ⟨(some 78), (.cvB2S (.tmp 77)), none⟩, ⟨(some 79), (.mov (.tmp 23)), none⟩, ⟨(some 80), (.bin .neq (.tmp 78) (.tmp 79)), none⟩, ⟨(some 81), (.mov (.tmp 80)), none⟩, ⟨(some 82), (.mov (.tmp 22)), (some (81, false))⟩, ⟨(some 83), (.mov (.tmp 24)), (some (81, false))⟩, ⟨(some 84), (.bin .neq (.tmp 82) (.tmp 83)), (some (81, false))⟩, ⟨(some 85), (.pick (.tmp 81) (.con (.bool true)) (.tmp 84)), none⟩]
def f3_r41 : List AStep := [⟨(some 4), (.mov (.con (.bool false))), none⟩]
def f3_r42 : List AStep := [⟨(some 25), (.mov (.con (.int .i64 0))), none⟩]
def f3_r43 : List AStep := [⟨(some 86), (.mov (.tmp 25)), none⟩, ⟨(some 87), (.mov (.tmp 21)), none⟩, ⟨(some 88), (.len (.tmp 87)), none⟩, ⟨(some 89), (.bin .lss (.tmp 86) (.tmp 88)), none⟩]
def f3_r44 : List AStep := [⟨(some 92), (.mov (.tmp 21)), none⟩, ⟨(some 93), (.mov (.tmp 25)), none⟩, ⟨(some 94), (.indexAddr 1 (.tmp 92) (.tmp 93)), none⟩, ⟨(some 95), (.load false 1 (.tmp 94)), none⟩, ⟨(some 96), (.bin .add (.tmp 95) (.con (.int .u8 1))), none⟩, ⟨(some 97), (.indexAddr 1 (.tmp 92) (.tmp 93)), none⟩, ⟨none, (.store 1 (.tmp 97) (.tmp 96)), none⟩]
def f3_r45 : List AStep := [⟨(some 90), (.mov (.tmp 25)), none⟩, ⟨(some 91), (.bin .add (.tmp 90) (.con (.int .i64 1))), none⟩, ⟨(some 25), (.mov (.tmp 91)), none⟩]
def f3_l46 : ACode := (.seq (.seq (.ops f3_r43) (.cond (.tmp 89) .skip (.exit 3))) (.seq (.block 4 (.ops f3_r44)) (.ops f3_r45)))
def f3_r47 : List AStep := [⟨(some 26), (.mov (.con (.int .i64 0))), none⟩]
def f3_r48 : List AStep := [⟨(some 164), (.mov (.tmp 26)), none⟩, ⟨(some 165), (.mov (.tmp 7)), none⟩, ⟨(some 166), (.bin .lss (.tmp 164) (.tmp 165)), none⟩]
def f3_r49 : List AStep := [⟨(some 170), (.mov (.tmp 8)), none⟩, ⟨(some 171), (.mov (.tmp 26)), none⟩, ⟨(some 172), (.call (.con (.func 26 [])) [(.tmp 170), (.tmp 171)]), none⟩, ⟨(some 169), (.mov (.tmp 172)), none⟩, ⟨(some 173), (.extract (.tmp 169) 0), none⟩, ⟨(some 174), (.extract (.tmp 169) 1), none⟩, ⟨(some 27), (.mov (.tmp 173)), none⟩, ⟨(some 28), (.mov (.tmp 174)), none⟩]
def f3_r50 : List AStep := [⟨(some 176), (.load true 4 (.tmp 10)), none⟩, ⟨(some 177), (.mov (.tmp 26)), none⟩, ⟨(some 178), (.call (.con (.func 27 [])) [(.tmp 176), (.tmp 177)]), none⟩, ⟨(some 175), (.mov (.tmp 178)), none⟩, ⟨(some 179), (.extract (.tmp 175) 0), none⟩, ⟨(some 180), (.extract (.tmp 175) 1), none⟩, ⟨(some 29), (.mov (.tmp 179)), none⟩, ⟨(some 30), (.mov (.tmp 180)), none⟩]
def f3_r51 : List AStep := [⟨(some 181), (.mov (.tmp 27)), none⟩, ⟨(some 182), (.cvB2S (.tmp 181)), none⟩, ⟨(some 183), (.mov (.tmp 29)), none⟩, ⟨(some 184), (.bin .neq (.tmp 182) (.tmp 183)), none⟩, ⟨(some 185), (.mov (.tmp 184)), none⟩, ⟨(some 186), (.mov (.tmp 28)), (some (185, false))⟩, ⟨(some 187), (.mov (.tmp 30)), (some (185, false))⟩, ⟨(some 188), (.bin .neq (.tmp 186) (.tmp 187)), (some (185, false))⟩, ⟨(some 189), (.pick (.tmp 185) (.con (.bool true)) (.tmp 188)), none⟩]
def f3_r52 : List AStep := [⟨(some 4), (.mov (.con (.bool false))), none⟩]
def f3_r53 : List AStep := [⟨(some 167), (.mov (.tmp 26)), none⟩, ⟨(some 168), (.bin .add (.tmp 167) (.con (.int .i64 1))), none⟩, ⟨(some 26), (.mov (.tmp 168)), none⟩]
def f3_l54 : ACode := (.seq (.seq (.ops f3_r48) (.cond (.tmp 166) .skip (.exit 5))) (.seq (.block 6 (.seq (.ops f3_r49) (.seq (.ops f3_r50) (.seq (.ops f3_r51) (.cond (.tmp 189) (.seq (.ops f3_r52) .ret) .skip))))) (.ops f3_r53)))
def f3_r55 : List DStep := [⟨0, 0, ⟨(some 190), (.mov (.tmp 8)), none⟩⟩, ⟨2, 0, ⟨(some 192), (.fieldAddr 3 (.tmp 10)), none⟩⟩, ⟨3, 4, ⟨(some 193), (.load false 1 (.tmp 192)), none⟩⟩, ⟨1, 1, ⟨(some 191), (.call (.con (.func 28 [])) [(.tmp 190)]), none⟩⟩, ⟨4, 15, ⟨(some 194), (.eq .bool true (.tmp 191) (.tmp 193)), none⟩⟩, ⟨5, 31, ⟨(some 195), (.mov (.tmp 194)), none⟩⟩, ⟨6, 63, ⟨(some 196), (.mov (.tmp 8)), (some (195, false))⟩⟩, ⟨8, 63, ⟨(some 198), (.fieldAddr 1 (.tmp 10)), (some (195, false))⟩⟩, ⟨9, 319, ⟨(some 199), (.load false 1 (.tmp 198)), (some (195, false))⟩⟩, ⟨10, 831, ⟨(some 200), (.len (.tmp 199)), (some (195, false))⟩⟩, ⟨7, 127, ⟨(some 197), (.call (.con (.func 23 [])) [(.tmp 196)]), (some (195, false))⟩⟩, ⟨11, 2047, ⟨(some 201), (.bin .neq (.tmp 197) (.tmp 200)), (some (195, false))⟩⟩, ⟨12, 4095, ⟨(some 202), (.pick (.tmp 195) (.con (.bool true)) (.tmp 201)), none⟩⟩, ⟨13, 8191, ⟨(some 203), (.mov (.tmp 202)), none⟩⟩, ⟨14, 16383, ⟨(some 204), (.mov (.tmp 8)), (some (203, false))⟩⟩, ⟨16, 16383, ⟨(some 206), (.mov (.tmp 7)), (some (203, false))⟩⟩, ⟨15, 32767, ⟨(some 205), (.call (.con (.func 29 [])) [(.tmp 204)]), (some (203, false))⟩⟩, ⟨17, 131071, ⟨(some 207), (.bin .neq (.tmp 205) (.tmp 206)), (some (203, false))⟩⟩, ⟨18, 262143, ⟨(some 208), (.pick (.tmp 203) (.con (.bool true)) (.tmp 207)), none⟩⟩]
def f3_r56 : List AStep := [⟨(some 4), (.mov (.con (.bool false))), none⟩]
def f3_r57 : List AStep := [⟨(some 55), (.mov (.tmp 11)), none⟩, ⟨(some 56), (.bin .add (.tmp 55) (.con (.int .i64 1))), none⟩, ⟨(some 11), (.mov (.tmp 56)), none⟩]
def f3_l58 : ACode := (.seq (.seq (.ops f3_r13) (.cond (.tmp 54) .skip (.exit 0))) (.seq (.block 1 (.seq (.ops f3_r14) (.seq (.seq (.ops f3_r15) (.block 2 (.seq (.ops f3_r16) (.cond (.tmp 98) (.seq (.ops f3_r17) (.seq (.ops f3_r18) (.seq (.ops f3_r19) (.seq (.ops f3_r20) (.cond (.tmp 119) (.seq (.ops f3_r21) .ret) .skip))))) (.seq (.ops f3_r22) (.cond (.tmp 120) (.seq (.ops f3_r23) (.seq (.ops f3_r24) (.seq (.ops f3_r25) (.seq (.ops f3_r26) (.cond (.tmp 132) (.seq (.ops f3_r27) .ret) .skip))))) (.seq (.ops f3_r28) (.cond (.tmp 133) (.seq (.ops f3_r29) (.ops f3_r30)) (.seq (.ops f3_r31) (.cond (.tmp 143) (.seq (.ops f3_r32) (.seq (.ops f3_r33) (.seq (.ops f3_r34) (.seq (.ops f3_r35) (.seq (.ops f3_r36) (.cond (.tmp 163) (.seq (.ops f3_r37) .ret) .skip)))))) (.seq (.ops f3_r38) (.seq (.ops f3_r39) (.seq (.seq (.ops f3_r40) (.cond (.tmp 85) (.seq (.ops f3_r41) .ret) .skip)) (.seq (.ops f3_r42) (.block 3 (.loop f3_l46)))))))))))))))) (.seq (.seq (.ops f3_r47) (.block 5 (.loop f3_l54))) (.seq (.draw f3_r55) (.cond (.tmp 208) (.seq (.ops f3_r56) .ret) .skip)))))) (.ops f3_r57)))
def f3_r59 : List AStep := [⟨(some 4), (.mov (.con (.bool true))), none⟩]
def f3_c : ACode := (.seq (.ops f3_r0) (.seq (.ops f3_r1) (.seq (.seq (.ops f3_r2) (.cond (.tmp 33) (.seq (.ops f3_r3) .ret) .skip)) (.seq (.ops f3_r4) (.seq (.ops f3_r5) (.seq (.seq (.ops f3_r6) (.cond (.tmp 41) (.seq (.ops f3_r7) .ret) .skip)) (.seq (.ops f3_r8) (.seq (.seq (.ops f3_r9) (.cond (.tmp 48) (.seq (.ops f3_r10) .ret) .skip)) (.seq (.ops f3_r11) (.seq (.seq (.ops f3_r12) (.block 0 (.loop f3_l58))) (.seq (.ops f3_r59) .ret)))))))))))
def f3_a : AFunc := ⟨209, [(.tmp 4)], f3_c⟩

/-! 4 -/
def f4_r0 : List AStep := [⟨(some 8), (.mov (.con (.bool false))), none⟩]
def f4_r1 : List AStep := [⟨(some 37), (.call (.con (.func 13 [])) []), none⟩, ⟨(some 9), (.mov (.tmp 37)), none⟩]
def f4_r2 : List AStep := [⟨(some 38), (.mov (.tmp 9)), none⟩, ⟨(some 39), (.not (.tmp 38)), none⟩]
def f4_r3 : List AStep := [⟨(some 8), (.mov (.con (.bool false))), none⟩]
def f4_r4 : List AStep := [⟨(some 40), (.mov (.tmp 1)), none⟩, ⟨(some 41), (.call (.con (.func 14 [])) [(.tmp 40)]), none⟩, ⟨(some 10), (.mov (.tmp 41)), none⟩]
def f4_r5 : List AStep := [⟨(some 42), (.mov (.tmp 2)), none⟩, ⟨(some 43), (.call (.con (.func 14 [])) [(.tmp 42)]), none⟩, ⟨(some 11), (.mov (.tmp 43)), none⟩]
def f4_r6 : List AStep := [⟨(some 44), (.mov (.tmp 0)), none⟩, ⟨(some 45), (.cvInt .i64 (.tmp 44)), none⟩, ⟨(some 46), (.bin .rem (.tmp 45) (.con (.int .i64 6))), none⟩, ⟨(some 47), (.bin .add (.tmp 46) (.con (.int .i64 1))), none⟩, ⟨(some 12), (.mov (.tmp 47)), none⟩]
def f4_r7 : List AStep := [⟨(some 48), (.mov (.tmp 10)), none⟩, ⟨(some 49), (.not (.tmp 48)), none⟩, ⟨(some 50), (.mov (.tmp 49)), none⟩, ⟨(some 51), (.mov (.tmp 11)), (some (50, false))⟩, ⟨(some 52), (.not (.tmp 51)), (some (50, false))⟩, ⟨(some 53), (.pick (.tmp 50) (.con (.bool true)) (.tmp 52)), none⟩, ⟨(some 54), (.mov (.tmp 53)), none⟩, ⟨(some 55), (.mov (.tmp 3)), (some (54, false))⟩, ⟨(some 56), (.len (.tmp 55)), (some (54, false))⟩, ⟨(some 57), (.bin .gtr (.tmp 56) (.con (.int .i64 60))), (some (54, false))⟩, ⟨(some 58), (.pick (.tmp 54) (.con (.bool true)) (.tmp 57)), none⟩]
def f4_r8 : List AStep := [⟨(some 8), (.mov (.con (.bool true))), none⟩]
def f4_r9 : List AStep := [⟨(some 60), (.mov (.tmp 12)), none⟩, ⟨(some 61), (.call (.con (.func 15 [])) [(.tmp 60)]), none⟩, ⟨(some 59), (.mov (.tmp 61)), none⟩, ⟨(some 62), (.extract (.tmp 59) 0), none⟩, ⟨(some 63), (.extract (.tmp 59) 1), none⟩, ⟨(some 13), (.mov (.tmp 62)), none⟩, ⟨(some 14), (.mov (.tmp 63)), none⟩]
def f4_r10 : List AStep := [⟨(some 64), (.mov (.tmp 14)), none⟩, ⟨(some 65), (.bin .neq (.tmp 64) (.con (.int .i64 0))), none⟩]
def f4_r11 : List AStep := [⟨(some 8), (.mov (.con (.bool false))), none⟩]
def f4_r12 : List AStep := [⟨(some 15), (.mov (.con (.int .i64 0))), none⟩]
def f4_r13 : List AStep := [⟨(some 66), (.mov (.tmp 15)), none⟩, ⟨(some 67), (.mov (.tmp 1)), none⟩, ⟨(some 68), (.len (.tmp 67)), none⟩, ⟨(some 69), (.bin .lss (.tmp 66) (.tmp 68)), none⟩]
def f4_r14 : List DStep := [⟨0, 0, ⟨(some 72), (.mov (.tmp 13)), none⟩⟩, ⟨1, 0, ⟨(some 73), (.mov (.tmp 1)), none⟩⟩, ⟨2, 0, ⟨(some 74), (.mov (.tmp 15)), none⟩⟩, ⟨3, 6, ⟨(some 75), (.indexAddr 4 (.tmp 73) (.tmp 74)), none⟩⟩, ⟨4, 14, ⟨(some 76), (.fieldAddr 1 (.tmp 75)), none⟩⟩, ⟨5, 30, ⟨(some 77), (.load false 1 (.tmp 76)), none⟩⟩, ⟨6, 0, ⟨(some 78), (.mov (.tmp 1)), none⟩⟩, ⟨7, 0, ⟨(some 79), (.mov (.tmp 15)), none⟩⟩, ⟨8, 192, ⟨(some 80), (.indexAddr 4 (.tmp 78) (.tmp 79)), none⟩⟩, ⟨9, 448, ⟨(some 81), (.fieldAddr 2 (.tmp 80)), none⟩⟩, ⟨10, 960, ⟨(some 82), (.load false 1 (.tmp 81)), none⟩⟩, ⟨11, 2047, ⟨(some 83), (.call (.con (.func 17 [])) [(.tmp 72), (.tmp 77), (.tmp 82)]), none⟩⟩]
def f4_r15 : List AStep := [⟨(some 70), (.mov (.tmp 15)), none⟩, ⟨(some 71), (.bin .add (.tmp 70) (.con (.int .i64 1))), none⟩, ⟨(some 15), (.mov (.tmp 71)), none⟩]
def f4_l16 : ACode := (.seq (.seq (.ops f4_r13) (.cond (.tmp 69) .skip (.exit 0))) (.seq (.block 1 (.draw f4_r14)) (.ops f4_r15)))
def f4_r17 : List AStep := [⟨(some 84), (.mov (.tmp 13)), none⟩, ⟨(some 85), (.call (.con (.func 19 [])) [(.tmp 84)]), none⟩]
def f4_r18 : List AStep := [⟨(some 16), (.mov (.con .nils)), none⟩]
def f4_r19 : List AStep := [⟨(some 17), (.mov (.con (.int .i64 0))), none⟩]
def f4_r20 : List AStep := [⟨(some 86), (.mov (.tmp 17)), none⟩, ⟨(some 87), (.mov (.tmp 12)), none⟩, ⟨(some 88), (.bin .lss (.tmp 86) (.tmp 87)), none⟩]
def f4_r21 : List AStep := [⟨(some 92), (.mov (.tmp 13)), none⟩, ⟨(some 93), (.mov (.tmp 17)), none⟩, ⟨(some 94), (.call (.con (.func 26 [])) [(.tmp 92), (.tmp 93)]), none⟩, ⟨(some 91), (.mov (.tmp 94)), none⟩, ⟨(some 95), (.extract (.tmp 91) 0), none⟩, ⟨(some 96), (.extract (.tmp 91) 1), none⟩, ⟨(some 18), (.mov (.tmp 95)), none⟩, ⟨(some 19), (.mov (.tmp 96)), none⟩]
def f4_r22 : List AStep := [⟨(some 97), (.mov (.tmp 16)), none⟩, ⟨(some 98), (.mov (.tmp 18)), none⟩, ⟨(some 99), (.buildSlice 1 1 [.nils] [(0, (1, (.tmp 98)))]), none⟩, ⟨(some 100), (.append 1 (.tmp 97) (.tmp 99)), none⟩, ⟨(some 16), (.mov (.tmp 100)), none⟩]
def f4_r23 : List AStep := [⟨(some 89), (.mov (.tmp 17)), none⟩, ⟨(some 90), (.bin .add (.tmp 89) (.con (.int .i64 1))), none⟩, ⟨(some 17), (.mov (.tmp 90)), none⟩]
def f4_l24 : ACode := (.seq (.seq (.ops f4_r20) (.cond (.tmp 88) .skip (.exit 2))) (.seq (.block 3 (.seq (.ops f4_r21) (.ops f4_r22))) (.ops f4_r23)))
def f4_r25 : List AStep := [⟨(some 101), (.mov (.tmp 12)), none⟩, ⟨(some 102), (.makeSlice 1 1 [(.bool false)] (.tmp 101) (.tmp 101)), none⟩, ⟨(some 20), (.mov (.tmp 102)), none⟩]
def f4_r26 : List AStep := [⟨(some 21), (.mov (.con (.int .i64 0))), none⟩]
def f4_r27 : List AStep := [⟨(some 103), (.mov (.tmp 21)), none⟩, ⟨(some 104), (.mov (.tmp 2)), none⟩, ⟨(some 105), (.len (.tmp 104)), none⟩, ⟨(some 106), (.bin .lss (.tmp 103) (.tmp 105)), none⟩]
def f4_r28 : List DStep := [⟨0, 0, ⟨(some 109), (.mov (.tmp 13)), none⟩⟩, ⟨1, 0, ⟨(some 110), (.mov (.tmp 2)), none⟩⟩, ⟨2, 0, ⟨(some 111), (.mov (.tmp 21)), none⟩⟩, ⟨3, 6, ⟨(some 112), (.indexAddr 4 (.tmp 110) (.tmp 111)), none⟩⟩, ⟨4, 14, ⟨(some 113), (.fieldAddr 1 (.tmp 112)), none⟩⟩, ⟨5, 30, ⟨(some 114), (.load false 1 (.tmp 113)), none⟩⟩, ⟨6, 0, ⟨(some 115), (.mov (.tmp 2)), none⟩⟩, ⟨7, 0, ⟨(some 116), (.mov (.tmp 21)), none⟩⟩, ⟨8, 192, ⟨(some 117), (.indexAddr 4 (.tmp 115) (.tmp 116)), none⟩⟩, ⟨9, 448, ⟨(some 118), (.fieldAddr 2 (.tmp 117)), none⟩⟩, ⟨10, 960, ⟨(some 119), (.load false 1 (.tmp 118)), none⟩⟩, ⟨11, 2047, ⟨(some 120), (.call (.con (.func 17 [])) [(.tmp 109), (.tmp 114), (.tmp 119)]), none⟩⟩, ⟨12, 4095, ⟨(some 22), (.mov (.tmp 120)), none⟩⟩]
def f4_r29 : List AStep := [⟨(some 121), (.mov (.tmp 22)), none⟩, ⟨(some 122), (.bin .eql (.tmp 121) (.con (.int .i64 0))), none⟩, ⟨(some 123), (.mov (.tmp 122)), none⟩, ⟨(some 124), (.mov (.tmp 2)), (some (123, true))⟩, ⟨(some 125), (.mov (.tmp 21)), (some (123, true))⟩, ⟨(some 126), (.indexAddr 4 (.tmp 124) (.tmp 125)), (some (123, true))⟩, ⟨(some 127), (.fieldAddr 1 (.tmp 126)), (some (123, true))⟩, ⟨(some 128), (.load false 1 (.tmp 127)), (some (123, true))⟩, ⟨(some 129), (.bin .geq (.tmp 128) (.con (.int .i64 0))), (some (123, true))⟩, ⟨(some 130), (.pick (.tmp 123) (.tmp 129) (.con (.bool false))), none⟩, ⟨(some 131), (.mov (.tmp 130)), none⟩, ⟨(some 132), (.mov (.tmp 2)), (some (131, true))⟩, ⟨(some 133), (.mov (.tmp 21)), (some (131, true))⟩, ⟨(some 134), (.indexAddr 4 (.tmp 132) (.tmp 133)), (some (131, true))⟩, ⟨(some 135), (.fieldAddr 1 (.tmp 134)), (some (131, true))⟩, ⟨(some 136), (.load false 1 (.tmp 135)), (some (131, true))⟩, ⟨(some 137), (.mov (.tmp 12)), (some (131, true))⟩, ⟨(some 138), (.bin .lss (.tmp 136) (.tmp 137)), (some (131, true))⟩, ⟨(some 139), (.pick (.tmp 131) (.tmp 138) (.con (.bool false))), none⟩]
def f4_r30 : List AStep := [⟨(some 140), (.mov (.tmp 20)), none⟩, ⟨(some 141), (.mov (.tmp 2)), none⟩, ⟨(some 142), (.mov (.tmp 21)), none⟩, ⟨(some 143), (.indexAddr 4 (.tmp 141) (.tmp 142)), none⟩, ⟨(some 144), (.fieldAddr 1 (.tmp 143)), none⟩, ⟨(some 145), (.load false 1 (.tmp 144)), none⟩, ⟨(some 146), (.indexAddr 1 (.tmp 140) (.tmp 145)), none⟩, ⟨none, (.store 1 (.tmp 146) (.con (.bool true))), none⟩]
def f4_r31 : List AStep := [⟨(some 107), (.mov (.tmp 21)), none⟩, ⟨(some 108), (.bin .add (.tmp 107) (.con (.int .i64 1))), none⟩, ⟨(some 21), (.mov (.tmp 108)), none⟩]
def f4_l32 : ACode := (.seq (.seq (.ops f4_r27) (.cond (.tmp 106) .skip (.exit 4))) (.seq (.block 5 (.seq (.draw f4_r28) (.seq (.ops f4_r29) (.cond (.tmp 139) (.ops f4_r30) .skip)))) (.ops f4_r31)))
def f4_r33 : List AStep := [⟨(some 147), (.mov (.tmp 2)), none⟩, ⟨(some 148), (.len (.tmp 147)), none⟩, ⟨(some 149), (.makeSlice 1 1 [(.bool false)] (.tmp 148) (.tmp 148)), none⟩, ⟨(some 23), (.mov (.tmp 149)), none⟩]
def f4_r34 : List AStep := [⟨(some 24), (.mov (.con (.int .i64 0))), none⟩]
def f4_r35 : List AStep := [⟨(some 150), (.mov (.tmp 24)), none⟩, ⟨(some 151), (.mov (.tmp 23)), none⟩, ⟨(some 152), (.len (.tmp 151)), none⟩, ⟨(some 153), (.bin .lss (.tmp 150) (.tmp 152)), none⟩]
def f4_r36 : List AStep := [⟨(some 156), (.mov (.tmp 23)), none⟩, ⟨(some 157), (.mov (.tmp 24)), none⟩, ⟨(some 158), (.indexAddr 1 (.tmp 156) (.tmp 157)), none⟩, ⟨none, (.store 1 (.tmp 158) (.con (.bool true))), none⟩]
def f4_r37 : List AStep := [⟨(some 154), (.mov (.tmp 24)), none⟩, ⟨(some 155), (.bin .add (.tmp 154) (.con (.int .i64 1))), none⟩, ⟨(some 24), (.mov (.tmp 155)), none⟩]
def f4_l38 : ACode := (.seq (.seq (.ops f4_r35) (.cond (.tmp 153) .skip (.exit 6))) (.seq (.block 7 (.ops f4_r36)) (.ops f4_r37)))
def f4_r39 : List AStep := [⟨(some 159), (.mov (.tmp 13)), none⟩, ⟨(some 160), (.mov (.tmp 3)), none⟩, ⟨(some 161), (.call (.con (.func 24 [])) [(.tmp 159), (.tmp 160)]), none⟩, ⟨(some 25), (.mov (.tmp 161)), none⟩]
def f4_r40 : List AStep := [⟨(some 162), (.mov (.tmp 13)), none⟩, ⟨(some 163), (.mov (.tmp 23)), none⟩, ⟨(some 164), (.call (.con (.func 24 [])) [(.tmp 162), (.tmp 163)]), none⟩, ⟨(some 26), (.mov (.tmp 164)), none⟩]
def f4_r41 : List AStep := [⟨(some 165), (.mov (.tmp 13)), none⟩, ⟨(some 166), (.call (.con (.func 24 [])) [(.tmp 165), (.con .nils)]), none⟩, ⟨(some 27), (.mov (.tmp 166)), none⟩]
def f4_r42 : List AStep := [⟨(some 28), (.mov (.con (.int .i64 0))), none⟩]
def f4_r43 : List AStep := [⟨(some 167), (.mov (.tmp 28)), none⟩, ⟨(some 168), (.mov (.tmp 12)), none⟩, ⟨(some 169), (.bin .lss (.tmp 167) (.tmp 168)), none⟩]
def f4_r44 : List AStep := [⟨(some 173), (.mov (.tmp 25)), none⟩, ⟨(some 174), (.mov (.tmp 28)), none⟩, ⟨(some 175), (.call (.con (.func 26 [])) [(.tmp 173), (.tmp 174)]), none⟩, ⟨(some 172), (.mov (.tmp 175)), none⟩, ⟨(some 176), (.extract (.tmp 172) 0), none⟩, ⟨(some 177), (.extract (.tmp 172) 1), none⟩, ⟨(some 29), (.mov (.tmp 176)), none⟩, ⟨(some 30), (.mov (.tmp 177)), none⟩]
def f4_r45 : List AStep := [⟨(some 179), (.mov (.tmp 26)), none⟩, ⟨(some 180), (.mov (.tmp 28)), none⟩, ⟨(some 181), (.call (.con (.func 26 [])) [(.tmp 179), (.tmp 180)]), none⟩, ⟨(some 178), (.mov (.tmp 181)), none⟩, ⟨(some 182), (.extract (.tmp 178) 0), none⟩, ⟨(some 183), (.extract (.tmp 178) 1), none⟩, ⟨(some 31), (.mov (.tmp 182)), none⟩, ⟨(some 32), (.mov (.tmp 183)), none⟩]
def f4_r46 : List AStep := [⟨(some 185), (.mov (.tmp 13)), none⟩, ⟨(some 186), (.mov (.tmp 28)), none⟩, ⟨(some 187), (.call (.con (.func 26 [])) [(.tmp 185), (.tmp 186)]), none⟩, ⟨(some 184), (.mov (.tmp 187)), none⟩, ⟨(some 188), (.extract (.tmp 184) 0), none⟩, ⟨(some 189), (.extract (.tmp 184) 1), none⟩, ⟨(some 33), (.mov (.tmp 188)), none⟩, ⟨(some 34), (.mov (.tmp 189)), none⟩]
def f4_r47 : List AStep := [⟨(some 191), (.mov (.tmp 27)), none⟩, ⟨(some 192), (.mov (.tmp 28)), none⟩, ⟨(some 193), (.call (.con (.func 26 [])) [(.tmp 191), (.tmp 192)]), none⟩, ⟨(some 190), (.mov (.tmp 193)), none⟩, ⟨(some 194), (.extract (.tmp 190) 0), none⟩, ⟨(some 195), (.extract (.tmp 190) 1), none⟩, ⟨(some 35), (.mov (.tmp 194)), none⟩, ⟨(some 36), (.mov (.tmp 195)), none⟩]
def f4_r48 : List DStep := [⟨0, 0, ⟨(some 196), (.mov (.tmp 30)), none⟩⟩, ⟨1, 1, ⟨(some 197), (.bin .neq (.tmp 196) (.con (.int .i64 0))), none⟩⟩, ⟨2, 3, ⟨(some 198), (.mov (.tmp 197)), none⟩⟩, ⟨3, 7, ⟨(some 199), (.mov (.tmp 32)), (some (198, false))⟩⟩, ⟨4, 15, ⟨(some 200), (.bin .neq (.tmp 199) (.con (.int .i64 0))), (some (198, false))⟩⟩, ⟨5, 31, ⟨(some 201), (.pick (.tmp 198) (.con (.bool true)) (.tmp 200)), none⟩⟩, ⟨6, 63, ⟨(some 202), (.mov (.tmp 201)), none⟩⟩, ⟨7, 127, ⟨(some 203), (.mov (.tmp 34)), (some (202, false))⟩⟩, ⟨8, 255, ⟨(some 204), (.bin .neq (.tmp 203) (.con (.int .i64 0))), (some (202, false))⟩⟩, ⟨9, 511, ⟨(some 205), (.pick (.tmp 202) (.con (.bool true)) (.tmp 204)), none⟩⟩, ⟨10, 1023, ⟨(some 206), (.mov (.tmp 205)), none⟩⟩, ⟨11, 2047, ⟨(some 207), (.mov (.tmp 36)), (some (206, false))⟩⟩, ⟨12, 4095, ⟨(some 208), (.bin .neq (.tmp 207) (.con (.int .i64 0))), (some (206, false))⟩⟩, ⟨13, 8191, ⟨(some 209), (.pick (.tmp 206) (.con (.bool true)) (.tmp 208)), none⟩⟩, ⟨14, 16383, ⟨(some 210), (.mov (.tmp 209)), none⟩⟩, ⟨15, 32767, ⟨(some 211), (.mov (.tmp 31)), (some (210, false))⟩⟩, ⟨16, 65535, ⟨(some 212), (.cvB2S (.tmp 211)), (some (210, false))⟩⟩, ⟨17, 32767, ⟨(some 213), (.mov (.tmp 33)), (some (210, false))⟩⟩, ⟨18, 163839, ⟨(some 214), (.cvB2S (.tmp 213)), (some (210, false))⟩⟩, ⟨19, 524287, ⟨(some 215), (.bin .neq (.tmp 212) (.tmp 214)), (some (210, false))⟩⟩, ⟨20, 1048575, ⟨(some 216), (.pick (.tmp 210) (.con (.bool true)) (.tmp 215)), none⟩⟩, ⟨21, 2097151, ⟨(some 217), (.mov (.tmp 216)), none⟩⟩, ⟨22, 4194303, ⟨(some 218), (.mov (.tmp 35)), (some (217, false))⟩⟩, ⟨23, 8388607, ⟨(some 219), (.cvB2S (.tmp 218)), (some (217, false))⟩⟩, ⟨24, 4194303, ⟨(some 220), (.mov (.tmp 16)), (some (217, false))⟩⟩, ⟨25, 4194303, ⟨(some 221), (.mov (.tmp 28)), (some (217, false))⟩⟩, ⟨26, 54525951, ⟨(some 222), (.indexAddr 1 (.tmp 220) (.tmp 221)), (some (217, false))⟩⟩, ⟨27, 121634815, ⟨(some 223), (.load false 1 (.tmp 222)), (some (217, false))⟩⟩, ⟨28, 255852543, ⟨(some 224), (.cvB2S (.tmp 223)), (some (217, false))⟩⟩, ⟨29, 536870911, ⟨(some 225), (.bin .neq (.tmp 219) (.tmp 224)), (some (217, false))⟩⟩, ⟨30, 1073741823, ⟨(some 226), (.pick (.tmp 217) (.con (.bool true)) (.tmp 225)), none⟩⟩, ⟨31, 2147483647, ⟨(some 227), (.mov (.tmp 226)), none⟩⟩, ⟨32, 4294967295, ⟨(some 228), (.mov (.tmp 20)), (some (227, false))⟩⟩, ⟨33, 4294967295, ⟨(some 229), (.mov (.tmp 28)), (some (227, false))⟩⟩, ⟨34, 17179869183, ⟨(some 230), (.indexAddr 1 (.tmp 228) (.tmp 229)), (some (227, false))⟩⟩, ⟨35, 34359738367, ⟨(some 231), (.load false 1 (.tmp 230)), (some (227, false))⟩⟩, ⟨36, 68719476735, ⟨(some 232), (.not (.tmp 231)), (some (227, false))⟩⟩, ⟨37, 137438953471, ⟨(some 233), (.mov (.tmp 232)), (some (227, false))⟩⟩, ⟨38, 274877906943, ⟨(some 234), (.mov (.tmp 29)), (some (233, true))⟩⟩, ⟨39, 549755813887, ⟨(some 235), (.cvB2S (.tmp 234)), (some (233, true))⟩⟩, ⟨40, 274877906943, ⟨(some 236), (.mov (.tmp 16)), (some (233, true))⟩⟩, ⟨41, 274877906943, ⟨(some 237), (.mov (.tmp 28)), (some (233, true))⟩⟩, ⟨42, 3573412790271, ⟨(some 238), (.indexAddr 1 (.tmp 236) (.tmp 237)), (some (233, true))⟩⟩, ⟨43, 7971459301375, ⟨(some 239), (.load false 1 (.tmp 238)), (some (233, true))⟩⟩, ⟨44, 16767552323583, ⟨(some 240), (.cvB2S (.tmp 239)), (some (233, true))⟩⟩, ⟨45, 35184372088831, ⟨(some 241), (.bin .neq (.tmp 235) (.tmp 240)), (some (233, true))⟩⟩, ⟨46, 70368744177663, ⟨(some 242), (.pick (.tmp 233) (.tmp 241) (.con (.bool false))), (some (227, false))⟩⟩, ⟨47, 140737488355327, ⟨(some 243), (.pick (.tmp 227) (.con (.bool true)) (.tmp 242)), none⟩⟩]
def f4_r49 : List AStep := [⟨(some 8), (.mov (.con (.bool false))), none⟩]
def f4_r50 : List AStep := [⟨(some 170), (.mov (.tmp 28)), none⟩, ⟨(some 171), (.bin .add (.tmp 170) (.con (.int .i64 1))), none⟩, ⟨(some 28), (.mov (.tmp 171)), none⟩]
def f4_l51 : ACode := (.seq (.seq (.ops f4_r43) (.cond (.tmp 169) .skip (.exit 8))) (.seq (.block 9 (.seq (.ops f4_r44) (.seq (.ops f4_r45) (.seq (.ops f4_r46) (.seq (.ops f4_r47) (.seq (.draw f4_r48) (.cond (.tmp 243) (.seq (.ops f4_r49) .ret) .skip))))))) (.ops f4_r50)))
def f4_r52 : List AStep := [⟨(some 244), (.mov (.tmp 25)), none⟩, ⟨(some 245), (.call (.con (.func 23 [])) [(.tmp 244)]), none⟩, ⟨(some 246), (.bin .eql (.tmp 245) (.con (.int .i64 0))), none⟩, ⟨(some 247), (.mov (.tmp 246)), none⟩, ⟨(some 248), (.mov (.tmp 26)), (some (247, true))⟩, ⟨(some 249), (.call (.con (.func 23 [])) [(.tmp 248)]), (some (247, true))⟩, ⟨(some 250), (.bin .eql (.tmp 249) (.con (.int .i64 0))), (some (247, true))⟩, ⟨(some 251), (.pick (.tmp 247) (.tmp 250) (.con (.bool false))), none⟩, ⟨(some 8), (.mov (.tmp 251)), none⟩]
def f4_c : ACode := (.seq (.ops f4_r0) (.seq (.ops f4_r1) (.seq (.seq (.ops f4_r2) (.cond (.tmp 39) (.seq (.ops f4_r3) .ret) .skip)) (.seq (.ops f4_r4) (.seq (.ops f4_r5) (.seq (.ops f4_r6) (.seq (.seq (.ops f4_r7) (.cond (.tmp 58) (.seq (.ops f4_r8) .ret) .skip)) (.seq (.ops f4_r9) (.seq (.seq (.ops f4_r10) (.cond (.tmp 65) (.seq (.ops f4_r11) .ret) .skip)) (.seq (.seq (.ops f4_r12) (.block 0 (.loop f4_l16))) (.seq (.ops f4_r17) (.seq (.ops f4_r18) (.seq (.seq (.ops f4_r19) (.block 2 (.loop f4_l24))) (.seq (.ops f4_r25) (.seq (.seq (.ops f4_r26) (.block 4 (.loop f4_l32))) (.seq (.ops f4_r33) (.seq (.seq (.ops f4_r34) (.block 6 (.loop f4_l38))) (.seq (.ops f4_r39) (.seq (.ops f4_r40) (.seq (.ops f4_r41) (.seq (.seq (.ops f4_r42) (.block 8 (.loop f4_l51))) (.seq (.ops f4_r52) .ret))))))))))))))))))))))
def f4_a : AFunc := ⟨252, [(.tmp 8)], f4_c⟩

/-! 5 -/
def f5_r0 : List AStep := [⟨(some 4), (.mov (.con (.bool false))), none⟩]
def f5_r1 : List AStep := [⟨(some 19), (.call (.con (.func 13 [])) []), none⟩, ⟨(some 5), (.mov (.tmp 19)), none⟩]
def f5_r2 : List AStep := [⟨(some 20), (.mov (.tmp 5)), none⟩, ⟨(some 21), (.not (.tmp 20)), none⟩]
def f5_r3 : List AStep := [⟨(some 4), (.mov (.con (.bool false))), none⟩]
def f5_r4 : List AStep := [⟨(some 22), (.mov (.tmp 1)), none⟩, ⟨(some 23), (.call (.con (.func 14 [])) [(.tmp 22)]), none⟩, ⟨(some 6), (.mov (.tmp 23)), none⟩]
def f5_r5 : List AStep := [⟨(some 24), (.mov (.tmp 6)), none⟩, ⟨(some 25), (.not (.tmp 24)), none⟩, ⟨(some 26), (.mov (.tmp 25)), none⟩, ⟨(some 27), (.mov (.tmp 0)), (some (26, false))⟩, ⟨(some 28), (.bin .eql (.tmp 27) (.con (.int .u8 0))), (some (26, false))⟩, ⟨(some 29), (.pick (.tmp 26) (.con (.bool true)) (.tmp 28)), none⟩]
def f5_r6 : List AStep := [⟨(some 4), (.mov (.con (.bool true))), none⟩]
def f5_r7 : List AStep := [⟨(some 31), (.call (.con (.func 15 [])) [(.con (.int .i64 4))]), none⟩, ⟨(some 30), (.mov (.tmp 31)), none⟩, ⟨(some 32), (.extract (.tmp 30) 0), none⟩, ⟨(some 33), (.extract (.tmp 30) 1), none⟩, ⟨(some 7), (.mov (.tmp 32)), none⟩, ⟨(some 8), (.mov (.tmp 33)), none⟩]
def f5_r8 : List AStep := [⟨(some 34), (.mov (.tmp 8)), none⟩, ⟨(some 35), (.bin .neq (.tmp 34) (.con (.int .i64 0))), none⟩]
def f5_r9 : List AStep := [⟨(some 4), (.mov (.con (.bool false))), none⟩]
def f5_r10 : List AStep := [⟨(some 36), (.mov (.tmp 7)), none⟩, ⟨(some 37), (.mov (.tmp 0)), none⟩, ⟨(some 38), (.cvInt .i64 (.tmp 37)), none⟩, ⟨(some 39), (.call (.con (.func 21 [])) [(.tmp 36), (.tmp 38)]), none⟩]
def f5_r11 : List AStep := [⟨(some 9), (.mov (.con (.int .i64 0))), none⟩]
def f5_r12 : List AStep := [⟨(some 10), (.mov (.con (.int .i64 0))), none⟩]
def f5_r13 : List AStep := [⟨(some 40), (.mov (.tmp 10)), none⟩, ⟨(some 41), (.mov (.tmp 1)), none⟩, ⟨(some 42), (.len (.tmp 41)), none⟩, ⟨(some 43), (.bin .lss (.tmp 40) (.tmp 42)), none⟩]
def f5_r14 : List AStep := [⟨(some 46), (.mov (.tmp 1)), none⟩, ⟨(some 47), (.mov (.tmp 10)), none⟩, ⟨(some 48), (.indexAddr 4 (.tmp 46) (.tmp 47)), none⟩, ⟨(some 49), (.fieldAddr 1 (.tmp 48)), none⟩, ⟨(some 50), (.load false 1 (.tmp 49)), none⟩, ⟨(some 11), (.mov (.tmp 50)), none⟩]
def f5_r15 : List AStep := [⟨(some 51), (.mov (.tmp 7)), none⟩, ⟨(some 52), (.call (.con (.func 23 [])) [(.tmp 51)]), none⟩, ⟨(some 12), (.mov (.tmp 52)), none⟩]
def f5_r16 : List AStep := [⟨(some 13), (.mov (.con (.int .i64 0))), none⟩]
def f5_r17 : List AStep := [⟨(some 53), (.mov (.tmp 1)), none⟩, ⟨(some 54), (.mov (.tmp 10)), none⟩, ⟨(some 55), (.indexAddr 4 (.tmp 53) (.tmp 54)), none⟩, ⟨(some 56), (.fieldAddr 0 (.tmp 55)), none⟩, ⟨(some 57), (.load false 1 (.tmp 56)), none⟩, ⟨(some 58), (.bin .rem (.tmp 57) (.con (.int .u8 2))), none⟩, ⟨(some 59), (.bin .eql (.tmp 58) (.con (.int .u8 0))), none⟩]
def f5_r18 : List AStep := [⟨(some 60), (.mov (.tmp 7)), none⟩, ⟨(some 61), (.mov (.tmp 11)), none⟩, ⟨(some 62), (.mov (.tmp 1)), none⟩, ⟨(some 63), (.mov (.tmp 10)), none⟩, ⟨(some 64), (.indexAddr 4 (.tmp 62) (.tmp 63)), none⟩, ⟨(some 65), (.fieldAddr 2 (.tmp 64)), none⟩, ⟨(some 66), (.load false 1 (.tmp 65)), none⟩, ⟨(some 67), (.call (.con (.func 17 [])) [(.tmp 60), (.tmp 61), (.tmp 66)]), none⟩, ⟨(some 13), (.mov (.tmp 67)), none⟩]
def f5_r19 : List AStep := [⟨(some 68), (.mov (.tmp 11)), none⟩, ⟨(some 69), (.bin .lss (.tmp 68) (.con (.int .i64 0))), none⟩, ⟨(some 70), (.mov (.tmp 69)), none⟩, ⟨(some 71), (.mov (.tmp 11)), (some (70, false))⟩, ⟨(some 72), (.bin .gtr (.tmp 71) (.con (.int .i64 3))), (some (70, false))⟩, ⟨(some 73), (.pick (.tmp 70) (.con (.bool true)) (.tmp 72)), none⟩, ⟨(some 74), (.mov (.tmp 73)), none⟩, ⟨(some 75), (.mov (.tmp 1)), (some (74, false))⟩, ⟨(some 76), (.mov (.tmp 10)), (some (74, false))⟩, ⟨(some 77), (.indexAddr 4 (.tmp 75) (.tmp 76)), (some (74, false))⟩, ⟨(some 78), (.fieldAddr 2 (.tmp 77)), (some (74, false))⟩, ⟨(some 79), (.load false 1 (.tmp 78)), (some (74, false))⟩, ⟨(some 80), (.len (.tmp 79)), (some (74, false))⟩, ⟨(some 81), (.bin .gtr (.tmp 80) (.con (.int .i64 64))), (some (74, false))⟩, ⟨(some 82), (.pick (.tmp 74) (.con (.bool true)) (.tmp 81)), none⟩]
def f5_r20 : List AStep := [⟨(some 83), (.mov (.tmp 13)), none⟩, ⟨(some 84), (.bin .neq (.tmp 83) (.con (.int .i64 1))), none⟩, ⟨(some 85), (.mov (.tmp 84)), none⟩, ⟨(some 86), (.mov (.tmp 7)), (some (85, false))⟩, ⟨(some 87), (.call (.con (.func 23 [])) [(.tmp 86)]), (some (85, false))⟩, ⟨(some 88), (.mov (.tmp 12)), (some (85, false))⟩, ⟨(some 89), (.bin .neq (.tmp 87) (.tmp 88)), (some (85, false))⟩, ⟨(some 90), (.pick (.tmp 85) (.con (.bool true)) (.tmp 89)), none⟩]
def f5_r21 : List AStep := [⟨(some 4), (.mov (.con (.bool false))), none⟩]
def f5_r22 : List AStep := [⟨(some 91), (.mov (.tmp 7)), none⟩, ⟨(some 92), (.call (.con (.func 19 [])) [(.tmp 91)]), none⟩, ⟨(some 13), (.mov (.tmp 92)), none⟩]
def f5_r23 : List AStep := [⟨(some 93), (.mov (.tmp 9)), none⟩, ⟨(some 94), (.bin .add (.tmp 93) (.con (.int .i64 1))), none⟩, ⟨(some 9), (.mov (.tmp 94)), none⟩]
def f5_r24 : List AStep := [⟨(some 95), (.mov (.tmp 13)), none⟩, ⟨(some 96), (.bin .eql (.tmp 95) (.con (.int .i64 20))), none⟩, ⟨(some 97), (.mov (.tmp 9)), none⟩, ⟨(some 98), (.mov (.tmp 0)), none⟩, ⟨(some 99), (.cvInt .i64 (.tmp 98)), none⟩, ⟨(some 100), (.bin .geq (.tmp 97) (.tmp 99)), none⟩, ⟨(some 101), (.eq .bool true (.tmp 96) (.tmp 100)), none⟩, ⟨(some 102), (.mov (.tmp 101)), none⟩, ⟨(some 103), (.mov (.tmp 7)), (some (102, false))⟩, ⟨(some 104), (.call (.con (.func 28 [])) [(.tmp 103)]), (some (102, false))⟩, ⟨(some 105), (.mov (.tmp 9)), (some (102, false))⟩, ⟨(some 106), (.mov (.tmp 0)), (some (102, false))⟩, ⟨(some 107), (.cvInt .i64 (.tmp 106)), (some (102, false))⟩, ⟨(some 108), (.bin .geq (.tmp 105) (.tmp 107)), (some (102, false))⟩, ⟨(some 109), (.eq .bool true (.tmp 104) (.tmp 108)), (some (102, false))⟩, ⟨(some 110), (.pick (.tmp 102) (.con (.bool true)) (.tmp 109)), none⟩, ⟨(some 111), (.mov (.tmp 110)), none⟩, ⟨(some 112), (.mov (.tmp 13)), (some (111, false))⟩, ⟨(some 113), (.bin .eql (.tmp 112) (.con (.int .i64 20))), (some (111, false))⟩, ⟨(some 114), (.mov (.tmp 113)), (some (111, false))⟩, ⟨(some 115), (.mov (.tmp 7)), (some (114, true))⟩, ⟨(some 116), (.call (.con (.func 23 [])) [(.tmp 115)]), (some (114, true))⟩, ⟨(some 117), (.mov (.tmp 12)), (some (114, true))⟩, ⟨(some 118), (.bin .neq (.tmp 116) (.tmp 117)), (some (114, true))⟩, ⟨(some 119), (.pick (.tmp 114) (.tmp 118) (.con (.bool false))), (some (111, false))⟩, ⟨(some 120), (.pick (.tmp 111) (.con (.bool true)) (.tmp 119)), none⟩]
def f5_r25 : List AStep := [⟨(some 4), (.mov (.con (.bool false))), none⟩]
def f5_r26 : List AStep := [⟨(some 44), (.mov (.tmp 10)), none⟩, ⟨(some 45), (.bin .add (.tmp 44) (.con (.int .i64 1))), none⟩, ⟨(some 10), (.mov (.tmp 45)), none⟩]
def f5_l27 : ACode := (.seq (.seq (.ops f5_r13) (.cond (.tmp 43) .skip (.exit 0))) (.seq (.block 1 (.seq (.ops f5_r14) (.seq (.ops f5_r15) (.seq (.ops f5_r16) (.seq (.seq (.ops f5_r17) (.cond (.tmp 59) (.seq (.ops f5_r18) (.seq (.ops f5_r19) (.cond (.tmp 82) (.seq (.seq (.ops f5_r20) (.cond (.tmp 90) (.seq (.ops f5_r21) .ret) .skip)) (.exit 1)) .skip))) (.ops f5_r22))) (.seq (.ops f5_r23) (.seq (.ops f5_r24) (.cond (.tmp 120) (.seq (.ops f5_r25) .ret) .skip)))))))) (.ops f5_r26)))
def f5_r28 : List AStep := [⟨(some 122), (.mov (.tmp 7)), none⟩, ⟨(some 123), (.call (.con (.func 26 [])) [(.tmp 122), (.con (.int .i64 0))]), none⟩, ⟨(some 121), (.mov (.tmp 123)), none⟩, ⟨(some 124), (.extract (.tmp 121) 0), none⟩, ⟨(some 125), (.extract (.tmp 121) 1), none⟩, ⟨(some 14), (.mov (.tmp 124)), none⟩, ⟨(some 15), (.mov (.tmp 125)), none⟩]
def f5_r29 : List AStep := [⟨(some 16), (.mov (.con .nilp)), none⟩]
def f5_r30 : List AStep := [⟨(some 127), (.mov (.tmp 16)), none⟩, ⟨(some 128), (.call (.con (.func 26 [])) [(.tmp 127), (.con (.int .i64 0))]), none⟩, ⟨(some 126), (.mov (.tmp 128)), none⟩, ⟨(some 129), (.extract (.tmp 126) 0), none⟩, ⟨(some 130), (.extract (.tmp 126) 1), none⟩, ⟨(some 17), (.mov (.tmp 129)), none⟩, ⟨(some 18), (.mov (.tmp 130)), none⟩]
def f5_r31 : List AStep := [⟨(some 131), (.mov (.tmp 15)), none⟩, ⟨(some 132), (.bin .eql (.tmp 131) (.con (.int .i64 20))), none⟩, ⟨(some 133), (.mov (.tmp 9)), none⟩, ⟨(some 134), (.mov (.tmp 0)), none⟩, ⟨(some 135), (.cvInt .i64 (.tmp 134)), none⟩, ⟨(some 136), (.bin .geq (.tmp 133) (.tmp 135)), none⟩, ⟨(some 137), (.eq .bool false (.tmp 132) (.tmp 136)), none⟩, ⟨(some 138), (.mov (.tmp 137)), none⟩, ⟨(some 139), (.mov (.tmp 18)), (some (138, true))⟩, ⟨(some 140), (.bin .eql (.tmp 139) (.con (.int .i64 1))), (some (138, true))⟩, ⟨(some 141), (.pick (.tmp 138) (.tmp 140) (.con (.bool false))), none⟩, ⟨(some 142), (.mov (.tmp 141)), none⟩, ⟨(some 143), (.mov (.tmp 16)), (some (142, true))⟩, ⟨(some 144), (.call (.con (.func 17 [])) [(.tmp 143), (.con (.int .i64 0)), (.con .nils)]), (some (142, true))⟩, ⟨(some 145), (.bin .eql (.tmp 144) (.con (.int .i64 1))), (some (142, true))⟩, ⟨(some 146), (.pick (.tmp 142) (.tmp 145) (.con (.bool false))), none⟩, ⟨(some 147), (.mov (.tmp 146)), none⟩, ⟨(some 148), (.mov (.tmp 16)), (some (147, true))⟩, ⟨(some 149), (.call (.con (.func 19 [])) [(.tmp 148)]), (some (147, true))⟩, ⟨(some 150), (.bin .eql (.tmp 149) (.con (.int .i64 1))), (some (147, true))⟩, ⟨(some 151), (.pick (.tmp 147) (.tmp 150) (.con (.bool false))), none⟩, ⟨(some 152), (.mov (.tmp 151)), none⟩, ⟨(some 153), (.mov (.tmp 16)), (some (152, true))⟩, ⟨(some 154), (.call (.con (.func 24 [])) [(.tmp 153), (.con .nils)]), (some (152, true))⟩, ⟨(some 155), (.eq .ptr false (.tmp 154) (.con .nilp)), (some (152, true))⟩, ⟨(some 156), (.pick (.tmp 152) (.tmp 155) (.con (.bool false))), none⟩, ⟨(some 157), (.mov (.tmp 156)), none⟩, ⟨(some 158), (.mov (.tmp 16)), (some (157, true))⟩, ⟨(some 159), (.call (.con (.func 28 [])) [(.tmp 158)]), (some (157, true))⟩, ⟨(some 160), (.not (.tmp 159)), (some (157, true))⟩, ⟨(some 161), (.pick (.tmp 157) (.tmp 160) (.con (.bool false))), none⟩, ⟨(some 162), (.mov (.tmp 161)), none⟩, ⟨(some 163), (.mov (.tmp 16)), (some (162, true))⟩, ⟨(some 164), (.call (.con (.func 29 [])) [(.tmp 163)]), (some (162, true))⟩, ⟨(some 165), (.mov (.tmp 16)), (some (162, true))⟩, ⟨(some 166), (.call (.con (.func 23 [])) [(.tmp 165)]), (some (162, true))⟩, ⟨(some 167), (.bin .add (.tmp 164) (.tmp 166)), (some (162, true))⟩, ⟨(some 168), (.bin .eql (.tmp 167) (.con (.int .i64 0))), (some (162, true))⟩, ⟨(some 169), (.pick (.tmp 162) (.tmp 168) (.con (.bool false))), none⟩, ⟨(some 4), (.mov (.tmp 169)), none⟩]
def f5_c : ACode := (.seq (.ops f5_r0) (.seq (.ops f5_r1) (.seq (.seq (.ops f5_r2) (.cond (.tmp 21) (.seq (.ops f5_r3) .ret) .skip)) (.seq (.ops f5_r4) (.seq (.seq (.ops f5_r5) (.cond (.tmp 29) (.seq (.ops f5_r6) .ret) .skip)) (.seq (.ops f5_r7) (.seq (.seq (.ops f5_r8) (.cond (.tmp 35) (.seq (.ops f5_r9) .ret) .skip)) (.seq (.ops f5_r10) (.seq (.ops f5_r11) (.seq (.seq (.ops f5_r12) (.block 0 (.loop f5_l27))) (.seq (.ops f5_r28) (.seq (.ops f5_r29) (.seq (.ops f5_r30) (.seq (.ops f5_r31) .ret))))))))))))))
def f5_a : AFunc := ⟨170, [(.tmp 4)], f5_c⟩

/-! 6 -/
def f6_r0 : List AStep := [⟨(some 4), (.mov (.con (.bool false))), none⟩]
def f6_r1 : List AStep := [⟨(some 19), (.call (.con (.func 13 [])) []), none⟩, ⟨(some 5), (.mov (.tmp 19)), none⟩]
def f6_r2 : List AStep := [⟨(some 20), (.mov (.tmp 5)), none⟩, ⟨(some 21), (.not (.tmp 20)), none⟩]
def f6_r3 : List AStep := [⟨(some 4), (.mov (.con (.bool false))), none⟩]
def f6_r4 : List AStep := [⟨(some 22), (.mov (.tmp 0)), none⟩, ⟨(some 23), (.len (.tmp 22)), none⟩, ⟨(some 24), (.bin .gtr (.tmp 23) (.con (.int .i64 30))), none⟩, ⟨(some 25), (.mov (.tmp 24)), none⟩, ⟨(some 26), (.mov (.tmp 1)), (some (25, false))⟩, ⟨(some 27), (.len (.tmp 26)), (some (25, false))⟩, ⟨(some 28), (.bin .gtr (.tmp 27) (.con (.int .i64 60))), (some (25, false))⟩, ⟨(some 29), (.pick (.tmp 25) (.con (.bool true)) (.tmp 28)), none⟩]
def f6_r5 : List AStep := [⟨(some 4), (.mov (.con (.bool true))), none⟩]
def f6_r6 : List AStep := [⟨(some 31), (.call (.con (.func 15 [])) [(.con (.int .i64 2))]), none⟩, ⟨(some 30), (.mov (.tmp 31)), none⟩, ⟨(some 32), (.extract (.tmp 30) 0), none⟩, ⟨(some 33), (.extract (.tmp 30) 1), none⟩, ⟨(some 6), (.mov (.tmp 32)), none⟩, ⟨(some 7), (.mov (.tmp 33)), none⟩]
def f6_r7 : List AStep := [⟨(some 34), (.mov (.tmp 7)), none⟩, ⟨(some 35), (.bin .neq (.tmp 34) (.con (.int .i64 0))), none⟩]
def f6_r8 : List AStep := [⟨(some 4), (.mov (.con (.bool false))), none⟩]
def f6_r9 : List AStep := [⟨(some 8), (.mov (.con (.str []))), none⟩]
def f6_r10 : List AStep := [⟨(some 9), (.mov (.con (.str []))), none⟩]
def f6_r11 : List AStep := [⟨(some 10), (.mov (.con (.int .i64 0))), none⟩]
def f6_r12 : List AStep := [⟨(some 36), (.mov (.tmp 10)), none⟩, ⟨(some 37), (.mov (.tmp 0)), none⟩, ⟨(some 38), (.len (.tmp 37)), none⟩, ⟨(some 39), (.bin .lss (.tmp 36) (.tmp 38)), none⟩]
def f6_r13 : List AStep := [⟨(some 42), (.mov (.tmp 0)), none⟩, ⟨(some 43), (.mov (.tmp 10)), none⟩, ⟨(some 44), (.indexAddr 1 (.tmp 42) (.tmp 43)), none⟩, ⟨(some 45), (.load false 1 (.tmp 44)), none⟩, ⟨(some 46), (.len (.tmp 45)), none⟩, ⟨(some 47), (.bin .gtr (.tmp 46) (.con (.int .i64 64))), none⟩]
def f6_r14 : List AStep := [⟨(some 4), (.mov (.con (.bool true))), none⟩]
def f6_r15 : List AStep := [⟨(some 48), (.mov (.tmp 6)), none⟩, ⟨(some 49), (.mov (.tmp 0)), none⟩, ⟨(some 50), (.mov (.tmp 10)), none⟩, ⟨(some 51), (.indexAddr 1 (.tmp 49) (.tmp 50)), none⟩, ⟨(some 52), (.load false 1 (.tmp 51)), none⟩, ⟨(some 53), (.call (.con (.func 17 [])) [(.tmp 48), (.con (.int .i64 1)), (.tmp 52)]), none⟩, ⟨(some 54), (.bin .neq (.tmp 53) (.con (.int .i64 0))), none⟩]
def f6_r16 : List AStep := [⟨(some 4), (.mov (.con (.bool false))), none⟩]
def f6_r17 : List AStep := [⟨(some 55), (.mov (.tmp 0)), none⟩, ⟨(some 56), (.mov (.tmp 10)), none⟩, ⟨(some 57), (.indexAddr 1 (.tmp 55) (.tmp 56)), none⟩, ⟨(some 58), (.load false 1 (.tmp 57)), none⟩, ⟨(some 59), (.cvB2S (.tmp 58)), none⟩, ⟨(some 11), (.mov (.tmp 59)), none⟩]
def f6_r18 : List AStep := [⟨(some 60), (.mov (.tmp 11)), none⟩, ⟨(some 61), (.lenT (.tmp 60)), none⟩, ⟨(some 62), (.bin .lss (.tmp 61) (.con (.int .i64 64))), none⟩]
def f6_r19 : List AStep := [⟨(some 63), (.mov (.tmp 11)), none⟩, ⟨(some 64), (.bin .add (.tmp 63) (.con (.str [0]))), none⟩, ⟨(some 11), (.mov (.tmp 64)), none⟩]
def f6_l20 : ACode := (.seq (.seq (.ops f6_r18) (.cond (.tmp 62) .skip (.exit 2))) (.block 3 (.ops f6_r19)))
def f6_r21 : List AStep := [⟨(some 65), (.mov (.tmp 11)), none⟩, ⟨(some 8), (.mov (.tmp 65)), none⟩]
def f6_r22 : List AStep := [⟨(some 66), (.mov (.tmp 10)), none⟩, ⟨(some 67), (.mov (.tmp 1)), none⟩, ⟨(some 68), (.len (.tmp 67)), none⟩, ⟨(some 69), (.bin .lss (.tmp 66) (.tmp 68)), none⟩, ⟨(some 70), (.mov (.tmp 69)), none⟩, ⟨(some 71), (.mov (.tmp 1)), (some (70, true))⟩, ⟨(some 72), (.mov (.tmp 10)), (some (70, true))⟩, ⟨(some 73), (.indexAddr 1 (.tmp 71) (.tmp 72)), (some (70, true))⟩, ⟨(some 74), (.load false 1 (.tmp 73)), (some (70, true))⟩, ⟨(some 75), (.pick (.tmp 70) (.tmp 74) (.con (.bool false))), none⟩]
def f6_r23 : List AStep := [⟨(some 76), (.mov (.tmp 11)), none⟩, ⟨(some 9), (.mov (.tmp 76)), none⟩]
def f6_r24 : List AStep := [⟨(some 40), (.mov (.tmp 10)), none⟩, ⟨(some 41), (.bin .add (.tmp 40) (.con (.int .i64 1))), none⟩, ⟨(some 10), (.mov (.tmp 41)), none⟩]
def f6_l25 : ACode := (.seq (.seq (.ops f6_r12) (.cond (.tmp 39) .skip (.exit 0))) (.seq (.block 1 (.seq (.seq (.ops f6_r13) (.cond (.tmp 47) (.seq (.ops f6_r14) .ret) .skip)) (.seq (.seq (.ops f6_r15) (.cond (.tmp 54) (.seq (.ops f6_r16) .ret) .skip)) (.seq (.ops f6_r17) (.seq (.block 2 (.loop f6_l20)) (.seq (.ops f6_r21) (.seq (.ops f6_r22) (.cond (.tmp 75) (.ops f6_r23) .skip)))))))) (.ops f6_r24)))
def f6_r26 : List AStep := [⟨(some 78), (.mov (.tmp 6)), none⟩, ⟨(some 79), (.call (.con (.func 26 [])) [(.tmp 78), (.con (.int .i64 1))]), none⟩, ⟨(some 77), (.mov (.tmp 79)), none⟩, ⟨(some 80), (.extract (.tmp 77) 0), none⟩, ⟨(some 81), (.extract (.tmp 77) 1), none⟩, ⟨(some 12), (.mov (.tmp 80)), none⟩, ⟨(some 13), (.mov (.tmp 81)), none⟩]
def f6_r27 : List AStep := [⟨(some 83), (.mov (.tmp 6)), none⟩, ⟨(some 84), (.mov (.tmp 1)), none⟩, ⟨(some 85), (.call (.con (.func 24 [])) [(.tmp 83), (.tmp 84)]), none⟩, ⟨(some 86), (.call (.con (.func 26 [])) [(.tmp 85), (.con (.int .i64 1))]), none⟩, ⟨(some 82), (.mov (.tmp 86)), none⟩, ⟨(some 87), (.extract (.tmp 82) 0), none⟩, ⟨(some 88), (.extract (.tmp 82) 1), none⟩, ⟨(some 14), (.mov (.tmp 87)), none⟩, ⟨(some 15), (.mov (.tmp 88)), none⟩]
def f6_r28 : List AStep := [⟨(some 90), (.mov (.tmp 6)), none⟩, ⟨(some 91), (.call (.con (.func 26 [])) [(.tmp 90), (.con (.int .i64 0))]), none⟩, ⟨(some 89), (.mov (.tmp 91)), none⟩, ⟨(some 92), (.extract (.tmp 89) 0), none⟩, ⟨(some 93), (.extract (.tmp 89) 1), none⟩, ⟨(some 16), (.mov (.tmp 92)), none⟩, ⟨(some 17), (.mov (.tmp 93)), none⟩]
def f6_r29 : List AStep := [⟨(some 94), (.mov (.tmp 16)), none⟩, ⟨(some 95), (.cvB2S (.tmp 94)), none⟩, ⟨(some 18), (.mov (.tmp 95)), none⟩]
def f6_r30 : List AStep := [⟨(some 96), (.mov (.tmp 8)), none⟩, ⟨(some 97), (.bin .eql (.tmp 96) (.con (.str []))), none⟩]
def f6_r31 : List AStep := [⟨(some 98), (.mov (.tmp 18)), none⟩, ⟨(some 8), (.mov (.tmp 98)), none⟩]
def f6_r32 : List AStep := [⟨(some 99), (.mov (.tmp 9)), none⟩, ⟨(some 100), (.bin .eql (.tmp 99) (.con (.str []))), none⟩]
def f6_r33 : List AStep := [⟨(some 101), (.mov (.tmp 18)), none⟩, ⟨(some 9), (.mov (.tmp 101)), none⟩]
def f6_r34 : List AStep := [⟨(some 102), (.mov (.tmp 13)), none⟩, ⟨(some 103), (.bin .eql (.tmp 102) (.con (.int .i64 0))), none⟩, ⟨(some 104), (.mov (.tmp 103)), none⟩, ⟨(some 105), (.mov (.tmp 15)), (some (104, true))⟩, ⟨(some 106), (.bin .eql (.tmp 105) (.con (.int .i64 0))), (some (104, true))⟩, ⟨(some 107), (.pick (.tmp 104) (.tmp 106) (.con (.bool false))), none⟩, ⟨(some 108), (.mov (.tmp 107)), none⟩, ⟨(some 109), (.mov (.tmp 17)), (some (108, true))⟩, ⟨(some 110), (.bin .eql (.tmp 109) (.con (.int .i64 0))), (some (108, true))⟩, ⟨(some 111), (.pick (.tmp 108) (.tmp 110) (.con (.bool false))), none⟩, ⟨(some 112), (.mov (.tmp 111)), none⟩, ⟨(some 113), (.mov (.tmp 12)), (some (112, true))⟩, ⟨(some 114), (.cvB2S (.tmp 113)), (some (112, true))⟩, ⟨(some 115), (.mov (.tmp 8)), (some (112, true))⟩, ⟨(some 116), (.bin .eql (.tmp 114) (.tmp 115)), (some (112, true))⟩, ⟨(some 117), (.pick (.tmp 112) (.tmp 116) (.con (.bool false))), none⟩, ⟨(some 118), (.mov (.tmp 117)), none⟩, ⟨(some 119), (.mov (.tmp 14)), (some (118, true))⟩, ⟨(some 120), (.cvB2S (.tmp 119)), (some (118, true))⟩, ⟨(some 121), (.mov (.tmp 9)), (some (118, true))⟩, ⟨(some 122), (.bin .eql (.tmp 120) (.tmp 121)), (some (118, true))⟩, ⟨(some 123), (.pick (.tmp 118) (.tmp 122) (.con (.bool false))), none⟩, ⟨(some 124), (.mov (.tmp 123)), none⟩, ⟨(some 125), (.mov (.tmp 18)), (some (124, true))⟩, ⟨(some 126), (.lenT (.tmp 125)), (some (124, true))⟩, ⟨(some 127), (.bin .eql (.tmp 126) (.con (.int .i64 64))), (some (124, true))⟩, ⟨(some 128), (.pick (.tmp 124) (.tmp 127) (.con (.bool false))), none⟩, ⟨(some 4), (.mov (.tmp 128)), none⟩]
def f6_c : ACode := (.seq (.ops f6_r0) (.seq (.ops f6_r1) (.seq (.seq (.ops f6_r2) (.cond (.tmp 21) (.seq (.ops f6_r3) .ret) .skip)) (.seq (.seq (.ops f6_r4) (.cond (.tmp 29) (.seq (.ops f6_r5) .ret) .skip)) (.seq (.ops f6_r6) (.seq (.seq (.ops f6_r7) (.cond (.tmp 35) (.seq (.ops f6_r8) .ret) .skip)) (.seq (.ops f6_r9) (.seq (.ops f6_r10) (.seq (.seq (.ops f6_r11) (.block 0 (.loop f6_l25))) (.seq (.ops f6_r26) (.seq (.ops f6_r27) (.seq (.ops f6_r28) (.seq (.ops f6_r29) (.seq (.seq (.ops f6_r30) (.cond (.tmp 97) (.ops f6_r31) .skip)) (.seq (.seq (.ops f6_r32) (.cond (.tmp 100) (.ops f6_r33) .skip)) (.seq (.ops f6_r34) .ret))))))))))))))))
def f6_a : AFunc := ⟨129, [(.tmp 4)], f6_c⟩

/-! 7 -/
def f7_r0 : List AStep := [⟨(some 4), (.mov (.con (.bool false))), none⟩]
def f7_r1 : List AStep := [⟨(some 11), (.call (.con (.func 13 [])) []), none⟩, ⟨(some 5), (.mov (.tmp 11)), none⟩]
def f7_r2 : List AStep := [⟨(some 12), (.mov (.tmp 5)), none⟩, ⟨(some 13), (.not (.tmp 12)), none⟩]
def f7_r3 : List AStep := [⟨(some 4), (.mov (.con (.bool false))), none⟩]
def f7_r4 : List AStep := [⟨(some 15), (.call (.con (.func 15 [])) [(.con (.int .i64 2))]), none⟩, ⟨(some 14), (.mov (.tmp 15)), none⟩, ⟨(some 16), (.extract (.tmp 14) 0), none⟩, ⟨(some 17), (.extract (.tmp 14) 1), none⟩, ⟨(some 6), (.mov (.tmp 16)), none⟩, ⟨(some 7), (.mov (.tmp 17)), none⟩]
def f7_r5 : List AStep := [⟨(some 18), (.mov (.tmp 7)), none⟩, ⟨(some 19), (.bin .neq (.tmp 18) (.con (.int .i64 0))), none⟩]
def f7_r6 : List AStep := [⟨(some 4), (.mov (.con (.bool false))), none⟩]
def f7_r7 : List AStep := [⟨(some 20), (.mov (.tmp 1)), none⟩, ⟨(some 21), (.cvInt .i64 (.tmp 20)), none⟩, ⟨(some 22), (.bin .rem (.tmp 21) (.con (.int .i64 9))), none⟩, ⟨(some 23), (.bin .add (.tmp 22) (.con (.int .i64 2))), none⟩, ⟨(some 8), (.mov (.tmp 23)), none⟩]
def f7_r8 : List AStep := [⟨(some 24), (.mov (.tmp 6)), none⟩, ⟨(some 25), (.mov (.tmp 0)), none⟩, ⟨(some 26), (.cvInt .i64 (.tmp 25)), none⟩, ⟨(some 27), (.bin .rem (.tmp 26) (.con (.int .i64 3))), none⟩, ⟨(some 28), (.call (.con (.func 21 [])) [(.tmp 24), (.tmp 27)]), none⟩]
def f7_r9 : List AStep := [⟨(some 29), (.mov (.tmp 0)), none⟩, ⟨(some 30), (.cvInt .i64 (.tmp 29)), none⟩, ⟨(some 31), (.bin .rem (.tmp 30) (.con (.int .i64 3))), none⟩, ⟨(some 32), (.bin .eql (.tmp 31) (.con (.int .i64 1))), none⟩]
def f7_r10 : List AStep := [⟨(some 33), (.mov (.tmp 6)), none⟩, ⟨(some 34), (.call (.con (.func 21 [])) [(.tmp 33), (.con (.int .i64 0))]), none⟩]
def f7_r11 : List AStep := [⟨(some 35), (.mov (.tmp 6)), none⟩, ⟨(some 36), (.mov (.tmp 8)), none⟩, ⟨(some 37), (.call (.con (.func 21 [])) [(.tmp 35), (.tmp 36)]), none⟩]
def f7_r12 : List AStep := [⟨(some 9), (.mov (.con (.int .i64 1))), none⟩]
def f7_r13 : List AStep := [⟨(some 38), (.mov (.tmp 9)), none⟩, ⟨(some 39), (.mov (.tmp 8)), none⟩, ⟨(some 40), (.bin .lss (.tmp 38) (.tmp 39)), none⟩]
def f7_r14 : List AStep := [⟨(some 43), (.mov (.tmp 6)), none⟩, ⟨(some 44), (.call (.con (.func 17 [])) [(.tmp 43), (.con (.int .i64 5)), (.con .nils)]), none⟩, ⟨(some 45), (.bin .neq (.tmp 44) (.con (.int .i64 1))), none⟩, ⟨(some 46), (.mov (.tmp 45)), none⟩, ⟨(some 47), (.mov (.tmp 6)), (some (46, false))⟩, ⟨(some 48), (.call (.con (.func 17 [])) [(.tmp 47), (.con (.int .i64 0)), (.con .nils)]), (some (46, false))⟩, ⟨(some 49), (.bin .neq (.tmp 48) (.con (.int .i64 0))), (some (46, false))⟩, ⟨(some 50), (.pick (.tmp 46) (.con (.bool true)) (.tmp 49)), none⟩, ⟨(some 51), (.mov (.tmp 50)), none⟩, ⟨(some 52), (.mov (.tmp 6)), (some (51, false))⟩, ⟨(some 53), (.call (.con (.func 28 [])) [(.tmp 52)]), (some (51, false))⟩, ⟨(some 54), (.pick (.tmp 51) (.con (.bool true)) (.tmp 53)), none⟩]
def f7_r15 : List AStep := [⟨(some 4), (.mov (.con (.bool false))), none⟩]
def f7_r16 : List AStep := [⟨(some 41), (.mov (.tmp 9)), none⟩, ⟨(some 42), (.bin .add (.tmp 41) (.con (.int .i64 1))), none⟩, ⟨(some 9), (.mov (.tmp 42)), none⟩]
def f7_l17 : ACode := (.seq (.seq (.ops f7_r13) (.cond (.tmp 40) .skip (.exit 0))) (.seq (.block 1 (.seq (.ops f7_r14) (.cond (.tmp 54) (.seq (.ops f7_r15) .ret) .skip))) (.ops f7_r16)))
def f7_r18 : List AStep := [⟨(some 55), (.mov (.tmp 6)), none⟩, ⟨(some 56), (.call (.con (.func 19 [])) [(.tmp 55)]), none⟩, ⟨(some 10), (.mov (.tmp 56)), none⟩]
def f7_r19 : List AStep := [⟨(some 57), (.mov (.tmp 6)), none⟩, ⟨(some 58), (.call (.con (.func 21 [])) [(.tmp 57), (.con (.int .i64 0))]), none⟩]
def f7_r20 : List AStep := [⟨(some 59), (.mov (.tmp 10)), none⟩, ⟨(some 60), (.bin .eql (.tmp 59) (.con (.int .i64 20))), none⟩, ⟨(some 61), (.mov (.tmp 60)), none⟩, ⟨(some 62), (.mov (.tmp 6)), (some (61, true))⟩, ⟨(some 63), (.call (.con (.func 28 [])) [(.tmp 62)]), (some (61, true))⟩, ⟨(some 64), (.pick (.tmp 61) (.tmp 63) (.con (.bool false))), none⟩, ⟨(some 65), (.mov (.tmp 64)), none⟩, ⟨(some 66), (.mov (.tmp 6)), (some (65, true))⟩, ⟨(some 67), (.call (.con (.func 19 [])) [(.tmp 66)]), (some (65, true))⟩, ⟨(some 68), (.bin .eql (.tmp 67) (.con (.int .i64 20))), (some (65, true))⟩, ⟨(some 69), (.pick (.tmp 65) (.tmp 68) (.con (.bool false))), none⟩, ⟨(some 70), (.mov (.tmp 69)), none⟩, ⟨(some 71), (.mov (.tmp 6)), (some (70, true))⟩, ⟨(some 72), (.call (.con (.func 23 [])) [(.tmp 71)]), (some (70, true))⟩, ⟨(some 73), (.mov (.tmp 8)), (some (70, true))⟩, ⟨(some 74), (.bin .sub (.tmp 73) (.con (.int .i64 1))), (some (70, true))⟩, ⟨(some 75), (.bin .eql (.tmp 72) (.tmp 74)), (some (70, true))⟩, ⟨(some 76), (.pick (.tmp 70) (.tmp 75) (.con (.bool false))), none⟩, ⟨(some 77), (.mov (.tmp 76)), none⟩, ⟨(some 78), (.mov (.tmp 6)), (some (77, true))⟩, ⟨(some 79), (.call (.con (.func 24 [])) [(.tmp 78), (.con .nils)]), (some (77, true))⟩, ⟨(some 80), (.call (.con (.func 28 [])) [(.tmp 79)]), (some (77, true))⟩, ⟨(some 81), (.not (.tmp 80)), (some (77, true))⟩, ⟨(some 82), (.pick (.tmp 77) (.tmp 81) (.con (.bool false))), none⟩, ⟨(some 4), (.mov (.tmp 82)), none⟩]
def f7_c : ACode := (.seq (.ops f7_r0) (.seq (.ops f7_r1) (.seq (.seq (.ops f7_r2) (.cond (.tmp 13) (.seq (.ops f7_r3) .ret) .skip)) (.seq (.ops f7_r4) (.seq (.seq (.ops f7_r5) (.cond (.tmp 19) (.seq (.ops f7_r6) .ret) .skip)) (.seq (.ops f7_r7) (.seq (.ops f7_r8) (.seq (.seq (.ops f7_r9) (.cond (.tmp 32) (.ops f7_r10) .skip)) (.seq (.ops f7_r11) (.seq (.seq (.ops f7_r12) (.block 0 (.loop f7_l17))) (.seq (.ops f7_r18) (.seq (.ops f7_r19) (.seq (.ops f7_r20) .ret)))))))))))))
def f7_a : AFunc := ⟨83, [(.tmp 4)], f7_c⟩

/-! 8 -/
def f8_r0 : List AStep := [⟨(some 8), (.mov (.con (.bool false))), none⟩]
def f8_r1 : List AStep := [⟨(some 20), (.call (.con (.func 30 [])) []), none⟩, ⟨(some 9), (.mov (.tmp 20)), none⟩]
def f8_r2 : List AStep := [⟨(some 21), (.mov (.tmp 9)), none⟩, ⟨(some 22), (.not (.tmp 21)), none⟩]
def f8_r3 : List AStep := [⟨(some 8), (.mov (.con (.bool false))), none⟩]
def f8_r4 : List AStep := [⟨(some 23), (.mov (.tmp 0)), none⟩, ⟨(some 24), (.len (.tmp 23)), none⟩, ⟨(some 25), (.bin .gtr (.tmp 24) (.con (.int .i64 30))), none⟩, ⟨(some 26), (.mov (.tmp 25)), none⟩, ⟨(some 27), (.mov (.tmp 0)), (some (26, false))⟩, ⟨(some 28), (.len (.tmp 27)), (some (26, false))⟩, ⟨(some 29), (.bin .eql (.tmp 28) (.con (.int .i64 0))), (some (26, false))⟩, ⟨(some 30), (.pick (.tmp 26) (.con (.bool true)) (.tmp 29)), none⟩]
def f8_r5 : List AStep := [⟨(some 8), (.mov (.con (.bool true))), none⟩]
def f8_r6 : List AStep := [⟨(some 32), (.mov (.tmp 0)), none⟩, ⟨(some 33), (.len (.tmp 32)), none⟩, ⟨(some 34), (.call (.con (.func 15 [])) [(.tmp 33)]), none⟩, ⟨(some 31), (.mov (.tmp 34)), none⟩, ⟨(some 35), (.extract (.tmp 31) 0), none⟩, ⟨(some 36), (.extract (.tmp 31) 1), none⟩, ⟨(some 10), (.mov (.tmp 35)), none⟩, ⟨(some 11), (.mov (.tmp 36)), none⟩]
def f8_r7 : List AStep := [⟨(some 37), (.mov (.tmp 11)), none⟩, ⟨(some 38), (.bin .neq (.tmp 37) (.con (.int .i64 0))), none⟩]
def f8_r8 : List AStep := [⟨(some 8), (.mov (.con (.bool false))), none⟩]
def f8_r9 : List AStep := [⟨(some 12), (.mov (.con (.int .i64 0))), none⟩]
def f8_r10 : List AStep := [⟨(some 39), (.mov (.tmp 12)), none⟩, ⟨(some 40), (.mov (.tmp 0)), none⟩, ⟨(some 41), (.len (.tmp 40)), none⟩, ⟨(some 42), (.bin .lss (.tmp 39) (.tmp 41)), none⟩]
def f8_r11 : List AStep := [⟨(some 45), (.mov (.tmp 0)), none⟩, ⟨(some 46), (.mov (.tmp 12)), none⟩, ⟨(some 47), (.indexAddr 5 (.tmp 45) (.tmp 46)), none⟩, ⟨(some 48), (.fieldAddr 4 (.tmp 47)), none⟩, ⟨(some 49), (.load false 1 (.tmp 48)), none⟩, ⟨(some 50), (.len (.tmp 49)), none⟩, ⟨(some 51), (.bin .gtr (.tmp 50) (.con (.int .i64 60))), none⟩]
def f8_r12 : List AStep := [⟨(some 8), (.mov (.con (.bool true))), none⟩]
def f8_r13 : List AStep := [⟨(some 52), (.mov (.tmp 0)), none⟩, ⟨(some 53), (.mov (.tmp 12)), none⟩, ⟨(some 54), (.indexAddr 5 (.tmp 52) (.tmp 53)), none⟩, ⟨(some 55), (.fieldAddr 4 (.tmp 54)), none⟩, ⟨(some 56), (.load false 1 (.tmp 55)), none⟩, ⟨(some 57), (.cvB2S (.tmp 56)), none⟩, ⟨(some 13), (.mov (.tmp 57)), none⟩]
def f8_r14 : List AStep := [⟨(some 58), (.mov (.tmp 0)), none⟩, ⟨(some 59), (.mov (.tmp 12)), none⟩, ⟨(some 60), (.indexAddr 5 (.tmp 58) (.tmp 59)), none⟩, ⟨(some 61), (.fieldAddr 0 (.tmp 60)), none⟩, ⟨(some 62), (.load false 1 (.tmp 61)), none⟩, ⟨(some 63), (.bin .rem (.tmp 62) (.con (.int .u8 3))), none⟩]
def f8_r15 : List AStep := [⟨(some 65), (.bin .eql (.tmp 63) (.con (.int .u8 0))), none⟩, ⟨(some 64), (.mov (.tmp 65)), none⟩]
def f8_r16 : List DStep := [⟨0, 0, ⟨(some 66), (.mov (.tmp 0)), none⟩⟩, ⟨1, 0, ⟨(some 67), (.mov (.tmp 12)), none⟩⟩, ⟨2, 3, ⟨(some 68), (.indexAddr 5 (.tmp 66) (.tmp 67)), none⟩⟩, ⟨3, 7, ⟨(some 69), (.fieldAddr 1 (.tmp 68)), none⟩⟩, ⟨4, 15, ⟨(some 70), (.load false 1 (.tmp 69)), none⟩⟩, ⟨5, 31, ⟨(some 71), (.cvInt .u64 (.tmp 70)), none⟩⟩, ⟨6, 0, ⟨(some 72), (.mov (.tmp 0)), none⟩⟩, ⟨7, 0, ⟨(some 73), (.mov (.tmp 12)), none⟩⟩, ⟨8, 192, ⟨(some 74), (.indexAddr 5 (.tmp 72) (.tmp 73)), none⟩⟩, ⟨9, 448, ⟨(some 75), (.fieldAddr 2 (.tmp 74)), none⟩⟩, ⟨10, 960, ⟨(some 76), (.load false 1 (.tmp 75)), none⟩⟩, ⟨11, 1984, ⟨(some 77), (.cvInt .u64 (.tmp 76)), none⟩⟩, ⟨12, 0, ⟨(some 78), (.mov (.tmp 0)), none⟩⟩, ⟨13, 0, ⟨(some 79), (.mov (.tmp 12)), none⟩⟩, ⟨14, 12288, ⟨(some 80), (.indexAddr 5 (.tmp 78) (.tmp 79)), none⟩⟩, ⟨15, 28672, ⟨(some 81), (.fieldAddr 3 (.tmp 80)), none⟩⟩, ⟨16, 61440, ⟨(some 82), (.load false 1 (.tmp 81)), none⟩⟩, ⟨17, 126976, ⟨(some 83), (.cvInt .i64 (.tmp 82)), none⟩⟩, ⟨18, 262143, ⟨(some 84), (.call (.con (.func 31 [])) [(.tmp 71), (.tmp 77), (.tmp 83)]), none⟩⟩, ⟨19, 524287, ⟨(some 13), (.mov (.tmp 84)), none⟩⟩]
def f8_r17 : List AStep := [⟨(some 86), (.bin .eql (.tmp 63) (.con (.int .u8 2))), none⟩, ⟨(some 85), (.mov (.tmp 86)), none⟩]
def f8_r18 : List AStep := [⟨(some 87), (.mov (.tmp 13)), none⟩, ⟨(some 88), (.bin .add (.con (.str [0])) (.tmp 87)), none⟩, ⟨(some 13), (.mov (.tmp 88)), none⟩]
def f8_r19 : List AStep := [⟨(some 89), (.mov (.tmp 10)), none⟩, ⟨(some 90), (.mov (.tmp 12)), none⟩, ⟨(some 91), (.mov (.tmp 13)), none⟩, ⟨(some 92), (.cvS2B (.tmp 91)), none⟩, ⟨(some 93), (.call (.con (.func 17 [])) [(.tmp 89), (.tmp 90), (.tmp 92)]), none⟩]
def f8_r20 : List AStep := [⟨(some 43), (.mov (.tmp 12)), none⟩, ⟨(some 44), (.bin .add (.tmp 43) (.con (.int .i64 1))), none⟩, ⟨(some 12), (.mov (.tmp 44)), none⟩]
def f8_l21 : ACode := (.seq (.seq (.ops f8_r10) (.cond (.tmp 42) .skip (.exit 0))) (.seq (.block 1 (.seq (.seq (.ops f8_r11) (.cond (.tmp 51) (.seq (.ops f8_r12) .ret) .skip)) (.seq (.ops f8_r13) (.seq (.seq (.ops f8_r14) (.block 2 (.seq (.ops f8_r15) (.cond (.tmp 64) (.draw f8_r16) (.seq (.ops f8_r17) (.cond (.tmp 85) (.ops f8_r18) .skip)))))) (.ops f8_r19))))) (.ops f8_r20)))
def f8_r22 : List AStep := [⟨(some 94), (.mov (.tmp 2)), none⟩, ⟨(some 95), (.cvInt .i64 (.tmp 94)), none⟩, ⟨(some 96), (.mov (.tmp 0)), none⟩, ⟨(some 97), (.len (.tmp 96)), none⟩, ⟨(some 98), (.bin .add (.tmp 97) (.con (.int .i64 1))), none⟩, ⟨(some 99), (.bin .rem (.tmp 95) (.tmp 98)), none⟩, ⟨(some 14), (.mov (.tmp 99)), none⟩]
def f8_r23 : List AStep := [⟨(some 100), (.mov (.tmp 14)), none⟩, ⟨(some 101), (.mov (.tmp 3)), none⟩, ⟨(some 102), (.cvInt .i64 (.tmp 101)), none⟩, ⟨(some 103), (.mov (.tmp 0)), none⟩, ⟨(some 104), (.len (.tmp 103)), none⟩, ⟨(some 105), (.mov (.tmp 14)), none⟩, ⟨(some 106), (.bin .sub (.tmp 104) (.tmp 105)), none⟩, ⟨(some 107), (.bin .add (.tmp 106) (.con (.int .i64 1))), none⟩, ⟨(some 108), (.bin .rem (.tmp 102) (.tmp 107)), none⟩, ⟨(some 109), (.bin .add (.tmp 100) (.tmp 108)), none⟩, ⟨(some 15), (.mov (.tmp 109)), none⟩]
def f8_r24 : List AStep := [⟨(some 111), (.mov (.tmp 10)), none⟩, ⟨(some 112), (.mov (.tmp 14)), none⟩, ⟨(some 113), (.mov (.tmp 15)), none⟩, ⟨(some 114), (.mov (.tmp 1)), none⟩, ⟨(some 115), (.cvInt .u64 (.tmp 114)), none⟩, ⟨(some 116), (.call (.con (.func 32 [])) [(.tmp 111), (.tmp 112), (.tmp 113), (.tmp 115)]), none⟩, ⟨(some 110), (.mov (.tmp 116)), none⟩, ⟨(some 117), (.extract (.tmp 110) 0), none⟩, ⟨(some 118), (.extract (.tmp 110) 1), none⟩, ⟨(some 16), (.mov (.tmp 117)), none⟩, ⟨(some 17), (.mov (.tmp 118)), none⟩]
def f8_r25 : List AStep := [⟨(some 120), (.mov (.tmp 10)), none⟩, ⟨(some 121), (.call (.con (.func 34 [])) [(.tmp 120)]), none⟩, ⟨(some 122), (.mov (.tmp 14)), none⟩, ⟨(some 123), (.mov (.tmp 15)), none⟩, ⟨(some 124), (.mov (.tmp 1)), none⟩, ⟨(some 125), (.cvInt .u64 (.tmp 124)), none⟩, ⟨(some 126), (.call (.con (.func 33 [])) [(.tmp 121), (.tmp 122), (.tmp 123), (.tmp 125)]), none⟩, ⟨(some 119), (.mov (.tmp 126)), none⟩, ⟨(some 127), (.extract (.tmp 119) 0), none⟩, ⟨(some 128), (.extract (.tmp 119) 1), none⟩, ⟨(some 18), (.mov (.tmp 127)), none⟩, ⟨(some 19), (.mov (.tmp 128)), none⟩]
def f8_r26 : List AStep := [⟨(some 129), (.mov (.tmp 17)), none⟩, ⟨(some 130), (.bin .eql (.tmp 129) (.con (.int .i64 0))), none⟩, ⟨(some 131), (.mov (.tmp 130)), none⟩, ⟨(some 132), (.mov (.tmp 16)), (some (131, true))⟩, ⟨(some 133), (.call (.con (.func 36 [])) [(.tmp 132)]), (some (131, true))⟩, ⟨(some 134), (.mov (.tmp 18)), (some (131, true))⟩, ⟨(some 135), (.call (.con (.func 35 [])) [(.tmp 133), (.tmp 134)]), (some (131, true))⟩, ⟨(some 136), (.pick (.tmp 131) (.tmp 135) (.con (.bool false))), none⟩, ⟨(some 137), (.mov (.tmp 136)), none⟩, ⟨(some 138), (.mov (.tmp 16)), (some (137, true))⟩, ⟨(some 139), (.call (.con (.func 37 [])) [(.tmp 138)]), (some (137, true))⟩, ⟨(some 140), (.mov (.tmp 15)), (some (137, true))⟩, ⟨(some 141), (.mov (.tmp 19)), (some (137, true))⟩, ⟨(some 142), (.bin .sub (.tmp 140) (.tmp 141)), (some (137, true))⟩, ⟨(some 143), (.bin .eql (.tmp 139) (.tmp 142)), (some (137, true))⟩, ⟨(some 144), (.pick (.tmp 137) (.tmp 143) (.con (.bool false))), none⟩, ⟨(some 8), (.mov (.tmp 144)), none⟩]
def f8_c : ACode := (.seq (.ops f8_r0) (.seq (.ops f8_r1) (.seq (.seq (.ops f8_r2) (.cond (.tmp 22) (.seq (.ops f8_r3) .ret) .skip)) (.seq (.seq (.ops f8_r4) (.cond (.tmp 30) (.seq (.ops f8_r5) .ret) .skip)) (.seq (.ops f8_r6) (.seq (.seq (.ops f8_r7) (.cond (.tmp 38) (.seq (.ops f8_r8) .ret) .skip)) (.seq (.seq (.ops f8_r9) (.block 0 (.loop f8_l21))) (.seq (.ops f8_r22) (.seq (.ops f8_r23) (.seq (.ops f8_r24) (.seq (.ops f8_r25) (.seq (.ops f8_r26) .ret))))))))))))
def f8_a : AFunc := ⟨145, [(.tmp 8)], f8_c⟩

/-! 9 -/
def f9_r0 : List AStep := [⟨(some 8), (.mov (.con (.bool false))), none⟩]
def f9_r1 : List AStep := [⟨(some 27), (.call (.con (.func 30 [])) []), none⟩, ⟨(some 9), (.mov (.tmp 27)), none⟩]
def f9_r2 : List AStep := [⟨(some 28), (.mov (.tmp 9)), none⟩, ⟨(some 29), (.not (.tmp 28)), none⟩]
def f9_r3 : List AStep := [⟨(some 8), (.mov (.con (.bool false))), none⟩]
def f9_r4 : List AStep := [⟨(some 30), (.mov (.tmp 0)), none⟩, ⟨(some 31), (.call (.con (.func 38 [])) [(.tmp 30)]), none⟩, ⟨(some 10), (.mov (.tmp 31)), none⟩]
def f9_r5 : List AStep := [⟨(some 32), (.mov (.tmp 1)), none⟩, ⟨(some 33), (.call (.con (.func 38 [])) [(.tmp 32)]), none⟩, ⟨(some 11), (.mov (.tmp 33)), none⟩]
def f9_r6 : List AStep := [⟨(some 34), (.mov (.tmp 10)), none⟩, ⟨(some 35), (.not (.tmp 34)), none⟩, ⟨(some 36), (.mov (.tmp 35)), none⟩, ⟨(some 37), (.mov (.tmp 11)), (some (36, false))⟩, ⟨(some 38), (.not (.tmp 37)), (some (36, false))⟩, ⟨(some 39), (.pick (.tmp 36) (.con (.bool true)) (.tmp 38)), none⟩, ⟨(some 40), (.mov (.tmp 39)), none⟩, ⟨(some 41), (.mov (.tmp 2)), (some (40, false))⟩, ⟨(some 42), (.mov (.tmp 3)), (some (40, false))⟩, ⟨(some 43), (.bin .eql (.tmp 41) (.tmp 42)), (some (40, false))⟩, ⟨(some 44), (.pick (.tmp 40) (.con (.bool true)) (.tmp 43)), none⟩]
def f9_r7 : List AStep := [⟨(some 8), (.mov (.con (.bool true))), none⟩]
def f9_r8 : List AStep := [⟨(some 46), (.call (.con (.func 15 [])) [(.con (.int .i64 150))]), none⟩, ⟨(some 45), (.mov (.tmp 46)), none⟩, ⟨(some 47), (.extract (.tmp 45) 0), none⟩, ⟨(some 48), (.extract (.tmp 45) 1), none⟩, ⟨(some 12), (.mov (.tmp 47)), none⟩, ⟨(some 13), (.mov (.tmp 48)), none⟩]
def f9_r9 : List AStep := [⟨(some 49), (.mov (.tmp 13)), none⟩, ⟨(some 50), (.bin .neq (.tmp 49) (.con (.int .i64 0))), none⟩]
def f9_r10 : List AStep := [⟨(some 8), (.mov (.con (.bool false))), none⟩]
def f9_r11 : List AStep := [⟨(some 52), (.mov (.tmp 12)), none⟩, ⟨(some 53), (.mov (.tmp 2)), none⟩, ⟨(some 54), (.call (.con (.func 32 [])) [(.tmp 52), (.con (.int .i64 0)), (.con (.int .i64 150)), (.tmp 53)]), none⟩, ⟨(some 51), (.mov (.tmp 54)), none⟩, ⟨(some 55), (.extract (.tmp 51) 0), none⟩, ⟨(some 56), (.extract (.tmp 51) 1), none⟩, ⟨(some 14), (.mov (.tmp 55)), none⟩, ⟨(some 15), (.mov (.tmp 56)), none⟩]
def f9_r12 : List AStep := [⟨(some 57), (.mov (.tmp 15)), none⟩, ⟨(some 58), (.bin .neq (.tmp 57) (.con (.int .i64 0))), none⟩]
def f9_r13 : List AStep := [⟨(some 8), (.mov (.con (.bool false))), none⟩]
def f9_r14 : List AStep := [⟨(some 16), (.mov (.con (.int .i64 0))), none⟩]
def f9_r15 : List AStep := [⟨(some 59), (.mov (.tmp 16)), none⟩, ⟨(some 60), (.mov (.tmp 0)), none⟩, ⟨(some 61), (.len (.tmp 60)), none⟩, ⟨(some 62), (.bin .lss (.tmp 59) (.tmp 61)), none⟩]
def f9_r16 : List AStep := [⟨(some 65), (.mov (.tmp 14)), none⟩, ⟨(some 66), (.mov (.tmp 0)), none⟩, ⟨(some 67), (.mov (.tmp 16)), none⟩, ⟨(some 68), (.indexAddr 1 (.tmp 66) (.tmp 67)), none⟩, ⟨(some 69), (.load false 1 (.tmp 68)), none⟩, ⟨(some 70), (.call (.con (.func 39 [])) [(.tmp 65), (.tmp 69)]), none⟩]
def f9_r17 : List AStep := [⟨(some 63), (.mov (.tmp 16)), none⟩, ⟨(some 64), (.bin .add (.tmp 63) (.con (.int .i64 1))), none⟩, ⟨(some 16), (.mov (.tmp 64)), none⟩]
def f9_l18 : ACode := (.seq (.seq (.ops f9_r15) (.cond (.tmp 62) .skip (.exit 0))) (.seq (.block 1 (.ops f9_r16)) (.ops f9_r17)))
def f9_r19 : List AStep := [⟨(some 72), (.mov (.tmp 12)), none⟩, ⟨(some 73), (.mov (.tmp 3)), none⟩, ⟨(some 74), (.call (.con (.func 32 [])) [(.tmp 72), (.con (.int .i64 0)), (.con (.int .i64 150)), (.tmp 73)]), none⟩, ⟨(some 71), (.mov (.tmp 74)), none⟩, ⟨(some 75), (.extract (.tmp 71) 0), none⟩, ⟨(some 76), (.extract (.tmp 71) 1), none⟩, ⟨(some 17), (.mov (.tmp 75)), none⟩, ⟨(some 18), (.mov (.tmp 76)), none⟩]
def f9_r20 : List AStep := [⟨(some 77), (.mov (.tmp 18)), none⟩, ⟨(some 78), (.bin .neq (.tmp 77) (.con (.int .i64 0))), none⟩, ⟨(some 79), (.mov (.tmp 78)), none⟩, ⟨(some 80), (.mov (.tmp 17)), (some (79, false))⟩, ⟨(some 81), (.call (.con (.func 36 [])) [(.tmp 80)]), (some (79, false))⟩, ⟨(some 82), (.len (.tmp 81)), (some (79, false))⟩, ⟨(some 83), (.bin .neq (.tmp 82) (.con (.int .i64 0))), (some (79, false))⟩, ⟨(some 84), (.pick (.tmp 79) (.con (.bool true)) (.tmp 83)), none⟩, ⟨(some 85), (.mov (.tmp 84)), none⟩, ⟨(some 86), (.mov (.tmp 17)), (some (85, false))⟩, ⟨(some 87), (.call (.con (.func 37 [])) [(.tmp 86)]), (some (85, false))⟩, ⟨(some 88), (.bin .neq (.tmp 87) (.con (.int .i64 150))), (some (85, false))⟩, ⟨(some 89), (.pick (.tmp 85) (.con (.bool true)) (.tmp 88)), none⟩]
def f9_r21 : List AStep := [⟨(some 8), (.mov (.con (.bool false))), none⟩]
def f9_r22 : List AStep := [⟨(some 19), (.mov (.con .nils)), none⟩]
def f9_r23 : List AStep := [⟨(some 20), (.mov (.con (.int .i64 0))), none⟩]
def f9_r24 : List AStep := [⟨(some 90), (.mov (.tmp 20)), none⟩, ⟨(some 91), (.mov (.tmp 1)), none⟩, ⟨(some 92), (.len (.tmp 91)), none⟩, ⟨(some 93), (.bin .lss (.tmp 90) (.tmp 92)), none⟩]
def f9_r25 : List AStep := [⟨(some 96), (.mov (.tmp 17)), none⟩, ⟨(some 97), (.mov (.tmp 1)), none⟩, ⟨(some 98), (.mov (.tmp 20)), none⟩, ⟨(some 99), (.indexAddr 1 (.tmp 97) (.tmp 98)), none⟩, ⟨(some 100), (.load false 1 (.tmp 99)), none⟩, ⟨(some 101), (.call (.con (.func 39 [])) [(.tmp 96), (.tmp 100)]), none⟩, ⟨(some 102), (.bin .neq (.tmp 101) (.con (.int .i64 0))), none⟩]
def f9_r26 : List AStep := [⟨(some 8), (.mov (.con (.bool false))), none⟩]
def f9_r27 : List AStep := [⟨(some 103), (.mov (.tmp 19)), none⟩, ⟨(some 104), (.mov (.tmp 1)), none⟩, ⟨(some 105), (.mov (.tmp 20)), none⟩, ⟨(some 106), (.indexAddr 1 (.tmp 104) (.tmp 105)), none⟩, ⟨(some 107), (.load false 1 (.tmp 106)), none⟩, ⟨(some 108), (.cvB2S (.tmp 107)), none⟩, ⟨(some 109), (.buildSlice 1 1 [(.str [])] [(0, (1, (.tmp 108)))]), none⟩, ⟨(some 110), (.append 1 (.tmp 103) (.tmp 109)), none⟩, ⟨(some 19), (.mov (.tmp 110)), none⟩]
def f9_r28 : List AStep := [⟨(some 94), (.mov (.tmp 20)), none⟩, ⟨(some 95), (.bin .add (.tmp 94) (.con (.int .i64 1))), none⟩, ⟨(some 20), (.mov (.tmp 95)), none⟩]
def f9_l29 : ACode := (.seq (.seq (.ops f9_r24) (.cond (.tmp 93) .skip (.exit 2))) (.seq (.block 3 (.seq (.seq (.ops f9_r25) (.cond (.tmp 102) (.seq (.ops f9_r26) .ret) .skip)) (.ops f9_r27))) (.ops f9_r28)))
def f9_r30 : List AStep := [⟨(some 112), (.mov (.tmp 12)), none⟩, ⟨(some 113), (.mov (.tmp 3)), none⟩, ⟨(some 114), (.call (.con (.func 32 [])) [(.tmp 112), (.con (.int .i64 0)), (.con (.int .i64 150)), (.tmp 113)]), none⟩, ⟨(some 111), (.mov (.tmp 114)), none⟩, ⟨(some 115), (.extract (.tmp 111) 0), none⟩, ⟨(some 116), (.extract (.tmp 111) 1), none⟩, ⟨(some 21), (.mov (.tmp 115)), none⟩, ⟨(some 22), (.mov (.tmp 116)), none⟩]
def f9_r31 : List AStep := [⟨(some 118), (.mov (.tmp 12)), none⟩, ⟨(some 119), (.mov (.tmp 2)), none⟩, ⟨(some 120), (.call (.con (.func 32 [])) [(.tmp 118), (.con (.int .i64 0)), (.con (.int .i64 150)), (.tmp 119)]), none⟩, ⟨(some 117), (.mov (.tmp 120)), none⟩, ⟨(some 121), (.extract (.tmp 117) 0), none⟩, ⟨(some 122), (.extract (.tmp 117) 1), none⟩, ⟨(some 23), (.mov (.tmp 121)), none⟩, ⟨(some 24), (.mov (.tmp 122)), none⟩]
def f9_r32 : List AStep := [⟨(some 124), (.mov (.tmp 2)), none⟩, ⟨(some 125), (.call (.con (.func 32 [])) [(.con .nilp), (.con (.int .i64 0)), (.con (.int .i64 0)), (.tmp 124)]), none⟩, ⟨(some 123), (.mov (.tmp 125)), none⟩, ⟨(some 126), (.extract (.tmp 123) 0), none⟩, ⟨(some 127), (.extract (.tmp 123) 1), none⟩, ⟨(some 25), (.mov (.tmp 126)), none⟩, ⟨(some 26), (.mov (.tmp 127)), none⟩]
def f9_r33 : List AStep := [⟨(some 128), (.mov (.tmp 22)), none⟩, ⟨(some 129), (.bin .eql (.tmp 128) (.con (.int .i64 0))), none⟩, ⟨(some 130), (.mov (.tmp 129)), none⟩, ⟨(some 131), (.mov (.tmp 21)), (some (130, true))⟩, ⟨(some 132), (.call (.con (.func 36 [])) [(.tmp 131)]), (some (130, true))⟩, ⟨(some 133), (.mov (.tmp 19)), (some (130, true))⟩, ⟨(some 134), (.call (.con (.func 35 [])) [(.tmp 132), (.tmp 133)]), (some (130, true))⟩, ⟨(some 135), (.pick (.tmp 130) (.tmp 134) (.con (.bool false))), none⟩, ⟨(some 136), (.mov (.tmp 135)), none⟩, ⟨(some 137), (.mov (.tmp 24)), (some (136, true))⟩, ⟨(some 138), (.bin .eql (.tmp 137) (.con (.int .i64 0))), (some (136, true))⟩, ⟨(some 139), (.pick (.tmp 136) (.tmp 138) (.con (.bool false))), none⟩, ⟨(some 140), (.mov (.tmp 139)), none⟩, ⟨(some 141), (.mov (.tmp 1)), (some (140, true))⟩, ⟨(some 142), (.len (.tmp 141)), (some (140, true))⟩, ⟨(some 143), (.bin .eql (.tmp 142) (.con (.int .i64 0))), (some (140, true))⟩, ⟨(some 144), (.mov (.tmp 143)), (some (140, true))⟩, ⟨(some 145), (.mov (.tmp 23)), (some (144, false))⟩, ⟨(some 146), (.call (.con (.func 36 [])) [(.tmp 145)]), (some (144, false))⟩, ⟨(some 147), (.len (.tmp 146)), (some (144, false))⟩, ⟨(some 148), (.bin .eql (.tmp 147) (.con (.int .i64 0))), (some (144, false))⟩, ⟨(some 149), (.pick (.tmp 144) (.con (.bool true)) (.tmp 148)), (some (140, true))⟩, ⟨(some 150), (.pick (.tmp 140) (.tmp 149) (.con (.bool false))), none⟩, ⟨(some 151), (.mov (.tmp 150)), none⟩, ⟨(some 152), (.mov (.tmp 25)), (some (151, true))⟩, ⟨(some 153), (.eq .ptr false (.tmp 152) (.con .nilp)), (some (151, true))⟩, ⟨(some 154), (.pick (.tmp 151) (.tmp 153) (.con (.bool false))), none⟩, ⟨(some 155), (.mov (.tmp 154)), none⟩, ⟨(some 156), (.mov (.tmp 26)), (some (155, true))⟩, ⟨(some 157), (.bin .eql (.tmp 156) (.con (.int .i64 1))), (some (155, true))⟩, ⟨(some 158), (.pick (.tmp 155) (.tmp 157) (.con (.bool false))), none⟩, ⟨(some 159), (.mov (.tmp 158)), none⟩, ⟨(some 160), (.mov (.tmp 25)), (some (159, true))⟩, ⟨(some 161), (.call (.con (.func 36 [])) [(.tmp 160)]), (some (159, true))⟩, ⟨(some 162), (.len (.tmp 161)), (some (159, true))⟩, ⟨(some 163), (.bin .eql (.tmp 162) (.con (.int .i64 0))), (some (159, true))⟩, ⟨(some 164), (.pick (.tmp 159) (.tmp 163) (.con (.bool false))), none⟩, ⟨(some 165), (.mov (.tmp 164)), none⟩, ⟨(some 166), (.mov (.tmp 25)), (some (165, true))⟩, ⟨(some 167), (.call (.con (.func 37 [])) [(.tmp 166)]), (some (165, true))⟩, ⟨(some 168), (.bin .eql (.tmp 167) (.con (.int .i64 0))), (some (165, true))⟩, ⟨(some 169), (.pick (.tmp 165) (.tmp 168) (.con (.bool false))), none⟩, ⟨(some 170), (.mov (.tmp 169)), none⟩, ⟨(some 171), (.mov (.tmp 25)), (some (170, true))⟩, ⟨(some 172), (.call (.con (.func 39 [])) [(.tmp 171), (.con .nils)]), (some (170, true))⟩, ⟨(some 173), (.bin .eql (.tmp 172) (.con (.int .i64 1))), (some (170, true))⟩, ⟨(some 174), (.pick (.tmp 170) (.tmp 173) (.con (.bool false))), none⟩, ⟨(some 8), (.mov (.tmp 174)), none⟩]
def f9_c : ACode := (.seq (.ops f9_r0) (.seq (.ops f9_r1) (.seq (.seq (.ops f9_r2) (.cond (.tmp 29) (.seq (.ops f9_r3) .ret) .skip)) (.seq (.ops f9_r4) (.seq (.ops f9_r5) (.seq (.seq (.ops f9_r6) (.cond (.tmp 44) (.seq (.ops f9_r7) .ret) .skip)) (.seq (.ops f9_r8) (.seq (.seq (.ops f9_r9) (.cond (.tmp 50) (.seq (.ops f9_r10) .ret) .skip)) (.seq (.ops f9_r11) (.seq (.seq (.ops f9_r12) (.cond (.tmp 58) (.seq (.ops f9_r13) .ret) .skip)) (.seq (.seq (.ops f9_r14) (.block 0 (.loop f9_l18))) (.seq (.ops f9_r19) (.seq (.seq (.ops f9_r20) (.cond (.tmp 89) (.seq (.ops f9_r21) .ret) .skip)) (.seq (.ops f9_r22) (.seq (.seq (.ops f9_r23) (.block 2 (.loop f9_l29))) (.seq (.ops f9_r30) (.seq (.ops f9_r31) (.seq (.ops f9_r32) (.seq (.ops f9_r33) .ret)))))))))))))))))))
def f9_a : AFunc := ⟨175, [(.tmp 8)], f9_c⟩

/-! 10 -/
def f10_r0 : List AStep := [⟨(some 4), (.mov (.con (.bool false))), none⟩]
def f10_r1 : List AStep := [⟨(some 15), (.call (.con (.func 30 [])) []), none⟩, ⟨(some 5), (.mov (.tmp 15)), none⟩]
def f10_r2 : List AStep := [⟨(some 16), (.mov (.tmp 5)), none⟩, ⟨(some 17), (.not (.tmp 16)), none⟩]
def f10_r3 : List AStep := [⟨(some 4), (.mov (.con (.bool false))), none⟩]
def f10_r4 : List AStep := [⟨(some 18), (.mov (.tmp 0)), none⟩, ⟨(some 19), (.cvInt .i64 (.tmp 18)), none⟩, ⟨(some 20), (.bin .rem (.tmp 19) (.con (.int .i64 700))), none⟩, ⟨(some 6), (.mov (.tmp 20)), none⟩]
def f10_r5 : List AStep := [⟨(some 21), (.mov (.tmp 6)), none⟩, ⟨(some 22), (.call (.con (.func 40 [])) [(.tmp 21)]), none⟩, ⟨(some 7), (.mov (.tmp 22)), none⟩]
def f10_r6 : List AStep := [⟨(some 24), (.mov (.tmp 7)), none⟩, ⟨(some 25), (.bin .add (.tmp 24) (.con (.int .i64 3))), none⟩, ⟨(some 26), (.call (.con (.func 15 [])) [(.tmp 25)]), none⟩, ⟨(some 23), (.mov (.tmp 26)), none⟩, ⟨(some 27), (.extract (.tmp 23) 0), none⟩, ⟨(some 28), (.extract (.tmp 23) 1), none⟩, ⟨(some 8), (.mov (.tmp 27)), none⟩, ⟨(some 9), (.mov (.tmp 28)), none⟩]
def f10_r7 : List AStep := [⟨(some 29), (.mov (.tmp 9)), none⟩, ⟨(some 30), (.bin .neq (.tmp 29) (.con (.int .i64 0))), none⟩]
def f10_r8 : List AStep := [⟨(some 4), (.mov (.con (.bool false))), none⟩]
def f10_r9 : List AStep := [⟨(some 32), (.mov (.tmp 8)), none⟩, ⟨(some 33), (.mov (.tmp 7)), none⟩, ⟨(some 34), (.bin .add (.con (.int .i64 1)) (.tmp 33)), none⟩, ⟨(some 35), (.mov (.tmp 1)), none⟩, ⟨(some 36), (.call (.con (.func 32 [])) [(.tmp 32), (.con (.int .i64 1)), (.tmp 34), (.tmp 35)]), none⟩, ⟨(some 31), (.mov (.tmp 36)), none⟩, ⟨(some 37), (.extract (.tmp 31) 0), none⟩, ⟨(some 38), (.extract (.tmp 31) 1), none⟩, ⟨(some 10), (.mov (.tmp 37)), none⟩, ⟨(some 11), (.mov (.tmp 38)), none⟩]
def f10_r10 : List AStep := [⟨(some 40), (.mov (.tmp 8)), none⟩, ⟨(some 41), (.mov (.tmp 7)), none⟩, ⟨(some 42), (.mov (.tmp 1)), none⟩, ⟨(some 43), (.call (.con (.func 32 [])) [(.tmp 40), (.con (.int .i64 1)), (.tmp 41), (.tmp 42)]), none⟩, ⟨(some 39), (.mov (.tmp 43)), none⟩, ⟨(some 44), (.extract (.tmp 39) 0), none⟩, ⟨(some 45), (.extract (.tmp 39) 1), none⟩, ⟨(some 12), (.mov (.tmp 44)), none⟩, ⟨(some 13), (.mov (.tmp 45)), none⟩]
def f10_r11 : List AStep := [⟨(some 46), (.mov (.tmp 11)), none⟩, ⟨(some 47), (.bin .neq (.tmp 46) (.con (.int .i64 0))), none⟩, ⟨(some 48), (.mov (.tmp 47)), none⟩, ⟨(some 49), (.mov (.tmp 13)), (some (48, false))⟩, ⟨(some 50), (.bin .neq (.tmp 49) (.con (.int .i64 0))), (some (48, false))⟩, ⟨(some 51), (.pick (.tmp 48) (.con (.bool true)) (.tmp 50)), none⟩]
def f10_r12 : List AStep := [⟨(some 4), (.mov (.con (.bool false))), none⟩]
def f10_r13 : List AStep := [⟨(some 52), (.mov (.tmp 6)), none⟩, ⟨(some 53), (.makeSlice 1 1 [(.int .u8 0)] (.tmp 52) (.tmp 52)), none⟩, ⟨(some 14), (.mov (.tmp 53)), none⟩]
def f10_r14 : List AStep := [⟨(some 54), (.mov (.tmp 12)), none⟩, ⟨(some 55), (.mov (.tmp 14)), none⟩, ⟨(some 56), (.call (.con (.func 39 [])) [(.tmp 54), (.tmp 55)]), none⟩, ⟨(some 57), (.bin .eql (.tmp 56) (.con (.int .i64 21))), none⟩, ⟨(some 58), (.mov (.tmp 57)), none⟩, ⟨(some 59), (.mov (.tmp 10)), (some (58, true))⟩, ⟨(some 60), (.mov (.tmp 14)), (some (58, true))⟩, ⟨(some 61), (.call (.con (.func 39 [])) [(.tmp 59), (.tmp 60)]), (some (58, true))⟩, ⟨(some 62), (.bin .eql (.tmp 61) (.con (.int .i64 0))), (some (58, true))⟩, ⟨(some 63), (.pick (.tmp 58) (.tmp 62) (.con (.bool false))), none⟩, ⟨(some 64), (.mov (.tmp 63)), none⟩, ⟨(some 65), (.mov (.tmp 10)), (some (64, true))⟩, ⟨(some 66), (.call (.con (.func 37 [])) [(.tmp 65)]), (some (64, true))⟩, ⟨(some 67), (.bin .eql (.tmp 66) (.con (.int .i64 0))), (some (64, true))⟩, ⟨(some 68), (.pick (.tmp 64) (.tmp 67) (.con (.bool false))), none⟩, ⟨(some 69), (.mov (.tmp 68)), none⟩, ⟨(some 70), (.mov (.tmp 10)), (some (69, true))⟩, ⟨(some 71), (.call (.con (.func 39 [])) [(.tmp 70), (.con .nils)]), (some (69, true))⟩, ⟨(some 72), (.bin .eql (.tmp 71) (.con (.int .i64 21))), (some (69, true))⟩, ⟨(some 73), (.pick (.tmp 69) (.tmp 72) (.con (.bool false))), none⟩, ⟨(some 74), (.mov (.tmp 73)), none⟩, ⟨(some 75), (.call (.con (.func 40 [])) [(.con (.int .i64 (-1)))]), (some (74, true))⟩, ⟨(some 76), (.bin .eql (.tmp 75) (.con (.int .i64 1))), (some (74, true))⟩, ⟨(some 77), (.pick (.tmp 74) (.tmp 76) (.con (.bool false))), none⟩, ⟨(some 78), (.mov (.tmp 77)), none⟩, ⟨(some 79), (.mov (.tmp 7)), (some (78, true))⟩, ⟨(some 80), (.bin .sub (.tmp 79) (.con (.int .i64 1))), (some (78, true))⟩, ⟨(some 81), (.bin .mul (.con (.int .i64 63)) (.tmp 80)), (some (78, true))⟩, ⟨(some 82), (.mov (.tmp 6)), (some (78, true))⟩, ⟨(some 83), (.bin .geq (.tmp 81) (.tmp 82)), (some (78, true))⟩, ⟨(some 84), (.pick (.tmp 78) (.tmp 83) (.con (.bool false))), none⟩, ⟨(some 85), (.mov (.tmp 84)), none⟩, ⟨(some 86), (.mov (.tmp 6)), (some (85, true))⟩, ⟨(some 87), (.bin .eql (.tmp 86) (.con (.int .i64 0))), (some (85, true))⟩, ⟨(some 88), (.mov (.tmp 87)), (some (85, true))⟩, ⟨(some 89), (.mov (.tmp 7)), (some (88, false))⟩, ⟨(some 90), (.bin .sub (.tmp 89) (.con (.int .i64 2))), (some (88, false))⟩, ⟨(some 91), (.bin .mul (.con (.int .i64 63)) (.tmp 90)), (some (88, false))⟩, ⟨(some 92), (.mov (.tmp 6)), (some (88, false))⟩, ⟨(some 93), (.bin .lss (.tmp 91) (.tmp 92)), (some (88, false))⟩, ⟨(some 94), (.pick (.tmp 88) (.con (.bool true)) (.tmp 93)), (some (85, true))⟩, ⟨(some 95), (.pick (.tmp 85) (.tmp 94) (.con (.bool false))), none⟩, ⟨(some 4), (.mov (.tmp 95)), none⟩]
def f10_c : ACode := (.seq (.ops f10_r0) (.seq (.ops f10_r1) (.seq (.seq (.ops f10_r2) (.cond (.tmp 17) (.seq (.ops f10_r3) .ret) .skip)) (.seq (.ops f10_r4) (.seq (.ops f10_r5) (.seq (.ops f10_r6) (.seq (.seq (.ops f10_r7) (.cond (.tmp 30) (.seq (.ops f10_r8) .ret) .skip)) (.seq (.ops f10_r9) (.seq (.ops f10_r10) (.seq (.seq (.ops f10_r11) (.cond (.tmp 51) (.seq (.ops f10_r12) .ret) .skip)) (.seq (.ops f10_r13) (.seq (.ops f10_r14) .ret))))))))))))
def f10_a : AFunc := ⟨96, [(.tmp 4)], f10_c⟩

/-! 11 -/
def f11_r0 : List AStep := [⟨(some 8), (.mov (.con (.bool false))), none⟩]
def f11_r1 : List AStep := [⟨(some 28), (.call (.con (.func 30 [])) []), none⟩, ⟨(some 9), (.mov (.tmp 28)), none⟩]
def f11_r2 : List AStep := [⟨(some 29), (.mov (.tmp 9)), none⟩, ⟨(some 30), (.not (.tmp 29)), none⟩]
def f11_r3 : List AStep := [⟨(some 8), (.mov (.con (.bool false))), none⟩]
def f11_r4 : List AStep := [⟨(some 31), (.mov (.tmp 3)), none⟩, ⟨(some 32), (.call (.con (.func 38 [])) [(.tmp 31)]), none⟩, ⟨(some 10), (.mov (.tmp 32)), none⟩]
def f11_r5 : List AStep := [⟨(some 33), (.mov (.tmp 10)), none⟩, ⟨(some 34), (.not (.tmp 33)), none⟩]
def f11_r6 : List AStep := [⟨(some 8), (.mov (.con (.bool true))), none⟩]
def f11_r7 : List AStep := [⟨(some 35), (.mov (.tmp 1)), none⟩, ⟨(some 36), (.cvInt .i64 (.tmp 35)), none⟩, ⟨(some 37), (.bin .rem (.tmp 36) (.con (.int .i64 4))), none⟩, ⟨(some 38), (.mov (.tmp 0)), none⟩, ⟨(some 39), (.cvInt .i64 (.tmp 38)), none⟩, ⟨(some 40), (.bin .rem (.tmp 39) (.con (.int .i64 30))), none⟩, ⟨(some 41), (.bin .add (.tmp 37) (.tmp 40)), none⟩, ⟨(some 11), (.mov (.tmp 41)), none⟩]
def f11_r8 : List AStep := [⟨(some 43), (.mov (.tmp 11)), none⟩, ⟨(some 44), (.bin .add (.tmp 43) (.con (.int .i64 3))), none⟩, ⟨(some 45), (.call (.con (.func 15 [])) [(.tmp 44)]), none⟩, ⟨(some 42), (.mov (.tmp 45)), none⟩, ⟨(some 46), (.extract (.tmp 42) 0), none⟩, ⟨(some 47), (.extract (.tmp 42) 1), none⟩, ⟨(some 12), (.mov (.tmp 46)), none⟩, ⟨(some 13), (.mov (.tmp 47)), none⟩]
def f11_r9 : List AStep := [⟨(some 48), (.mov (.tmp 13)), none⟩, ⟨(some 49), (.bin .neq (.tmp 48) (.con (.int .i64 0))), none⟩]
def f11_r10 : List AStep := [⟨(some 8), (.mov (.con (.bool false))), none⟩]
def f11_r11 : List AStep := [⟨(some 51), (.mov (.tmp 12)), none⟩, ⟨(some 52), (.mov (.tmp 1)), none⟩, ⟨(some 53), (.cvInt .i64 (.tmp 52)), none⟩, ⟨(some 54), (.bin .rem (.tmp 53) (.con (.int .i64 4))), none⟩, ⟨(some 55), (.mov (.tmp 11)), none⟩, ⟨(some 56), (.mov (.tmp 2)), none⟩, ⟨(some 57), (.call (.con (.func 32 [])) [(.tmp 51), (.tmp 54), (.tmp 55), (.tmp 56)]), none⟩, ⟨(some 50), (.mov (.tmp 57)), none⟩, ⟨(some 58), (.extract (.tmp 50) 0), none⟩, ⟨(some 59), (.extract (.tmp 50) 1), none⟩, ⟨(some 14), (.mov (.tmp 58)), none⟩, ⟨(some 15), (.mov (.tmp 59)), none⟩]
def f11_r12 : List AStep := [⟨(some 60), (.mov (.tmp 15)), none⟩, ⟨(some 61), (.bin .neq (.tmp 60) (.con (.int .i64 0))), none⟩]
def f11_r13 : List AStep := [⟨(some 8), (.mov (.con (.bool false))), none⟩]
def f11_r14 : List AStep := [⟨(some 62), (.mov (.tmp 12)), none⟩, ⟨(some 63), (.call (.con (.func 34 [])) [(.tmp 62)]), none⟩, ⟨(some 16), (.mov (.tmp 63)), none⟩]
def f11_r15 : List AStep := [⟨(some 64), (.mov (.tmp 1)), none⟩, ⟨(some 65), (.cvInt .i64 (.tmp 64)), none⟩, ⟨(some 66), (.bin .rem (.tmp 65) (.con (.int .i64 4))), none⟩, ⟨(some 17), (.mov (.tmp 66)), none⟩]
def f11_r16 : List AStep := [⟨(some 18), (.mov (.con .nils)), none⟩]
def f11_r17 : List AStep := [⟨(some 19), (.mov (.con (.int .i64 0))), none⟩]
def f11_r18 : List AStep := [⟨(some 67), (.mov (.tmp 19)), none⟩, ⟨(some 68), (.mov (.tmp 3)), none⟩, ⟨(some 69), (.len (.tmp 68)), none⟩, ⟨(some 70), (.bin .lss (.tmp 67) (.tmp 69)), none⟩]
def f11_r19 : List AStep := [⟨(some 73), (.mov (.tmp 2)), none⟩, ⟨(some 74), (.mov (.tmp 18)), none⟩, ⟨(some 75), (.len (.tmp 74)), none⟩, ⟨(some 76), (.cvInt .u64 (.tmp 75)), none⟩, ⟨(some 77), (.mov (.tmp 3)), none⟩, ⟨(some 78), (.mov (.tmp 19)), none⟩, ⟨(some 79), (.indexAddr 1 (.tmp 77) (.tmp 78)), none⟩, ⟨(some 80), (.load false 1 (.tmp 79)), none⟩, ⟨(some 81), (.cvB2S (.tmp 80)), none⟩, ⟨(some 82), (.call (.con (.func 41 [])) [(.tmp 73), (.tmp 76), (.tmp 81)]), none⟩, ⟨(some 20), (.mov (.tmp 82)), none⟩]
def f11_r20 : List AStep := [⟨(some 83), (.mov (.tmp 14)), none⟩, ⟨(some 84), (.mov (.tmp 3)), none⟩, ⟨(some 85), (.mov (.tmp 19)), none⟩, ⟨(some 86), (.indexAddr 1 (.tmp 84) (.tmp 85)), none⟩, ⟨(some 87), (.load false 1 (.tmp 86)), none⟩, ⟨(some 88), (.call (.con (.func 39 [])) [(.tmp 83), (.tmp 87)]), none⟩, ⟨(some 21), (.mov (.tmp 88)), none⟩]
def f11_r21 : List AStep := [⟨(some 89), (.mov (.tmp 21)), none⟩, ⟨(some 90), (.bin .eql (.tmp 89) (.con (.int .i64 0))), none⟩, ⟨(some 91), (.mov (.tmp 17)), none⟩, ⟨(some 92), (.mov (.tmp 20)), none⟩, ⟨(some 93), (.len (.tmp 92)), none⟩, ⟨(some 94), (.bin .add (.tmp 91) (.tmp 93)), none⟩, ⟨(some 95), (.mov (.tmp 11)), none⟩, ⟨(some 96), (.bin .leq (.tmp 94) (.tmp 95)), none⟩, ⟨(some 97), (.eq .bool true (.tmp 90) (.tmp 96)), none⟩, ⟨(some 98), (.mov (.tmp 97)), none⟩, ⟨(some 99), (.mov (.tmp 21)), (some (98, false))⟩, ⟨(some 100), (.bin .neq (.tmp 99) (.con (.int .i64 0))), (some (98, false))⟩, ⟨(some 101), (.mov (.tmp 100)), (some (98, false))⟩, ⟨(some 102), (.mov (.tmp 21)), (some (101, true))⟩, ⟨(some 103), (.bin .neq (.tmp 102) (.con (.int .i64 21))), (some (101, true))⟩, ⟨(some 104), (.pick (.tmp 101) (.tmp 103) (.con (.bool false))), (some (98, false))⟩, ⟨(some 105), (.pick (.tmp 98) (.con (.bool true)) (.tmp 104)), none⟩]
def f11_r22 : List AStep := [⟨(some 8), (.mov (.con (.bool false))), none⟩]
def f11_r23 : List AStep := [⟨(some 106), (.mov (.tmp 21)), none⟩, ⟨(some 107), (.bin .eql (.tmp 106) (.con (.int .i64 0))), none⟩]
def f11_r24 : List AStep := [⟨(some 22), (.mov (.con (.int .i64 0))), none⟩]
def f11_r25 : List AStep := [⟨(some 108), (.mov (.tmp 22)), none⟩, ⟨(some 109), (.mov (.tmp 20)), none⟩, ⟨(some 110), (.len (.tmp 109)), none⟩, ⟨(some 111), (.bin .lss (.tmp 108) (.tmp 110)), none⟩]
def f11_r26 : List AStep := [⟨(some 114), (.mov (.tmp 16)), none⟩, ⟨(some 115), (.mov (.tmp 17)), none⟩, ⟨(some 116), (.mov (.tmp 22)), none⟩, ⟨(some 117), (.bin .add (.tmp 115) (.tmp 116)), none⟩, ⟨(some 118), (.mov (.tmp 20)), none⟩, ⟨(some 119), (.mov (.tmp 22)), none⟩, ⟨(some 120), (.indexAddr 1 (.tmp 118) (.tmp 119)), none⟩, ⟨(some 121), (.load false 1 (.tmp 120)), none⟩, ⟨(some 122), (.indexAddr 1 (.tmp 114) (.tmp 117)), none⟩, ⟨none, (.store 1 (.tmp 122) (.tmp 121)), none⟩]
def f11_r27 : List AStep := [⟨(some 112), (.mov (.tmp 22)), none⟩, ⟨(some 113), (.bin .add (.tmp 112) (.con (.int .i64 1))), none⟩, ⟨(some 22), (.mov (.tmp 113)), none⟩]
def f11_l28 : ACode := (.seq (.seq (.ops f11_r25) (.cond (.tmp 111) .skip (.exit 2))) (.seq (.block 3 (.ops f11_r26)) (.ops f11_r27)))
def f11_r29 : List AStep := [⟨(some 123), (.mov (.tmp 17)), none⟩, ⟨(some 124), (.mov (.tmp 20)), none⟩, ⟨(some 125), (.len (.tmp 124)), none⟩, ⟨(some 126), (.bin .add (.tmp 123) (.tmp 125)), none⟩, ⟨(some 17), (.mov (.tmp 126)), none⟩]
def f11_r30 : List AStep := [⟨(some 127), (.mov (.tmp 18)), none⟩, ⟨(some 128), (.mov (.tmp 3)), none⟩, ⟨(some 129), (.mov (.tmp 19)), none⟩, ⟨(some 130), (.indexAddr 1 (.tmp 128) (.tmp 129)), none⟩, ⟨(some 131), (.load false 1 (.tmp 130)), none⟩, ⟨(some 132), (.cvB2S (.tmp 131)), none⟩, ⟨(some 133), (.buildSlice 1 1 [(.str [])] [(0, (1, (.tmp 132)))]), none⟩, ⟨(some 134), (.append 1 (.tmp 127) (.tmp 133)), none⟩, ⟨(some 18), (.mov (.tmp 134)), none⟩]
def f11_r31 : List AStep := [⟨(some 135), (.mov (.tmp 14)), none⟩, ⟨(some 136), (.call (.con (.func 36 [])) [(.tmp 135)]), none⟩, ⟨(some 137), (.mov (.tmp 18)), none⟩, ⟨(some 138), (.call (.con (.func 35 [])) [(.tmp 136), (.tmp 137)]), none⟩, ⟨(some 23), (.mov (.tmp 138)), none⟩]
def f11_r32 : List AStep := [⟨(some 139), (.mov (.tmp 23)), none⟩, ⟨(some 140), (.not (.tmp 139)), none⟩, ⟨(some 141), (.mov (.tmp 140)), none⟩, ⟨(some 142), (.mov (.tmp 14)), (some (141, false))⟩, ⟨(some 143), (.call (.con (.func 37 [])) [(.tmp 142)]), (some (141, false))⟩, ⟨(some 144), (.mov (.tmp 11)), (some (141, false))⟩, ⟨(some 145), (.mov (.tmp 17)), (some (141, false))⟩, ⟨(some 146), (.bin .sub (.tmp 144) (.tmp 145)), (some (141, false))⟩, ⟨(some 147), (.bin .neq (.tmp 143) (.tmp 146)), (some (141, false))⟩, ⟨(some 148), (.pick (.tmp 141) (.con (.bool true)) (.tmp 147)), none⟩, ⟨(some 149), (.mov (.tmp 148)), none⟩, ⟨(some 150), (.mov (.tmp 3)), (some (149, false))⟩, ⟨(some 151), (.mov (.tmp 19)), (some (149, false))⟩, ⟨(some 152), (.indexAddr 1 (.tmp 150) (.tmp 151)), (some (149, false))⟩, ⟨(some 153), (.load false 1 (.tmp 152)), (some (149, false))⟩, ⟨(some 154), (.len (.tmp 153)), (some (149, false))⟩, ⟨(some 155), (.call (.con (.func 40 [])) [(.tmp 154)]), (some (149, false))⟩, ⟨(some 156), (.mov (.tmp 20)), (some (149, false))⟩, ⟨(some 157), (.len (.tmp 156)), (some (149, false))⟩, ⟨(some 158), (.bin .neq (.tmp 155) (.tmp 157)), (some (149, false))⟩, ⟨(some 159), (.pick (.tmp 149) (.con (.bool true)) (.tmp 158)), none⟩]
def f11_r33 : List AStep := [⟨(some 8), (.mov (.con (.bool false))), none⟩]
def f11_r34 : List AStep := [⟨(some 71), (.mov (.tmp 19)), none⟩, ⟨(some 72), (.bin .add (.tmp 71) (.con (.int .i64 1))), none⟩, ⟨(some 19), (.mov (.tmp 72)), none⟩]
def f11_l35 : ACode := (.seq (.seq (.ops f11_r18) (.cond (.tmp 70) .skip (.exit 0))) (.seq (.block 1 (.seq (.ops f11_r19) (.seq (.ops f11_r20) (.seq (.seq (.ops f11_r21) (.cond (.tmp 105) (.seq (.ops f11_r22) .ret) .skip)) (.seq (.seq (.ops f11_r23) (.cond (.tmp 107) (.seq (.seq (.ops f11_r24) (.block 2 (.loop f11_l28))) (.seq (.ops f11_r29) (.ops f11_r30))) .skip)) (.seq (.ops f11_r31) (.seq (.ops f11_r32) (.cond (.tmp 159) (.seq (.ops f11_r33) .ret) .skip)))))))) (.ops f11_r34)))
def f11_r36 : List AStep := [⟨(some 160), (.mov (.tmp 12)), none⟩, ⟨(some 161), (.call (.con (.func 34 [])) [(.tmp 160)]), none⟩, ⟨(some 24), (.mov (.tmp 161)), none⟩]
def f11_r37 : List AStep := [⟨(some 25), (.mov (.con (.int .i64 0))), none⟩]
def f11_r38 : List AStep := [⟨(some 162), (.mov (.tmp 25)), none⟩, ⟨(some 163), (.mov (.tmp 24)), none⟩, ⟨(some 164), (.len (.tmp 163)), none⟩, ⟨(some 165), (.bin .lss (.tmp 162) (.tmp 164)), none⟩]
def f11_r39 : List DStep := [⟨0, 0, ⟨(some 168), (.mov (.tmp 24)), none⟩⟩, ⟨1, 0, ⟨(some 169), (.mov (.tmp 25)), none⟩⟩, ⟨2, 3, ⟨(some 170), (.indexAddr 1 (.tmp 168) (.tmp 169)), none⟩⟩, ⟨3, 7, ⟨(some 171), (.load false 1 (.tmp 170)), none⟩⟩, ⟨4, 0, ⟨(some 172), (.mov (.tmp 16)), none⟩⟩, ⟨5, 0, ⟨(some 173), (.mov (.tmp 25)), none⟩⟩, ⟨6, 48, ⟨(some 174), (.indexAddr 1 (.tmp 172) (.tmp 173)), none⟩⟩, ⟨7, 112, ⟨(some 175), (.load false 1 (.tmp 174)), none⟩⟩, ⟨8, 255, ⟨(some 176), (.bin .neq (.tmp 171) (.tmp 175)), none⟩⟩]
def f11_r40 : List AStep := [⟨(some 8), (.mov (.con (.bool false))), none⟩]
def f11_r41 : List AStep := [⟨(some 166), (.mov (.tmp 25)), none⟩, ⟨(some 167), (.bin .add (.tmp 166) (.con (.int .i64 1))), none⟩, ⟨(some 25), (.mov (.tmp 167)), none⟩]
def f11_l42 : ACode := (.seq (.seq (.ops f11_r38) (.cond (.tmp 165) .skip (.exit 4))) (.seq (.block 5 (.seq (.draw f11_r39) (.cond (.tmp 176) (.seq (.ops f11_r40) .ret) .skip))) (.ops f11_r41)))
def f11_r43 : List AStep := [⟨(some 178), (.mov (.tmp 12)), none⟩, ⟨(some 179), (.mov (.tmp 1)), none⟩, ⟨(some 180), (.cvInt .i64 (.tmp 179)), none⟩, ⟨(some 181), (.bin .rem (.tmp 180) (.con (.int .i64 4))), none⟩, ⟨(some 182), (.mov (.tmp 11)), none⟩, ⟨(some 183), (.mov (.tmp 2)), none⟩, ⟨(some 184), (.call (.con (.func 32 [])) [(.tmp 178), (.tmp 181), (.tmp 182), (.tmp 183)]), none⟩, ⟨(some 177), (.mov (.tmp 184)), none⟩, ⟨(some 185), (.extract (.tmp 177) 0), none⟩, ⟨(some 186), (.extract (.tmp 177) 1), none⟩, ⟨(some 26), (.mov (.tmp 185)), none⟩, ⟨(some 27), (.mov (.tmp 186)), none⟩]
def f11_r44 : List AStep := [⟨(some 187), (.mov (.tmp 27)), none⟩, ⟨(some 188), (.bin .eql (.tmp 187) (.con (.int .i64 0))), none⟩, ⟨(some 189), (.mov (.tmp 188)), none⟩, ⟨(some 190), (.mov (.tmp 26)), (some (189, true))⟩, ⟨(some 191), (.call (.con (.func 36 [])) [(.tmp 190)]), (some (189, true))⟩, ⟨(some 192), (.mov (.tmp 18)), (some (189, true))⟩, ⟨(some 193), (.call (.con (.func 35 [])) [(.tmp 191), (.tmp 192)]), (some (189, true))⟩, ⟨(some 194), (.pick (.tmp 189) (.tmp 193) (.con (.bool false))), none⟩, ⟨(some 195), (.mov (.tmp 194)), none⟩, ⟨(some 196), (.mov (.tmp 26)), (some (195, true))⟩, ⟨(some 197), (.call (.con (.func 37 [])) [(.tmp 196)]), (some (195, true))⟩, ⟨(some 198), (.mov (.tmp 11)), (some (195, true))⟩, ⟨(some 199), (.mov (.tmp 17)), (some (195, true))⟩, ⟨(some 200), (.bin .sub (.tmp 198) (.tmp 199)), (some (195, true))⟩, ⟨(some 201), (.bin .eql (.tmp 197) (.tmp 200)), (some (195, true))⟩, ⟨(some 202), (.pick (.tmp 195) (.tmp 201) (.con (.bool false))), none⟩, ⟨(some 203), (.mov (.tmp 202)), none⟩, ⟨(some 204), (.mov (.tmp 12)), (some (203, true))⟩, ⟨(some 205), (.call (.con (.func 23 [])) [(.tmp 204)]), (some (203, true))⟩, ⟨(some 206), (.bin .eql (.tmp 205) (.con (.int .i64 0))), (some (203, true))⟩, ⟨(some 207), (.pick (.tmp 203) (.tmp 206) (.con (.bool false))), none⟩, ⟨(some 8), (.mov (.tmp 207)), none⟩]
def f11_c : ACode := (.seq (.ops f11_r0) (.seq (.ops f11_r1) (.seq (.seq (.ops f11_r2) (.cond (.tmp 30) (.seq (.ops f11_r3) .ret) .skip)) (.seq (.ops f11_r4) (.seq (.seq (.ops f11_r5) (.cond (.tmp 34) (.seq (.ops f11_r6) .ret) .skip)) (.seq (.ops f11_r7) (.seq (.ops f11_r8) (.seq (.seq (.ops f11_r9) (.cond (.tmp 49) (.seq (.ops f11_r10) .ret) .skip)) (.seq (.ops f11_r11) (.seq (.seq (.ops f11_r12) (.cond (.tmp 61) (.seq (.ops f11_r13) .ret) .skip)) (.seq (.ops f11_r14) (.seq (.ops f11_r15) (.seq (.ops f11_r16) (.seq (.seq (.ops f11_r17) (.block 0 (.loop f11_l35))) (.seq (.ops f11_r36) (.seq (.seq (.ops f11_r37) (.block 4 (.loop f11_l42))) (.seq (.ops f11_r43) (.seq (.ops f11_r44) .ret))))))))))))))))))
def f11_a : AFunc := ⟨208, [(.tmp 8)], f11_c⟩

/-! 12 -/
def f12_r0 : List AStep := [⟨(some 8), (.mov (.con (.bool false))), none⟩]
def f12_r1 : List AStep := [⟨(some 29), (.call (.con (.func 30 [])) []), none⟩, ⟨(some 9), (.mov (.tmp 29)), none⟩]
def f12_r2 : List AStep := [⟨(some 30), (.mov (.tmp 9)), none⟩, ⟨(some 31), (.not (.tmp 30)), none⟩]
def f12_r3 : List AStep := [⟨(some 8), (.mov (.con (.bool false))), none⟩]
def f12_r4 : List AStep := [⟨(some 32), (.mov (.tmp 0)), none⟩, ⟨(some 33), (.call (.con (.func 38 [])) [(.tmp 32)]), none⟩, ⟨(some 10), (.mov (.tmp 33)), none⟩]
def f12_r5 : List AStep := [⟨(some 34), (.mov (.tmp 10)), none⟩, ⟨(some 35), (.not (.tmp 34)), none⟩, ⟨(some 36), (.mov (.tmp 35)), none⟩, ⟨(some 37), (.mov (.tmp 2)), (some (36, false))⟩, ⟨(some 38), (.len (.tmp 37)), (some (36, false))⟩, ⟨(some 39), (.bin .gtr (.tmp 38) (.con (.int .i64 60))), (some (36, false))⟩, ⟨(some 40), (.pick (.tmp 36) (.con (.bool true)) (.tmp 39)), none⟩, ⟨(some 41), (.mov (.tmp 40)), none⟩, ⟨(some 42), (.mov (.tmp 3)), (some (41, false))⟩, ⟨(some 43), (.len (.tmp 42)), (some (41, false))⟩, ⟨(some 44), (.bin .gtr (.tmp 43) (.con (.int .i64 300))), (some (41, false))⟩, ⟨(some 45), (.pick (.tmp 41) (.con (.bool true)) (.tmp 44)), none⟩]
def f12_r6 : List AStep := [⟨(some 8), (.mov (.con (.bool true))), none⟩]
def f12_r7 : List AStep := [⟨(some 47), (.call (.con (.func 15 [])) [(.con (.int .i64 200))]), none⟩, ⟨(some 46), (.mov (.tmp 47)), none⟩, ⟨(some 48), (.extract (.tmp 46) 0), none⟩, ⟨(some 49), (.extract (.tmp 46) 1), none⟩, ⟨(some 11), (.mov (.tmp 48)), none⟩, ⟨(some 12), (.mov (.tmp 49)), none⟩]
def f12_r8 : List AStep := [⟨(some 50), (.mov (.tmp 12)), none⟩, ⟨(some 51), (.bin .neq (.tmp 50) (.con (.int .i64 0))), none⟩]
def f12_r9 : List AStep := [⟨(some 8), (.mov (.con (.bool false))), none⟩]
def f12_r10 : List AStep := [⟨(some 53), (.mov (.tmp 11)), none⟩, ⟨(some 54), (.call (.con (.func 32 [])) [(.tmp 53), (.con (.int .i64 3)), (.con (.int .i64 200)), (.con (.int .u64 9))]), none⟩, ⟨(some 52), (.mov (.tmp 54)), none⟩, ⟨(some 55), (.extract (.tmp 52) 0), none⟩, ⟨(some 56), (.extract (.tmp 52) 1), none⟩, ⟨(some 13), (.mov (.tmp 55)), none⟩, ⟨(some 14), (.mov (.tmp 56)), none⟩]
def f12_r11 : List AStep := [⟨(some 57), (.mov (.tmp 14)), none⟩, ⟨(some 58), (.bin .neq (.tmp 57) (.con (.int .i64 0))), none⟩]
def f12_r12 : List AStep := [⟨(some 8), (.mov (.con (.bool false))), none⟩]
def f12_r13 : List AStep := [⟨(some 59), (.mov (.tmp 11)), none⟩, ⟨(some 60), (.mov (.tmp 1)), none⟩, ⟨(some 61), (.cvInt .i64 (.tmp 60)), none⟩, ⟨(some 62), (.call (.con (.func 21 [])) [(.tmp 59), (.tmp 61)]), none⟩]
def f12_r14 : List AStep := [⟨(some 15), (.mov (.con .nils)), none⟩]
def f12_r15 : List AStep := [⟨(some 16), (.mov (.con (.str []))), none⟩]
def f12_r16 : List AStep := [⟨(some 17), (.mov (.con (.bool false))), none⟩]
def f12_r17 : List AStep := [⟨(some 18), (.mov (.con (.int .i64 0))), none⟩]
def f12_r18 : List AStep := [⟨(some 63), (.mov (.tmp 18)), none⟩, ⟨(some 64), (.mov (.tmp 0)), none⟩, ⟨(some 65), (.len (.tmp 64)), none⟩, ⟨(some 66), (.bin .lss (.tmp 63) (.tmp 65)), none⟩, ⟨(some 67), (.mov (.tmp 66)), none⟩, ⟨(some 68), (.mov (.tmp 17)), (some (67, true))⟩, ⟨(some 69), (.not (.tmp 68)), (some (67, true))⟩, ⟨(some 70), (.pick (.tmp 67) (.tmp 69) (.con (.bool false))), none⟩]
def f12_r19 : List AStep := [⟨(some 73), (.mov (.tmp 13)), none⟩, ⟨(some 74), (.mov (.tmp 0)), none⟩, ⟨(some 75), (.mov (.tmp 18)), none⟩, ⟨(some 76), (.indexAddr 1 (.tmp 74) (.tmp 75)), none⟩, ⟨(some 77), (.load false 1 (.tmp 76)), none⟩, ⟨(some 78), (.call (.con (.func 39 [])) [(.tmp 73), (.tmp 77)]), none⟩, ⟨(some 19), (.mov (.tmp 78)), none⟩]
def f12_r20 : List AStep := [⟨(some 79), (.mov (.tmp 19)), none⟩, ⟨(some 80), (.bin .neq (.tmp 79) (.con (.int .i64 0))), none⟩, ⟨(some 81), (.mov (.tmp 80)), none⟩, ⟨(some 82), (.mov (.tmp 19)), (some (81, true))⟩, ⟨(some 83), (.bin .neq (.tmp 82) (.con (.int .i64 20))), (some (81, true))⟩, ⟨(some 84), (.pick (.tmp 81) (.tmp 83) (.con (.bool false))), none⟩]
def f12_r21 : List AStep := [⟨(some 8), (.mov (.con (.bool false))), none⟩]
def f12_r22 : List AStep := [⟨(some 85), (.mov (.tmp 19)), none⟩, ⟨(some 86), (.bin .eql (.tmp 85) (.con (.int .i64 20))), none⟩, ⟨(some 17), (.mov (.tmp 86)), none⟩]
def f12_r23 : List AStep := [⟨(some 87), (.mov (.tmp 17)), none⟩]
def f12_r24 : List AStep := [⟨(some 88), (.mov (.tmp 0)), none⟩, ⟨(some 89), (.mov (.tmp 18)), none⟩, ⟨(some 90), (.indexAddr 1 (.tmp 88) (.tmp 89)), none⟩, ⟨(some 91), (.load false 1 (.tmp 90)), none⟩, ⟨(some 92), (.cvB2S (.tmp 91)), none⟩, ⟨(some 16), (.mov (.tmp 92)), none⟩]
def f12_r25 : List AStep := [⟨(some 93), (.mov (.tmp 15)), none⟩, ⟨(some 94), (.mov (.tmp 0)), none⟩, ⟨(some 95), (.mov (.tmp 18)), none⟩, ⟨(some 96), (.indexAddr 1 (.tmp 94) (.tmp 95)), none⟩, ⟨(some 97), (.load false 1 (.tmp 96)), none⟩, ⟨(some 98), (.cvB2S (.tmp 97)), none⟩, ⟨(some 99), (.buildSlice 1 1 [(.str [])] [(0, (1, (.tmp 98)))]), none⟩, ⟨(some 100), (.append 1 (.tmp 93) (.tmp 99)), none⟩, ⟨(some 15), (.mov (.tmp 100)), none⟩]
def f12_r26 : List AStep := [⟨(some 71), (.mov (.tmp 18)), none⟩, ⟨(some 72), (.bin .add (.tmp 71) (.con (.int .i64 1))), none⟩, ⟨(some 18), (.mov (.tmp 72)), none⟩]
def f12_l27 : ACode := (.seq (.seq (.ops f12_r18) (.cond (.tmp 70) .skip (.exit 0))) (.seq (.block 1 (.seq (.ops f12_r19) (.seq (.seq (.ops f12_r20) (.cond (.tmp 84) (.seq (.ops f12_r21) .ret) .skip)) (.seq (.ops f12_r22) (.seq (.ops f12_r23) (.cond (.tmp 87) (.ops f12_r24) (.ops f12_r25))))))) (.ops f12_r26)))
def f12_r28 : List AStep := [⟨(some 101), (.mov (.tmp 13)), none⟩, ⟨(some 102), (.call (.con (.func 36 [])) [(.tmp 101)]), none⟩, ⟨(some 103), (.mov (.tmp 15)), none⟩, ⟨(some 104), (.call (.con (.func 35 [])) [(.tmp 102), (.tmp 103)]), none⟩, ⟨(some 20), (.mov (.tmp 104)), none⟩]
def f12_r29 : List AStep := [⟨(some 105), (.mov (.tmp 17)), none⟩, ⟨(some 106), (.mov (.tmp 11)), none⟩, ⟨(some 107), (.call (.con (.func 28 [])) [(.tmp 106)]), none⟩, ⟨(some 108), (.eq .bool true (.tmp 105) (.tmp 107)), none⟩, ⟨(some 109), (.mov (.tmp 108)), none⟩, ⟨(some 110), (.mov (.tmp 20)), (some (109, false))⟩, ⟨(some 111), (.not (.tmp 110)), (some (109, false))⟩, ⟨(some 112), (.pick (.tmp 109) (.con (.bool true)) (.tmp 111)), none⟩]
def f12_r30 : List AStep := [⟨(some 8), (.mov (.con (.bool false))), none⟩]
def f12_r31 : List AStep := [⟨(some 113), (.mov (.tmp 11)), none⟩, ⟨(some 114), (.mov (.tmp 2)), none⟩, ⟨(some 115), (.call (.con (.func 24 [])) [(.tmp 113), (.tmp 114)]), none⟩, ⟨(some 21), (.mov (.tmp 115)), none⟩]
def f12_r32 : List AStep := [⟨(some 117), (.mov (.tmp 21)), none⟩, ⟨(some 118), (.call (.con (.func 32 [])) [(.tmp 117), (.con (.int .i64 3)), (.con (.int .i64 200)), (.con (.int .u64 9))]), none⟩, ⟨(some 116), (.mov (.tmp 118)), none⟩, ⟨(some 119), (.extract (.tmp 116) 0), none⟩, ⟨(some 120), (.extract (.tmp 116) 1), none⟩, ⟨(some 22), (.mov (.tmp 119)), none⟩, ⟨(some 23), (.mov (.tmp 120)), none⟩]
def f12_r33 : List AStep := [⟨(some 121), (.mov (.tmp 23)), none⟩, ⟨(some 122), (.bin .neq (.tmp 121) (.con (.int .i64 0))), none⟩]
def f12_r34 : List AStep := [⟨(some 8), (.mov (.con (.bool false))), none⟩]
def f12_r35 : List AStep := [⟨(some 123), (.mov (.tmp 22)), none⟩, ⟨(some 124), (.call (.con (.func 36 [])) [(.tmp 123)]), none⟩, ⟨(some 125), (.mov (.tmp 15)), none⟩, ⟨(some 126), (.call (.con (.func 35 [])) [(.tmp 124), (.tmp 125)]), none⟩, ⟨(some 24), (.mov (.tmp 126)), none⟩]
def f12_r36 : List AStep := [⟨(some 127), (.mov (.tmp 24)), none⟩, ⟨(some 128), (.not (.tmp 127)), none⟩]
def f12_r37 : List AStep := [⟨(some 129), (.mov (.tmp 17)), none⟩, ⟨(some 130), (.not (.tmp 129)), none⟩]
def f12_r38 : List AStep := [⟨(some 8), (.mov (.con (.bool false))), none⟩]
def f12_r39 : List AStep := [⟨(some 131), (.mov (.tmp 15)), none⟩, ⟨(some 132), (.mov (.tmp 16)), none⟩, ⟨(some 133), (.buildSlice 1 1 [(.str [])] [(0, (1, (.tmp 132)))]), none⟩, ⟨(some 134), (.append 1 (.tmp 131) (.tmp 133)), none⟩, ⟨(some 15), (.mov (.tmp 134)), none⟩]
def f12_r40 : List AStep := [⟨(some 135), (.mov (.tmp 22)), none⟩, ⟨(some 136), (.call (.con (.func 36 [])) [(.tmp 135)]), none⟩, ⟨(some 137), (.mov (.tmp 15)), none⟩, ⟨(some 138), (.call (.con (.func 35 [])) [(.tmp 136), (.tmp 137)]), none⟩, ⟨(some 25), (.mov (.tmp 138)), none⟩]
def f12_r41 : List AStep := [⟨(some 139), (.mov (.tmp 25)), none⟩, ⟨(some 140), (.not (.tmp 139)), none⟩]
def f12_r42 : List AStep := [⟨(some 8), (.mov (.con (.bool false))), none⟩]
def f12_r43 : List AStep := [⟨(some 141), (.mov (.tmp 22)), none⟩, ⟨(some 142), (.mov (.tmp 3)), none⟩, ⟨(some 143), (.call (.con (.func 39 [])) [(.tmp 141), (.tmp 142)]), none⟩, ⟨(some 26), (.mov (.tmp 143)), none⟩]
def f12_r44 : List AStep := [⟨(some 145), (.mov (.tmp 21)), none⟩, ⟨(some 146), (.call (.con (.func 32 [])) [(.tmp 145), (.con (.int .i64 3)), (.con (.int .i64 200)), (.con (.int .u64 9))]), none⟩, ⟨(some 144), (.mov (.tmp 146)), none⟩, ⟨(some 147), (.extract (.tmp 144) 0), none⟩, ⟨(some 148), (.extract (.tmp 144) 1), none⟩, ⟨(some 27), (.mov (.tmp 147)), none⟩, ⟨(some 28), (.mov (.tmp 148)), none⟩]
def f12_r45 : List AStep := [⟨(some 149), (.mov (.tmp 15)), none⟩, ⟨(some 150), (.mov (.tmp 3)), none⟩, ⟨(some 151), (.cvB2S (.tmp 150)), none⟩, ⟨(some 152), (.buildSlice 1 1 [(.str [])] [(0, (1, (.tmp 151)))]), none⟩, ⟨(some 153), (.append 1 (.tmp 149) (.tmp 152)), none⟩, ⟨(some 15), (.mov (.tmp 153)), none⟩]
def f12_r46 : List AStep := [⟨(some 154), (.mov (.tmp 26)), none⟩, ⟨(some 155), (.bin .eql (.tmp 154) (.con (.int .i64 0))), none⟩, ⟨(some 156), (.mov (.tmp 155)), none⟩, ⟨(some 157), (.mov (.tmp 28)), (some (156, true))⟩, ⟨(some 158), (.bin .eql (.tmp 157) (.con (.int .i64 0))), (some (156, true))⟩, ⟨(some 159), (.pick (.tmp 156) (.tmp 158) (.con (.bool false))), none⟩, ⟨(some 160), (.mov (.tmp 159)), none⟩, ⟨(some 161), (.mov (.tmp 27)), (some (160, true))⟩, ⟨(some 162), (.call (.con (.func 36 [])) [(.tmp 161)]), (some (160, true))⟩, ⟨(some 163), (.mov (.tmp 15)), (some (160, true))⟩, ⟨(some 164), (.call (.con (.func 35 [])) [(.tmp 162), (.tmp 163)]), (some (160, true))⟩, ⟨(some 165), (.pick (.tmp 160) (.tmp 164) (.con (.bool false))), none⟩, ⟨(some 8), (.mov (.tmp 165)), none⟩]
def f12_c : ACode := (.seq (.ops f12_r0) (.seq (.ops f12_r1) (.seq (.seq (.ops f12_r2) (.cond (.tmp 31) (.seq (.ops f12_r3) .ret) .skip)) (.seq (.ops f12_r4) (.seq (.seq (.ops f12_r5) (.cond (.tmp 45) (.seq (.ops f12_r6) .ret) .skip)) (.seq (.ops f12_r7) (.seq (.seq (.ops f12_r8) (.cond (.tmp 51) (.seq (.ops f12_r9) .ret) .skip)) (.seq (.ops f12_r10) (.seq (.seq (.ops f12_r11) (.cond (.tmp 58) (.seq (.ops f12_r12) .ret) .skip)) (.seq (.ops f12_r13) (.seq (.ops f12_r14) (.seq (.ops f12_r15) (.seq (.ops f12_r16) (.seq (.seq (.ops f12_r17) (.block 0 (.loop f12_l27))) (.seq (.ops f12_r28) (.seq (.seq (.ops f12_r29) (.cond (.tmp 112) (.seq (.ops f12_r30) .ret) .skip)) (.seq (.ops f12_r31) (.seq (.ops f12_r32) (.seq (.seq (.ops f12_r33) (.cond (.tmp 122) (.seq (.ops f12_r34) .ret) .skip)) (.seq (.ops f12_r35) (.seq (.seq (.ops f12_r36) (.cond (.tmp 128) (.seq (.seq (.ops f12_r37) (.cond (.tmp 130) (.seq (.ops f12_r38) .ret) .skip)) (.seq (.ops f12_r39) (.seq (.ops f12_r40) (.seq (.ops f12_r41) (.cond (.tmp 140) (.seq (.ops f12_r42) .ret) .skip))))) .skip)) (.seq (.ops f12_r43) (.seq (.ops f12_r44) (.seq (.ops f12_r45) (.seq (.ops f12_r46) .ret)))))))))))))))))))))))))
def f12_a : AFunc := ⟨166, [(.tmp 8)], f12_c⟩

/-! 13 -/
def f13_r0 : List AStep := [⟨(some 0), (.mov (.con (.bool false))), none⟩]
def f13_r1 : List AStep := [⟨(some 12), (.call (.con (.func 15 [])) [(.con (.int .i64 3))]), none⟩, ⟨(some 11), (.mov (.tmp 12)), none⟩, ⟨(some 13), (.extract (.tmp 11) 0), none⟩, ⟨(some 14), (.extract (.tmp 11) 1), none⟩, ⟨(some 1), (.mov (.tmp 13)), none⟩, ⟨(some 2), (.mov (.tmp 14)), none⟩]
def f13_r2 : List AStep := [⟨(some 15), (.mov (.tmp 1)), none⟩, ⟨(some 16), (.buildSlice 1 1 [(.int .u8 0)] [(0, (1, (.con (.int .u8 97))))]), none⟩, ⟨(some 17), (.cvB2B (.tmp 16)), none⟩, ⟨(some 18), (.call (.con (.func 17 [])) [(.tmp 15), (.con (.int .i64 0)), (.tmp 17)]), none⟩, ⟨(some 3), (.mov (.tmp 18)), none⟩]
def f13_r3 : List AStep := [⟨(some 19), (.mov (.tmp 1)), none⟩, ⟨(some 20), (.call (.con (.func 19 [])) [(.tmp 19)]), none⟩, ⟨(some 4), (.mov (.tmp 20)), none⟩]
def f13_r4 : List AStep := [⟨(some 21), (.mov (.tmp 1)), none⟩, ⟨(some 22), (.buildSlice 1 1 [(.int .u8 0)] [(0, (1, (.con (.int .u8 98))))]), none⟩, ⟨(some 23), (.cvB2B (.tmp 22)), none⟩, ⟨(some 24), (.call (.con (.func 17 [])) [(.tmp 21), (.con (.int .i64 0)), (.tmp 23)]), none⟩]
def f13_r5 : List AStep := [⟨(some 25), (.mov (.tmp 1)), none⟩, ⟨(some 26), (.buildSlice 1 1 [(.int .u8 0)] [(0, (1, (.con (.int .u8 99))))]), none⟩, ⟨(some 27), (.cvB2B (.tmp 26)), none⟩, ⟨(some 28), (.call (.con (.func 17 [])) [(.tmp 25), (.con (.int .i64 1)), (.tmp 27)]), none⟩]
def f13_r6 : List AStep := [⟨(some 29), (.mov (.tmp 1)), none⟩, ⟨(some 30), (.buildSlice 1 2 [(.bool false)] [(0, (1, (.con (.bool false)))), (1, (1, (.con (.bool true))))]), none⟩, ⟨(some 31), (.call (.con (.func 24 [])) [(.tmp 29), (.tmp 30)]), none⟩, ⟨(some 5), (.mov (.tmp 31)), none⟩]
def f13_r7 : List AStep := [⟨(some 33), (.mov (.tmp 5)), none⟩, ⟨(some 34), (.call (.con (.func 26 [])) [(.tmp 33), (.con (.int .i64 0))]), none⟩, ⟨(some 32), (.mov (.tmp 34)), none⟩, ⟨(some 35), (.extract (.tmp 32) 0), none⟩, ⟨(some 36), (.extract (.tmp 32) 1), none⟩, ⟨(some 6), (.mov (.tmp 35)), none⟩, ⟨(some 7), (.mov (.tmp 36)), none⟩]
def f13_r8 : List AStep := [⟨(some 38), (.mov (.tmp 5)), none⟩, ⟨(some 39), (.call (.con (.func 26 [])) [(.tmp 38), (.con (.int .i64 1))]), none⟩, ⟨(some 37), (.mov (.tmp 39)), none⟩, ⟨(some 40), (.extract (.tmp 37) 0), none⟩, ⟨(some 41), (.extract (.tmp 37) 1), none⟩, ⟨(some 8), (.mov (.tmp 40)), none⟩, ⟨(some 9), (.mov (.tmp 41)), none⟩]
def f13_r9 : List AStep := [⟨(some 42), (.mov (.tmp 1)), none⟩, ⟨(some 43), (.call (.con (.func 21 [])) [(.tmp 42), (.con (.int .i64 1))]), none⟩]
def f13_r10 : List AStep := [⟨(some 44), (.mov (.tmp 1)), none⟩, ⟨(some 45), (.call (.con (.func 19 [])) [(.tmp 44)]), none⟩, ⟨(some 10), (.mov (.tmp 45)), none⟩]
def f13_r11 : List AStep := [⟨(some 46), (.mov (.tmp 2)), none⟩, ⟨(some 47), (.bin .eql (.tmp 46) (.con (.int .i64 0))), none⟩, ⟨(some 48), (.mov (.tmp 47)), none⟩, ⟨(some 49), (.mov (.tmp 3)), (some (48, true))⟩, ⟨(some 50), (.bin .eql (.tmp 49) (.con (.int .i64 0))), (some (48, true))⟩, ⟨(some 51), (.pick (.tmp 48) (.tmp 50) (.con (.bool false))), none⟩, ⟨(some 52), (.mov (.tmp 51)), none⟩, ⟨(some 53), (.mov (.tmp 4)), (some (52, true))⟩, ⟨(some 54), (.bin .eql (.tmp 53) (.con (.int .i64 0))), (some (52, true))⟩, ⟨(some 55), (.pick (.tmp 52) (.tmp 54) (.con (.bool false))), none⟩, ⟨(some 56), (.mov (.tmp 55)), none⟩, ⟨(some 57), (.mov (.tmp 7)), (some (56, true))⟩, ⟨(some 58), (.bin .eql (.tmp 57) (.con (.int .i64 0))), (some (56, true))⟩, ⟨(some 59), (.pick (.tmp 56) (.tmp 58) (.con (.bool false))), none⟩, ⟨(some 60), (.mov (.tmp 59)), none⟩, ⟨(some 61), (.mov (.tmp 9)), (some (60, true))⟩, ⟨(some 62), (.bin .eql (.tmp 61) (.con (.int .i64 0))), (some (60, true))⟩, ⟨(some 63), (.pick (.tmp 60) (.tmp 62) (.con (.bool false))), none⟩, ⟨(some 64), (.mov (.tmp 63)), none⟩, ⟨(some 65), (.mov (.tmp 6)), (some (64, true))⟩, ⟨(some 66), (.len (.tmp 65)), (some (64, true))⟩, ⟨(some 67), (.bin .eql (.tmp 66) (.con (.int .i64 64))), (some (64, true))⟩, ⟨(some 68), (.pick (.tmp 64) (.tmp 67) (.con (.bool false))), none⟩, ⟨(some 69), (.mov (.tmp 68)), none⟩, ⟨(some 70), (.mov (.tmp 6)), (some (69, true))⟩, ⟨(some 71), (.indexAddr 1 (.tmp 70) (.con (.int .i64 0))), (some (69, true))⟩, ⟨(some 72), (.load false 1 (.tmp 71)), (some (69, true))⟩, ⟨(some 73), (.bin .eql (.tmp 72) (.con (.int .u8 97))), (some (69, true))⟩, ⟨(some 74), (.pick (.tmp 69) (.tmp 73) (.con (.bool false))), none⟩, ⟨(some 75), (.mov (.tmp 74)), none⟩, ⟨(some 76), (.mov (.tmp 8)), (some (75, true))⟩, ⟨(some 77), (.indexAddr 1 (.tmp 76) (.con (.int .i64 0))), (some (75, true))⟩, ⟨(some 78), (.load false 1 (.tmp 77)), (some (75, true))⟩, ⟨(some 79), (.bin .eql (.tmp 78) (.con (.int .u8 99))), (some (75, true))⟩, ⟨(some 80), (.pick (.tmp 75) (.tmp 79) (.con (.bool false))), none⟩, ⟨(some 81), (.mov (.tmp 80)), none⟩, ⟨(some 82), (.mov (.tmp 1)), (some (81, true))⟩, ⟨(some 83), (.call (.con (.func 23 [])) [(.tmp 82)]), (some (81, true))⟩, ⟨(some 84), (.bin .eql (.tmp 83) (.con (.int .i64 2))), (some (81, true))⟩, ⟨(some 85), (.pick (.tmp 81) (.tmp 84) (.con (.bool false))), none⟩, ⟨(some 86), (.mov (.tmp 85)), none⟩, ⟨(some 87), (.mov (.tmp 10)), (some (86, true))⟩, ⟨(some 88), (.bin .eql (.tmp 87) (.con (.int .i64 20))), (some (86, true))⟩, ⟨(some 89), (.pick (.tmp 86) (.tmp 88) (.con (.bool false))), none⟩, ⟨(some 90), (.mov (.tmp 89)), none⟩, ⟨(some 91), (.mov (.tmp 1)), (some (90, true))⟩, ⟨(some 92), (.call (.con (.func 28 [])) [(.tmp 91)]), (some (90, true))⟩, ⟨(some 93), (.pick (.tmp 90) (.tmp 92) (.con (.bool false))), none⟩, ⟨(some 94), (.mov (.tmp 93)), none⟩, ⟨(some 95), (.mov (.tmp 5)), (some (94, true))⟩, ⟨(some 96), (.call (.con (.func 29 [])) [(.tmp 95)]), (some (94, true))⟩, ⟨(some 97), (.bin .eql (.tmp 96) (.con (.int .i64 3))), (some (94, true))⟩, ⟨(some 98), (.pick (.tmp 94) (.tmp 97) (.con (.bool false))), none⟩, ⟨(some 0), (.mov (.tmp 98)), none⟩]
def f13_c : ACode := (.seq (.ops f13_r0) (.seq (.ops f13_r1) (.seq (.ops f13_r2) (.seq (.ops f13_r3) (.seq (.ops f13_r4) (.seq (.ops f13_r5) (.seq (.ops f13_r6) (.seq (.ops f13_r7) (.seq (.ops f13_r8) (.seq (.ops f13_r9) (.seq (.ops f13_r10) (.seq (.ops f13_r11) .ret))))))))))))
def f13_a : AFunc := ⟨99, [(.tmp 0)], f13_c⟩

/-! 14 -/
def f14_r0 : List AStep := [⟨(some 2), (.mov (.con (.bool false))), none⟩]
def f14_r1 : List AStep := [⟨(some 3), (.mov (.con (.int .i64 0))), none⟩]
def f14_r2 : List AStep := [⟨(some 4), (.mov (.tmp 3)), none⟩, ⟨(some 5), (.mov (.tmp 0)), none⟩, ⟨(some 6), (.len (.tmp 5)), none⟩, ⟨(some 7), (.bin .lss (.tmp 4) (.tmp 6)), none⟩]
def f14_r3 : List AStep := [⟨(some 10), (.mov (.tmp 0)), none⟩, ⟨(some 11), (.mov (.tmp 3)), none⟩, ⟨(some 12), (.indexAddr 4 (.tmp 10) (.tmp 11)), none⟩, ⟨(some 13), (.fieldAddr 2 (.tmp 12)), none⟩, ⟨(some 14), (.load false 1 (.tmp 13)), none⟩, ⟨(some 15), (.len (.tmp 14)), none⟩, ⟨(some 16), (.bin .gtr (.tmp 15) (.con (.int .i64 80))), none⟩, ⟨(some 17), (.mov (.tmp 16)), none⟩, ⟨(some 18), (.mov (.tmp 0)), (some (17, false))⟩, ⟨(some 19), (.mov (.tmp 3)), (some (17, false))⟩, ⟨(some 20), (.indexAddr 4 (.tmp 18) (.tmp 19)), (some (17, false))⟩, ⟨(some 21), (.fieldAddr 3 (.tmp 20)), (some (17, false))⟩, ⟨(some 22), (.load false 1 (.tmp 21)), (some (17, false))⟩, ⟨(some 23), (.len (.tmp 22)), (some (17, false))⟩, ⟨(some 24), (.bin .gtr (.tmp 23) (.con (.int .i64 60))), (some (17, false))⟩, ⟨(some 25), (.pick (.tmp 17) (.con (.bool true)) (.tmp 24)), none⟩]
def f14_r4 : List AStep := [⟨(some 2), (.mov (.con (.bool false))), none⟩]
def f14_r5 : List AStep := [⟨(some 8), (.mov (.tmp 3)), none⟩, ⟨(some 9), (.bin .add (.tmp 8) (.con (.int .i64 1))), none⟩, ⟨(some 3), (.mov (.tmp 9)), none⟩]
def f14_l6 : ACode := (.seq (.seq (.ops f14_r2) (.cond (.tmp 7) .skip (.exit 0))) (.seq (.block 1 (.seq (.ops f14_r3) (.cond (.tmp 25) (.seq (.ops f14_r4) .ret) .skip))) (.ops f14_r5)))
def f14_r7 : List AStep := [⟨(some 26), (.mov (.tmp 0)), none⟩, ⟨(some 27), (.len (.tmp 26)), none⟩, ⟨(some 28), (.bin .leq (.tmp 27) (.con (.int .i64 60))), none⟩, ⟨(some 2), (.mov (.tmp 28)), none⟩]
def f14_c : ACode := (.seq (.ops f14_r0) (.seq (.seq (.ops f14_r1) (.block 0 (.loop f14_l6))) (.seq (.ops f14_r7) .ret)))
def f14_a : AFunc := ⟨29, [(.tmp 2)], f14_c⟩

/-! 15 -/
def f15_r0 : List AStep := [⟨(some 2), (.mov (.con .nilp)), none⟩, ⟨(some 3), (.mov (.con (.int .i64 0))), none⟩]
def f15_r1 : List AStep := [⟨(some 4), (.mov (.tmp 0)), none⟩, ⟨(some 5), (.bin .lss (.tmp 4) (.con (.int .i64 1))), none⟩, ⟨(some 6), (.mov (.tmp 5)), none⟩, ⟨(some 7), (.mov (.tmp 0)), (some (6, false))⟩, ⟨(some 8), (.bin .gtr (.tmp 7) (.con (.int .i64 65536))), (some (6, false))⟩, ⟨(some 9), (.pick (.tmp 6) (.con (.bool true)) (.tmp 8)), none⟩]
def f15_r2 : List AStep := [⟨(some 2), (.mov (.con .nilp)), none⟩, ⟨(some 3), (.mov (.con (.int .i64 1))), none⟩]
def f15_r3 : List AStep := [⟨(some 10), (.mov (.tmp 0)), none⟩, ⟨(some 11), (.makeSlice 64 64 [(.int .u8 0), (.int .u8 0), (.int .u8 0), (.int .u8 0), (.int .u8 0), (.int .u8 0), (.int .u8 0), (.int .u8 0), (.int .u8 0), (.int .u8 0), (.int .u8 0), (.int .u8 0), (.int .u8 0), (.int .u8 0), (.int .u8 0), (.int .u8 0), (.int .u8 0), (.int .u8 0), (.int .u8 0), (.int .u8 0), (.int .u8 0), (.int .u8 0), (.int .u8 0), (.int .u8 0), (.int .u8 0), (.int .u8 0), (.int .u8 0), (.int .u8 0), (.int .u8 0), (.int .u8 0), (.int .u8 0), (.int .u8 0), (.int .u8 0), (.int .u8 0), (.int .u8 0), (.int .u8 0), (.int .u8 0), (.int .u8 0), (.int .u8 0), (.int .u8 0), (.int .u8 0), (.int .u8 0), (.int .u8 0), (.int .u8 0), (.int .u8 0), (.int .u8 0), (.int .u8 0), (.int .u8 0), (.int .u8 0), (.int .u8 0), (.int .u8 0), (.int .u8 0), (.int .u8 0), (.int .u8 0), (.int .u8 0), (.int .u8 0), (.int .u8 0), (.int .u8 0), (.int .u8 0), (.int .u8 0), (.int .u8 0), (.int .u8 0), (.int .u8 0), (.int .u8 0)] (.tmp 10) (.tmp 10)), none⟩, ⟨(some 12), (.build [.nils, .nils, (.int .i64 0), (.bool false)] [(0, (1, (.tmp 11)))]), none⟩, ⟨(some 13), (.box (.tmp 12)), none⟩, ⟨(some 2), (.mov (.tmp 13)), none⟩, ⟨(some 3), (.mov (.con (.int .i64 0))), none⟩]
def f15_c : ACode := (.seq (.ops f15_r0) (.seq (.seq (.ops f15_r1) (.cond (.tmp 9) (.seq (.ops f15_r2) .ret) .skip)) (.seq (.ops f15_r3) .ret)))
def f15_a : AFunc := ⟨14, [(.tmp 2), (.tmp 3)], f15_c⟩

/-! 16 -/
def f16_r0 : List AStep := [⟨(some 2), (.alloc [.nils, .nils, (.int .i64 0), (.bool false)]), none⟩]
def f16_r1 : List AStep := [⟨(some 6), (.build [.nils, .nils, (.int .i64 0), (.bool false)] []), none⟩, ⟨(some 3), (.alloc [.nils, .nils, (.int .i64 0), (.bool false)]), none⟩, ⟨none, (.store 4 (.tmp 3) (.tmp 6)), none⟩]
def f16_r2 : List AStep := [⟨(some 7), (.call (.con (.func 42 [])) [(.con (.str []))]), none⟩, ⟨(some 4), (.mov (.tmp 7)), none⟩]
def f16_r3 : List AStep := [⟨(some 5), (.mov (.con (.int .i64 0))), none⟩]
def f16_r4 : List AStep := [⟨(some 8), (.mov (.tmp 5)), none⟩, ⟨(some 9), (.mov (.tmp 0)), none⟩, ⟨(some 10), (.bin .lss (.tmp 8) (.tmp 9)), none⟩]
def f16_r5 : List AStep := [⟨(some 13), (.fieldAddr 0 (.tmp 3)), none⟩, ⟨(some 14), (.load false 1 (.tmp 13)), none⟩, ⟨(some 15), (.mov (.tmp 4)), none⟩, ⟨(some 16), (.buildSlice 1 1 [(.str [])] [(0, (1, (.tmp 15)))]), none⟩, ⟨(some 17), (.append 1 (.tmp 14) (.tmp 16)), none⟩, ⟨(some 18), (.fieldAddr 0 (.tmp 3)), none⟩, ⟨none, (.store 1 (.tmp 18) (.tmp 17)), none⟩]
def f16_r6 : List AStep := [⟨(some 11), (.mov (.tmp 5)), none⟩, ⟨(some 12), (.bin .add (.tmp 11) (.con (.int .i64 1))), none⟩, ⟨(some 5), (.mov (.tmp 12)), none⟩]
def f16_l7 : ACode := (.seq (.seq (.ops f16_r4) (.cond (.tmp 10) .skip (.exit 0))) (.seq (.block 1 (.ops f16_r5)) (.ops f16_r6)))
def f16_r8 : List AStep := [⟨(some 19), (.load true 4 (.tmp 3)), none⟩, ⟨none, (.store 4 (.tmp 2) (.tmp 19)), none⟩]
def f16_c : ACode := (.seq (.ops f16_r0) (.seq (.ops f16_r1) (.seq (.ops f16_r2) (.seq (.seq (.ops f16_r3) (.block 0 (.loop f16_l7))) (.seq (.ops f16_r8) .ret)))))
def f16_a : AFunc := ⟨20, [(.cell 2 true 4)], f16_c⟩

/-! 17 -/
def f17_r0 : List AStep := [⟨(some 6), (.mov (.con (.int .i64 0))), none⟩]
def f17_r1 : List AStep := [⟨(some 9), (.mov (.tmp 0)), none⟩, ⟨(some 10), (.mov (.tmp 1)), none⟩, ⟨(some 11), (.call (.con (.func 43 [])) [(.tmp 9), (.tmp 10)]), none⟩, ⟨(some 12), (.not (.tmp 11)), none⟩, ⟨(some 13), (.mov (.tmp 12)), none⟩, ⟨(some 14), (.mov (.tmp 2)), (some (13, false))⟩, ⟨(some 15), (.len (.tmp 14)), (some (13, false))⟩, ⟨(some 16), (.bin .gtr (.tmp 15) (.con (.int .i64 64))), (some (13, false))⟩, ⟨(some 17), (.pick (.tmp 13) (.con (.bool true)) (.tmp 16)), none⟩, ⟨(some 8), (.mov (.tmp 17)), none⟩]
def f17_r2 : List AStep := [⟨(some 6), (.mov (.con (.int .i64 1))), none⟩]
def f17_r3 : List AStep := [⟨(some 19), (.mov (.tmp 0)), none⟩, ⟨(some 20), (.call (.con (.func 44 [])) [(.tmp 19)]), none⟩, ⟨(some 18), (.mov (.tmp 20)), none⟩]
def f17_r4 : List AStep := [⟨(some 6), (.mov (.con (.int .i64 20))), none⟩]
def f17_r5 : List AStep := [⟨(some 21), (.mov (.tmp 1)), none⟩, ⟨(some 22), (.build [(.int .i64 0), (.int .u8 0), (.int .u8 0), (.int .u8 0), (.int .u8 0), (.int .u8 0), (.int .u8 0), (.int .u8 0), (.int .u8 0), (.int .u8 0), (.int .u8 0), (.int .u8 0), (.int .u8 0), (.int .u8 0), (.int .u8 0), (.int .u8 0), (.int .u8 0), (.int .u8 0), (.int .u8 0), (.int .u8 0), (.int .u8 0), (.int .u8 0), (.int .u8 0), (.int .u8 0), (.int .u8 0), (.int .u8 0), (.int .u8 0), (.int .u8 0), (.int .u8 0), (.int .u8 0), (.int .u8 0), (.int .u8 0), (.int .u8 0), (.int .u8 0), (.int .u8 0), (.int .u8 0), (.int .u8 0), (.int .u8 0), (.int .u8 0), (.int .u8 0), (.int .u8 0), (.int .u8 0), (.int .u8 0), (.int .u8 0), (.int .u8 0), (.int .u8 0), (.int .u8 0), (.int .u8 0), (.int .u8 0), (.int .u8 0), (.int .u8 0), (.int .u8 0), (.int .u8 0), (.int .u8 0), (.int .u8 0), (.int .u8 0), (.int .u8 0), (.int .u8 0), (.int .u8 0), (.int .u8 0), (.int .u8 0), (.int .u8 0), (.int .u8 0), (.int .u8 0), (.int .u8 0)] [(0, (1, (.tmp 21)))]), none⟩, ⟨(some 7), (.alloc [(.int .i64 0), (.int .u8 0), (.int .u8 0), (.int .u8 0), (.int .u8 0), (.int .u8 0), (.int .u8 0), (.int .u8 0), (.int .u8 0), (.int .u8 0), (.int .u8 0), (.int .u8 0), (.int .u8 0), (.int .u8 0), (.int .u8 0), (.int .u8 0), (.int .u8 0), (.int .u8 0), (.int .u8 0), (.int .u8 0), (.int .u8 0), (.int .u8 0), (.int .u8 0), (.int .u8 0), (.int .u8 0), (.int .u8 0), (.int .u8 0), (.int .u8 0), (.int .u8 0), (.int .u8 0), (.int .u8 0), (.int .u8 0), (.int .u8 0), (.int .u8 0), (.int .u8 0), (.int .u8 0), (.int .u8 0), (.int .u8 0), (.int .u8 0), (.int .u8 0), (.int .u8 0), (.int .u8 0), (.int .u8 0), (.int .u8 0), (.int .u8 0), (.int .u8 0), (.int .u8 0), (.int .u8 0), (.int .u8 0), (.int .u8 0), (.int .u8 0), (.int .u8 0), (.int .u8 0), (.int .u8 0), (.int .u8 0), (.int .u8 0), (.int .u8 0), (.int .u8 0), (.int .u8 0), (.int .u8 0), (.int .u8 0), (.int .u8 0), (.int .u8 0), (.int .u8 0), (.int .u8 0)]), none⟩, ⟨none, (.store 65 (.tmp 7) (.tmp 22)), none⟩]
def f17_r6 : List AStep := [⟨(some 23), (.fieldAddr 1 (.tmp 7)), none⟩, ⟨(some 24), (.sliceA 1 64 (.tmp 23) none none), none⟩, ⟨(some 25), (.mov (.tmp 2)), none⟩, ⟨(some 26), (.copy 1 (.tmp 24) (.tmp 25)), none⟩]
def f17_r7 : List DStep := [⟨0, 0, ⟨(some 27), (.mov (.tmp 0)), none⟩⟩, ⟨1, 0, ⟨(some 28), (.mov (.tmp 0)), none⟩⟩, ⟨2, 2, ⟨(some 29), (.nilCheck (.tmp 28)), none⟩⟩, ⟨3, 6, ⟨(some 30), (.fieldAddr 1 (.tmp 29)), none⟩⟩, ⟨4, 14, ⟨(some 31), (.load false 1 (.tmp 30)), none⟩⟩, ⟨5, 0, ⟨(some 32), (.load true 65 (.tmp 7)), none⟩⟩, ⟨6, 32, ⟨(some 33), (.buildSlice 65 1 [(.int .i64 0), (.int .u8 0), (.int .u8 0), (.int .u8 0), (.int .u8 0), (.int .u8 0), (.int .u8 0), (.int .u8 0), (.int .u8 0), (.int .u8 0), (.int .u8 0), (.int .u8 0), (.int .u8 0), (.int .u8 0), (.int .u8 0), (.int .u8 0), (.int .u8 0), (.int .u8 0), (.int .u8 0), (.int .u8 0), (.int .u8 0), (.int .u8 0), (.int .u8 0), (.int .u8 0), (.int .u8 0), (.int .u8 0), (.int .u8 0), (.int .u8 0), (.int .u8 0), (.int .u8 0), (.int .u8 0), (.int .u8 0), (.int .u8 0), (.int .u8 0), (.int .u8 0), (.int .u8 0), (.int .u8 0), (.int .u8 0), (.int .u8 0), (.int .u8 0), (.int .u8 0), (.int .u8 0), (.int .u8 0), (.int .u8 0), (.int .u8 0), (.int .u8 0), (.int .u8 0), (.int .u8 0), (.int .u8 0), (.int .u8 0), (.int .u8 0), (.int .u8 0), (.int .u8 0), (.int .u8 0), (.int .u8 0), (.int .u8 0), (.int .u8 0), (.int .u8 0), (.int .u8 0), (.int .u8 0), (.int .u8 0), (.int .u8 0), (.int .u8 0), (.int .u8 0), (.int .u8 0)] [(0, (65, (.tmp 32)))]), none⟩⟩, ⟨7, 126, ⟨(some 34), (.append 65 (.tmp 31) (.tmp 33)), none⟩⟩, ⟨8, 255, ⟨(some 35), (.nilCheck (.tmp 27)), none⟩⟩, ⟨9, 511, ⟨(some 36), (.fieldAddr 1 (.tmp 35)), none⟩⟩, ⟨10, 1023, ⟨none, (.store 1 (.tmp 36) (.tmp 34)), none⟩⟩]
def f17_r8 : List AStep := [⟨(some 6), (.mov (.con (.int .i64 0))), none⟩]
def f17_c : ACode := (.seq (.ops f17_r0) (.seq (.block 0 (.seq (.ops f17_r1) (.cond (.tmp 8) (.seq (.ops f17_r2) .ret) (.seq (.ops f17_r3) (.cond (.tmp 18) (.seq (.ops f17_r4) .ret) .skip))))) (.seq (.ops f17_r5) (.seq (.ops f17_r6) (.seq (.draw f17_r7) (.seq (.ops f17_r8) .ret))))))
def f17_a : AFunc := ⟨37, [(.tmp 6)], f17_c⟩

/-! 18 -/
def f18_r0 : List AStep := [⟨(some 3), (.box (.tmp 0)), none⟩, ⟨(some 6), (.alloc [.nils, .nils, (.int .i64 0), (.bool false)]), none⟩, ⟨(some 7), (.mov (.con (.int .i64 0))), none⟩]
def f18_r1 : List AStep := [⟨(some 9), (.mov (.tmp 1)), none⟩, ⟨(some 10), (.bin .lss (.tmp 9) (.con (.int .i64 0))), none⟩, ⟨(some 11), (.mov (.tmp 10)), none⟩, ⟨(some 12), (.mov (.tmp 1)), (some (11, false))⟩, ⟨(some 13), (.fieldAddr 0 (.tmp 3)), (some (11, false))⟩, ⟨(some 14), (.load false 1 (.tmp 13)), (some (11, false))⟩, ⟨(some 15), (.len (.tmp 14)), (some (11, false))⟩, ⟨(some 16), (.bin .geq (.tmp 12) (.tmp 15)), (some (11, false))⟩, ⟨(some 17), (.pick (.tmp 11) (.con (.bool true)) (.tmp 16)), none⟩, ⟨(some 18), (.mov (.tmp 17)), none⟩, ⟨(some 19), (.mov (.tmp 2)), (some (18, false))⟩, ⟨(some 20), (.lenT (.tmp 19)), (some (18, false))⟩, ⟨(some 21), (.bin .gtr (.tmp 20) (.con (.int .i64 64))), (some (18, false))⟩, ⟨(some 22), (.pick (.tmp 18) (.con (.bool true)) (.tmp 21)), none⟩]
def f18_r2 : List AStep := [⟨(some 23), (.load true 4 (.tmp 3)), none⟩, ⟨none, (.store 4 (.tmp 6) (.tmp 23)), none⟩, ⟨(some 7), (.mov (.con (.int .i64 1))), none⟩]
def f18_r3 : List AStep := [⟨(some 24), (.load true 4 (.tmp 3)), none⟩, ⟨(some 25), (.call (.con (.func 45 [])) [(.tmp 24)]), none⟩, ⟨none, (.store 4 (.tmp 3) (.tmp 25)), none⟩]
def f18_r4 : List AStep := [⟨(some 26), (.fieldAddr 3 (.tmp 3)), none⟩, ⟨(some 27), (.load false 1 (.tmp 26)), none⟩]
def f18_r5 : List AStep := [⟨(some 28), (.load true 4 (.tmp 3)), none⟩, ⟨none, (.store 4 (.tmp 6) (.tmp 28)), none⟩, ⟨(some 7), (.mov (.con (.int .i64 20))), none⟩]
def f18_r6 : List AStep := [⟨(some 8), (.mov (.con .nils)), none⟩]
def f18_r7 : List AStep := [⟨(some 29), (.mov (.tmp 8)), none⟩, ⟨(some 30), (.fieldAddr 1 (.tmp 3)), none⟩, ⟨(some 31), (.load false 1 (.tmp 30)), none⟩, ⟨(some 32), (.append 2 (.tmp 29) (.tmp 31)), none⟩, ⟨(some 8), (.mov (.tmp 32)), none⟩]
def f18_r8 : List AStep := [⟨(some 33), (.mov (.tmp 8)), none⟩, ⟨(some 34), (.mov (.tmp 1)), none⟩, ⟨(some 35), (.mov (.tmp 2)), none⟩, ⟨(some 36), (.call (.con (.func 42 [])) [(.tmp 35)]), none⟩, ⟨(some 37), (.build [(.int .i64 0), (.str [])] [(0, (1, (.tmp 34))), (1, (1, (.tmp 36)))]), none⟩, ⟨(some 38), (.buildSlice 2 1 [(.int .i64 0), (.str [])] [(0, (2, (.tmp 37)))]), none⟩, ⟨(some 39), (.append 2 (.tmp 33) (.tmp 38)), none⟩, ⟨(some 8), (.mov (.tmp 39)), none⟩]
def f18_r9 : List AStep := [⟨(some 40), (.mov (.tmp 8)), none⟩, ⟨(some 41), (.fieldAddr 1 (.tmp 3)), none⟩, ⟨none, (.store 1 (.tmp 41) (.tmp 40)), none⟩]
def f18_r10 : List AStep := [⟨(some 42), (.load true 4 (.tmp 3)), none⟩, ⟨none, (.store 4 (.tmp 6) (.tmp 42)), none⟩, ⟨(some 7), (.mov (.con (.int .i64 0))), none⟩]
def f18_c : ACode := (.seq (.ops f18_r0) (.seq (.seq (.ops f18_r1) (.cond (.tmp 22) (.seq (.ops f18_r2) .ret) .skip)) (.seq (.ops f18_r3) (.seq (.seq (.ops f18_r4) (.cond (.tmp 27) (.seq (.ops f18_r5) .ret) .skip)) (.seq (.ops f18_r6) (.seq (.ops f18_r7) (.seq (.ops f18_r8) (.seq (.ops f18_r9) (.seq (.ops f18_r10) .ret)))))))))
def f18_a : AFunc := ⟨43, [(.cell 6 true 4), (.tmp 7)], f18_c⟩

/-! 19 -/
def f19_r0 : List AStep := [⟨(some 2), (.mov (.con (.int .i64 0))), none⟩]
def f19_r1 : List AStep := [⟨(some 6), (.mov (.tmp 0)), none⟩, ⟨(some 7), (.eq .ptr false (.tmp 6) (.con .nilp)), none⟩, ⟨(some 5), (.mov (.tmp 7)), none⟩]
def f19_r2 : List AStep := [⟨(some 2), (.mov (.con (.int .i64 1))), none⟩]
def f19_r3 : List AStep := [⟨(some 9), (.mov (.tmp 0)), none⟩, ⟨(some 10), (.call (.con (.func 44 [])) [(.tmp 9)]), none⟩, ⟨(some 8), (.mov (.tmp 10)), none⟩]
def f19_r4 : List AStep := [⟨(some 2), (.mov (.con (.int .i64 20))), none⟩]
def f19_r5 : List AStep := [⟨(some 11), (.mov (.tmp 0)), none⟩, ⟨(some 12), (.nilCheck (.tmp 11)), none⟩, ⟨(some 13), (.fieldAddr 1 (.tmp 12)), none⟩, ⟨(some 14), (.load false 1 (.tmp 13)), none⟩, ⟨(some 15), (.len (.tmp 14)), none⟩, ⟨(some 16), (.mov (.con (.int .i64 0))), none⟩]
def f19_r6 : List AStep := [⟨(some 17), (.bin .lss (.tmp 16) (.tmp 15)), none⟩]
def f19_r7 : List AStep := [⟨(some 18), (.indexAddr 65 (.tmp 14) (.tmp 16)), none⟩, ⟨(some 19), (.load true 65 (.tmp 18)), none⟩, ⟨(some 4), (.alloc [(.int .i64 0), (.int .u8 0), (.int .u8 0), (.int .u8 0), (.int .u8 0), (.int .u8 0), (.int .u8 0), (.int .u8 0), (.int .u8 0), (.int .u8 0), (.int .u8 0), (.int .u8 0), (.int .u8 0), (.int .u8 0), (.int .u8 0), (.int .u8 0), (.int .u8 0), (.int .u8 0), (.int .u8 0), (.int .u8 0), (.int .u8 0), (.int .u8 0), (.int .u8 0), (.int .u8 0), (.int .u8 0), (.int .u8 0), (.int .u8 0), (.int .u8 0), (.int .u8 0), (.int .u8 0), (.int .u8 0), (.int .u8 0), (.int .u8 0), (.int .u8 0), (.int .u8 0), (.int .u8 0), (.int .u8 0), (.int .u8 0), (.int .u8 0), (.int .u8 0), (.int .u8 0), (.int .u8 0), (.int .u8 0), (.int .u8 0), (.int .u8 0), (.int .u8 0), (.int .u8 0), (.int .u8 0), (.int .u8 0), (.int .u8 0), (.int .u8 0), (.int .u8 0), (.int .u8 0), (.int .u8 0), (.int .u8 0), (.int .u8 0), (.int .u8 0), (.int .u8 0), (.int .u8 0), (.int .u8 0), (.int .u8 0), (.int .u8 0), (.int .u8 0), (.int .u8 0), (.int .u8 0)]), none⟩, ⟨none, (.store 65 (.tmp 4) (.tmp 19)), none⟩]
def f19_r8 : List AStep := [⟨(some 20), (.mov (.tmp 0)), none⟩, ⟨(some 21), (.load true 65 (.tmp 4)), none⟩, ⟨(some 22), (.call (.con (.func 46 [])) [(.tmp 20), (.tmp 21)]), none⟩]
def f19_r9 : List AStep := [⟨(some 23), (.bin .add (.tmp 16) (.con (.int .i64 1))), none⟩, ⟨(some 16), (.mov (.tmp 23)), none⟩]
def f19_l10 : ACode := (.seq (.ops f19_r6) (.seq (.cond (.tmp 17) .skip (.exit 1)) (.seq (.block 2 (.seq (.ops f19_r7) (.ops f19_r8))) (.ops f19_r9))))
def f19_r11 : List AStep := [⟨(some 24), (.mov (.tmp 0)), none⟩, ⟨(some 25), (.nilCheck (.tmp 24)), none⟩, ⟨(some 26), (.fieldAddr 1 (.tmp 25)), none⟩, ⟨none, (.store 1 (.tmp 26) (.con .nils)), none⟩]
def f19_r12 : List AStep := [⟨(some 2), (.mov (.con (.int .i64 0))), none⟩]
def f19_c : ACode := (.seq (.ops f19_r0) (.seq (.block 0 (.seq (.ops f19_r1) (.cond (.tmp 5) (.seq (.ops f19_r2) .ret) (.seq (.ops f19_r3) (.cond (.tmp 8) (.seq (.ops f19_r4) .ret) .skip))))) (.seq (.seq (.ops f19_r5) (.block 1 (.loop f19_l10))) (.seq (.ops f19_r11) (.seq (.ops f19_r12) .ret)))))
def f19_a : AFunc := ⟨27, [(.tmp 2)], f19_c⟩

/-! 20 -/
def f20_r0 : List AStep := [⟨(some 1), (.box (.tmp 0)), none⟩, ⟨(some 2), (.alloc [.nils, .nils, (.int .i64 0), (.bool false)]), none⟩, ⟨(some 3), (.mov (.con (.int .i64 0))), none⟩]
def f20_r1 : List AStep := [⟨(some 5), (.load true 4 (.tmp 1)), none⟩, ⟨(some 6), (.call (.con (.func 45 [])) [(.tmp 5)]), none⟩, ⟨none, (.store 4 (.tmp 1) (.tmp 6)), none⟩]
def f20_r2 : List AStep := [⟨(some 7), (.fieldAddr 3 (.tmp 1)), none⟩, ⟨(some 8), (.load false 1 (.tmp 7)), none⟩]
def f20_r3 : List AStep := [⟨(some 9), (.load true 4 (.tmp 1)), none⟩, ⟨none, (.store 4 (.tmp 2) (.tmp 9)), none⟩, ⟨(some 3), (.mov (.con (.int .i64 20))), none⟩]
def f20_r4 : List AStep := [⟨(some 4), (.mov (.con (.int .i64 0))), none⟩]
def f20_r5 : List AStep := [⟨(some 10), (.mov (.tmp 4)), none⟩, ⟨(some 11), (.fieldAddr 1 (.tmp 1)), none⟩, ⟨(some 12), (.load false 1 (.tmp 11)), none⟩, ⟨(some 13), (.len (.tmp 12)), none⟩, ⟨(some 14), (.bin .lss (.tmp 10) (.tmp 13)), none⟩]
def f20_r6 : List DStep := [⟨0, 0, ⟨(some 17), (.fieldAddr 0 (.tmp 1)), none⟩⟩, ⟨1, 1, ⟨(some 18), (.load false 1 (.tmp 17)), none⟩⟩, ⟨2, 0, ⟨(some 19), (.fieldAddr 1 (.tmp 1)), none⟩⟩, ⟨3, 4, ⟨(some 20), (.load false 1 (.tmp 19)), none⟩⟩, ⟨4, 0, ⟨(some 21), (.mov (.tmp 4)), none⟩⟩, ⟨5, 28, ⟨(some 22), (.indexAddr 2 (.tmp 20) (.tmp 21)), none⟩⟩, ⟨6, 60, ⟨(some 23), (.load true 2 (.tmp 22)), none⟩⟩, ⟨7, 127, ⟨(some 24), (.call (.con (.func 47 [])) [(.tmp 18), (.tmp 23)]), none⟩⟩, ⟨8, 255, ⟨(some 25), (.fieldAddr 0 (.tmp 1)), none⟩⟩, ⟨9, 511, ⟨none, (.store 1 (.tmp 25) (.tmp 24)), none⟩⟩]
def f20_r7 : List AStep := [⟨(some 15), (.mov (.tmp 4)), none⟩, ⟨(some 16), (.bin .add (.tmp 15) (.con (.int .i64 1))), none⟩, ⟨(some 4), (.mov (.tmp 16)), none⟩]
def f20_l8 : ACode := (.seq (.seq (.ops f20_r5) (.cond (.tmp 14) .skip (.exit 0))) (.seq (.block 1 (.draw f20_r6)) (.ops f20_r7)))
def f20_r9 : List AStep := [⟨(some 26), (.fieldAddr 1 (.tmp 1)), none⟩, ⟨none, (.store 1 (.tmp 26) (.con .nils)), none⟩]
def f20_r10 : List AStep := [⟨(some 27), (.load true 4 (.tmp 1)), none⟩, ⟨none, (.store 4 (.tmp 2) (.tmp 27)), none⟩, ⟨(some 3), (.mov (.con (.int .i64 0))), none⟩]
def f20_c : ACode := (.seq (.ops f20_r0) (.seq (.ops f20_r1) (.seq (.seq (.ops f20_r2) (.cond (.tmp 8) (.seq (.ops f20_r3) .ret) .skip)) (.seq (.seq (.ops f20_r4) (.block 0 (.loop f20_l8))) (.seq (.ops f20_r9) (.seq (.ops f20_r10) .ret))))))
def f20_a : AFunc := ⟨28, [(.cell 2 true 4), (.tmp 3)], f20_c⟩

/-! 21 -/
def f21_r0 : List AStep := [⟨(some 4), (.mov (.tmp 0)), none⟩, ⟨(some 5), (.eq .ptr true (.tmp 4) (.con .nilp)), none⟩, ⟨(some 6), (.mov (.tmp 5)), none⟩, ⟨(some 7), (.mov (.tmp 0)), (some (6, true))⟩, ⟨(some 8), (.nilCheck (.tmp 7)), (some (6, true))⟩, ⟨(some 9), (.fieldAddr 3 (.tmp 8)), (some (6, true))⟩, ⟨(some 10), (.load false 1 (.tmp 9)), (some (6, true))⟩, ⟨(some 11), (.not (.tmp 10)), (some (6, true))⟩, ⟨(some 12), (.pick (.tmp 6) (.tmp 11) (.con (.bool false))), none⟩]
def f21_r1 : List AStep := [⟨(some 13), (.mov (.tmp 0)), none⟩, ⟨(some 14), (.mov (.tmp 1)), none⟩, ⟨(some 15), (.max (.tmp 14) (.con (.int .i64 0))), none⟩, ⟨(some 16), (.nilCheck (.tmp 13)), none⟩, ⟨(some 17), (.fieldAddr 2 (.tmp 16)), none⟩, ⟨none, (.store 1 (.tmp 17) (.tmp 15)), none⟩]
def f21_c : ACode := (.seq (.ops f21_r0) (.cond (.tmp 12) (.ops f21_r1) .skip))
def f21_a : AFunc := ⟨18, [], f21_c⟩

/-! 22 -/
def f22_r0 : List AStep := [⟨(some 2), (.box (.tmp 0)), none⟩, ⟨(some 4), (.alloc [.nils, .nils, (.int .i64 0), (.bool false)]), none⟩]
def f22_r1 : List AStep := [⟨(some 5), (.fieldAddr 3 (.tmp 2)), none⟩, ⟨(some 6), (.load false 1 (.tmp 5)), none⟩]
def f22_r2 : List AStep := [⟨(some 7), (.load true 4 (.tmp 2)), none⟩, ⟨none, (.store 4 (.tmp 4) (.tmp 7)), none⟩]
def f22_r3 : List AStep := [⟨(some 8), (.mov (.tmp 1)), none⟩, ⟨(some 9), (.bin .lss (.tmp 8) (.con (.int .i64 0))), none⟩]
def f22_r4 : List AStep := [⟨(some 1), (.mov (.con (.int .i64 0))), none⟩]
def f22_r5 : List AStep := [⟨(some 10), (.mov (.tmp 1)), none⟩, ⟨(some 11), (.fieldAddr 2 (.tmp 2)), none⟩, ⟨none, (.store 1 (.tmp 11) (.tmp 10)), none⟩]
def f22_r6 : List AStep := [⟨(some 12), (.load true 4 (.tmp 2)), none⟩, ⟨none, (.store 4 (.tmp 4) (.tmp 12)), none⟩]
def f22_c : ACode := (.seq (.ops f22_r0) (.seq (.seq (.ops f22_r1) (.cond (.tmp 6) (.seq (.ops f22_r2) .ret) .skip)) (.seq (.seq (.ops f22_r3) (.cond (.tmp 9) (.ops f22_r4) .skip)) (.seq (.ops f22_r5) (.seq (.ops f22_r6) .ret)))))
def f22_a : AFunc := ⟨13, [(.cell 4 true 4)], f22_c⟩

/-! 23 -/
def f23_r0 : List AStep := [⟨(some 2), (.mov (.con (.int .i64 0))), none⟩]
def f23_r1 : List AStep := [⟨(some 3), (.mov (.tmp 0)), none⟩, ⟨(some 4), (.eq .ptr false (.tmp 3) (.con .nilp)), none⟩]
def f23_r2 : List AStep := [⟨(some 2), (.mov (.con (.int .i64 0))), none⟩]
def f23_r3 : List AStep := [⟨(some 5), (.mov (.tmp 0)), none⟩, ⟨(some 6), (.nilCheck (.tmp 5)), none⟩, ⟨(some 7), (.fieldAddr 1 (.tmp 6)), none⟩, ⟨(some 8), (.load false 1 (.tmp 7)), none⟩, ⟨(some 9), (.len (.tmp 8)), none⟩, ⟨(some 2), (.mov (.tmp 9)), none⟩]
def f23_c : ACode := (.seq (.ops f23_r0) (.seq (.seq (.ops f23_r1) (.cond (.tmp 4) (.seq (.ops f23_r2) .ret) .skip)) (.seq (.ops f23_r3) .ret)))
def f23_a : AFunc := ⟨10, [(.tmp 2)], f23_c⟩

/-! 24 -/
def f24_r0 : List AStep := [⟨(some 4), (.mov (.con .nilp)), none⟩]
def f24_r1 : List AStep := [⟨(some 8), (.mov (.tmp 0)), none⟩, ⟨(some 9), (.eq .ptr false (.tmp 8) (.con .nilp)), none⟩]
def f24_r2 : List AStep := [⟨(some 4), (.mov (.con .nilp)), none⟩]
def f24_r3 : List AStep := [⟨(some 10), (.mov (.tmp 0)), none⟩, ⟨(some 11), (.nilCheck (.tmp 10)), none⟩, ⟨(some 12), (.fieldAddr 0 (.tmp 11)), none⟩, ⟨(some 13), (.load false 1 (.tmp 12)), none⟩, ⟨(some 14), (.call (.con (.func 48 [])) [(.tmp 13)]), none⟩, ⟨(some 15), (.build [.nils, .nils, (.int .i64 0), (.bool false)] [(0, (1, (.tmp 14)))]), none⟩, ⟨(some 16), (.box (.tmp 15)), none⟩, ⟨(some 5), (.mov (.tmp 16)), none⟩]
def f24_r4 : List AStep := [⟨(some 17), (.mov (.tmp 0)), none⟩, ⟨(some 18), (.nilCheck (.tmp 17)), none⟩, ⟨(some 19), (.fieldAddr 1 (.tmp 18)), none⟩, ⟨(some 20), (.load false 1 (.tmp 19)), none⟩, ⟨(some 21), (.len (.tmp 20)), none⟩, ⟨(some 22), (.mov (.con (.int .i64 0))), none⟩]
def f24_r5 : List AStep := [⟨(some 23), (.bin .lss (.tmp 22) (.tmp 21)), none⟩]
def f24_r6 : List AStep := [⟨(some 24), (.mov (.tmp 22)), none⟩, ⟨(some 25), (.indexAddr 65 (.tmp 20) (.tmp 22)), none⟩, ⟨(some 26), (.load true 65 (.tmp 25)), none⟩, ⟨(some 7), (.alloc [(.int .i64 0), (.int .u8 0), (.int .u8 0), (.int .u8 0), (.int .u8 0), (.int .u8 0), (.int .u8 0), (.int .u8 0), (.int .u8 0), (.int .u8 0), (.int .u8 0), (.int .u8 0), (.int .u8 0), (.int .u8 0), (.int .u8 0), (.int .u8 0), (.int .u8 0), (.int .u8 0), (.int .u8 0), (.int .u8 0), (.int .u8 0), (.int .u8 0), (.int .u8 0), (.int .u8 0), (.int .u8 0), (.int .u8 0), (.int .u8 0), (.int .u8 0), (.int .u8 0), (.int .u8 0), (.int .u8 0), (.int .u8 0), (.int .u8 0), (.int .u8 0), (.int .u8 0), (.int .u8 0), (.int .u8 0), (.int .u8 0), (.int .u8 0), (.int .u8 0), (.int .u8 0), (.int .u8 0), (.int .u8 0), (.int .u8 0), (.int .u8 0), (.int .u8 0), (.int .u8 0), (.int .u8 0), (.int .u8 0), (.int .u8 0), (.int .u8 0), (.int .u8 0), (.int .u8 0), (.int .u8 0), (.int .u8 0), (.int .u8 0), (.int .u8 0), (.int .u8 0), (.int .u8 0), (.int .u8 0), (.int .u8 0), (.int .u8 0), (.int .u8 0), (.int .u8 0), (.int .u8 0)]), none⟩, ⟨(some 6), (.mov (.tmp 24)), none⟩, ⟨none, (.store 65 (.tmp 7) (.tmp 26)), none⟩]
def f24_r7 : List AStep := [⟨(some 27), (.mov (.tmp 6)), none⟩, ⟨(some 28), (.mov (.tmp 1)), none⟩, ⟨(some 29), (.len (.tmp 28)), none⟩, ⟨(some 30), (.bin .lss (.tmp 27) (.tmp 29)), none⟩, ⟨(some 31), (.mov (.tmp 30)), none⟩, ⟨(some 32), (.mov (.tmp 1)), (some (31, true))⟩, ⟨(some 33), (.mov (.tmp 6)), (some (31, true))⟩, ⟨(some 34), (.indexAddr 1 (.tmp 32) (.tmp 33)), (some (31, true))⟩, ⟨(some 35), (.load false 1 (.tmp 34)), (some (31, true))⟩, ⟨(some 36), (.pick (.tmp 31) (.tmp 35) (.con (.bool false))), none⟩]
def f24_r8 : List AStep := [⟨(some 37), (.mov (.tmp 5)), none⟩, ⟨(some 38), (.load true 65 (.tmp 7)), none⟩, ⟨(some 39), (.call (.con (.func 46 [])) [(.tmp 37), (.tmp 38)]), none⟩]
def f24_r9 : List AStep := [⟨(some 40), (.bin .add (.tmp 22) (.con (.int .i64 1))), none⟩, ⟨(some 22), (.mov (.tmp 40)), none⟩]
def f24_l10 : ACode := (.seq (.ops f24_r5) (.seq (.cond (.tmp 23) .skip (.exit 0)) (.seq (.block 1 (.seq (.ops f24_r6) (.seq (.ops f24_r7) (.cond (.tmp 36) (.ops f24_r8) .skip)))) (.ops f24_r9))))
def f24_r11 : List AStep := [⟨(some 41), (.mov (.tmp 5)), none⟩, ⟨(some 4), (.mov (.tmp 41)), none⟩]
def f24_c : ACode := (.seq (.ops f24_r0) (.seq (.seq (.ops f24_r1) (.cond (.tmp 9) (.seq (.ops f24_r2) .ret) .skip)) (.seq (.ops f24_r3) (.seq (.seq (.ops f24_r4) (.block 0 (.loop f24_l10))) (.seq (.ops f24_r11) .ret)))))
def f24_a : AFunc := ⟨42, [(.tmp 4)], f24_c⟩

/-! 25 -/
def f25_r0 : List AStep := [⟨(some 2), (.box (.tmp 0)), none⟩, ⟨(some 4), (.alloc [.nils, .nils, (.int .i64 0), (.bool false)]), none⟩]
def f25_r1 : List AStep := [⟨(some 7), (.fieldAddr 0 (.tmp 2)), none⟩, ⟨(some 8), (.load false 1 (.tmp 7)), none⟩, ⟨(some 9), (.build [.nils, .nils, (.int .i64 0), (.bool false)] [(0, (1, (.tmp 8)))]), none⟩, ⟨(some 5), (.alloc [.nils, .nils, (.int .i64 0), (.bool false)]), none⟩, ⟨none, (.store 4 (.tmp 5) (.tmp 9)), none⟩]
def f25_r2 : List AStep := [⟨(some 6), (.mov (.con (.int .i64 0))), none⟩]
def f25_r3 : List AStep := [⟨(some 10), (.mov (.tmp 6)), none⟩, ⟨(some 11), (.fieldAddr 1 (.tmp 2)), none⟩, ⟨(some 12), (.load false 1 (.tmp 11)), none⟩, ⟨(some 13), (.len (.tmp 12)), none⟩, ⟨(some 14), (.bin .lss (.tmp 10) (.tmp 13)), none⟩, ⟨(some 15), (.mov (.tmp 14)), none⟩, ⟨(some 16), (.mov (.tmp 6)), (some (15, true))⟩, ⟨(some 17), (.mov (.tmp 1)), (some (15, true))⟩, ⟨(some 18), (.len (.tmp 17)), (some (15, true))⟩, ⟨(some 19), (.bin .lss (.tmp 16) (.tmp 18)), (some (15, true))⟩, ⟨(some 20), (.pick (.tmp 15) (.tmp 19) (.con (.bool false))), none⟩]
def f25_r4 : List AStep := [⟨(some 23), (.mov (.tmp 1)), none⟩, ⟨(some 24), (.mov (.tmp 6)), none⟩, ⟨(some 25), (.indexAddr 1 (.tmp 23) (.tmp 24)), none⟩, ⟨(some 26), (.load false 1 (.tmp 25)), none⟩]
def f25_r5 : List DStep := [⟨0, 0, ⟨(some 27), (.fieldAddr 0 (.tmp 5)), none⟩⟩, ⟨1, 1, ⟨(some 28), (.load false 1 (.tmp 27)), none⟩⟩, ⟨2, 0, ⟨(some 29), (.fieldAddr 1 (.tmp 2)), none⟩⟩, ⟨3, 4, ⟨(some 30), (.load false 1 (.tmp 29)), none⟩⟩, ⟨4, 0, ⟨(some 31), (.mov (.tmp 6)), none⟩⟩, ⟨5, 28, ⟨(some 32), (.indexAddr 2 (.tmp 30) (.tmp 31)), none⟩⟩, ⟨6, 60, ⟨(some 33), (.load true 2 (.tmp 32)), none⟩⟩, ⟨7, 127, ⟨(some 34), (.call (.con (.func 47 [])) [(.tmp 28), (.tmp 33)]), none⟩⟩, ⟨8, 255, ⟨(some 35), (.fieldAddr 0 (.tmp 5)), none⟩⟩, ⟨9, 511, ⟨none, (.store 1 (.tmp 35) (.tmp 34)), none⟩⟩]
def f25_r6 : List AStep := [⟨(some 21), (.mov (.tmp 6)), none⟩, ⟨(some 22), (.bin .add (.tmp 21) (.con (.int .i64 1))), none⟩, ⟨(some 6), (.mov (.tmp 22)), none⟩]
def f25_l7 : ACode := (.seq (.seq (.ops f25_r3) (.cond (.tmp 20) .skip (.exit 0))) (.seq (.block 1 (.seq (.ops f25_r4) (.cond (.tmp 26) (.draw f25_r5) .skip))) (.ops f25_r6)))
def f25_r8 : List AStep := [⟨(some 36), (.load true 4 (.tmp 5)), none⟩, ⟨none, (.store 4 (.tmp 4) (.tmp 36)), none⟩]
def f25_c : ACode := (.seq (.ops f25_r0) (.seq (.ops f25_r1) (.seq (.seq (.ops f25_r2) (.block 0 (.loop f25_l7))) (.seq (.ops f25_r8) .ret))))
def f25_a : AFunc := ⟨37, [(.cell 4 true 4)], f25_c⟩

/-! 26 -/
def f26_r0 : List AStep := [⟨(some 3), (.box (.tmp 1)), none⟩, ⟨(some 4), (.alloc [.nils]), none⟩, ⟨(some 5), (.alloc [(.int .i64 0)]), none⟩]
def f26_r1 : List AStep := [⟨(some 8), (.mov (.tmp 0)), none⟩, ⟨(some 9), (.load false 1 (.tmp 3)), none⟩, ⟨(some 10), (.call (.con (.func 43 [])) [(.tmp 8), (.tmp 9)]), none⟩, ⟨(some 11), (.not (.tmp 10)), none⟩, ⟨(some 7), (.mov (.tmp 11)), none⟩]
def f26_r2 : List AStep := [⟨none, (.store 1 (.tmp 4) (.con .nils)), none⟩, ⟨none, (.store 1 (.tmp 5) (.con (.int .i64 1))), none⟩]
def f26_r3 : List AStep := [⟨(some 13), (.mov (.tmp 0)), none⟩, ⟨(some 14), (.nilCheck (.tmp 13)), none⟩, ⟨(some 15), (.fieldAddr 3 (.tmp 14)), none⟩, ⟨(some 16), (.load false 1 (.tmp 15)), none⟩, ⟨(some 12), (.mov (.tmp 16)), none⟩]
def f26_r4 : List AStep := [⟨none, (.store 1 (.tmp 4) (.con .nils)), none⟩, ⟨none, (.store 1 (.tmp 5) (.con (.int .i64 20))), none⟩]
def f26_r5 : List AStep := [⟨(some 17), (.mov (.tmp 0)), none⟩, ⟨(some 18), (.call (.con (.func 49 [])) [(.tmp 17)]), none⟩]
def f26_r6 : List AStep := [⟨(some 6), (.alloc [(.int .i64 0), (.int .u8 0), (.int .u8 0), (.int .u8 0), (.int .u8 0), (.int .u8 0), (.int .u8 0), (.int .u8 0), (.int .u8 0), (.int .u8 0), (.int .u8 0), (.int .u8 0), (.int .u8 0), (.int .u8 0), (.int .u8 0), (.int .u8 0), (.int .u8 0), (.int .u8 0), (.int .u8 0), (.int .u8 0), (.int .u8 0), (.int .u8 0), (.int .u8 0), (.int .u8 0), (.int .u8 0), (.int .u8 0), (.int .u8 0), (.int .u8 0), (.int .u8 0), (.int .u8 0), (.int .u8 0), (.int .u8 0), (.int .u8 0), (.int .u8 0), (.int .u8 0), (.int .u8 0), (.int .u8 0), (.int .u8 0), (.int .u8 0), (.int .u8 0), (.int .u8 0), (.int .u8 0), (.int .u8 0), (.int .u8 0), (.int .u8 0), (.int .u8 0), (.int .u8 0), (.int .u8 0), (.int .u8 0), (.int .u8 0), (.int .u8 0), (.int .u8 0), (.int .u8 0), (.int .u8 0), (.int .u8 0), (.int .u8 0), (.int .u8 0), (.int .u8 0), (.int .u8 0), (.int .u8 0), (.int .u8 0), (.int .u8 0), (.int .u8 0), (.int .u8 0), (.int .u8 0)]), none⟩, ⟨none, (.store 65 (.tmp 6) (.tmp 19)), none⟩]
def f26_r7 : List AStep := [⟨(some 20), (.fieldAddr 0 (.tmp 6)), none⟩, ⟨(some 21), (.load false 1 (.tmp 20)), none⟩, ⟨(some 22), (.load false 1 (.tmp 3)), none⟩, ⟨(some 23), (.bin .eql (.tmp 21) (.tmp 22)), none⟩]
def f26_r8 : List AStep := [⟨(some 24), (.fieldAddr 1 (.tmp 6)), none⟩, ⟨(some 25), (.sliceA 1 64 (.tmp 24) none none), none⟩, ⟨none, (.store 1 (.tmp 4) (.tmp 25)), none⟩, ⟨none, (.store 1 (.tmp 5) (.con (.int .i64 0))), none⟩]
def f26_l9 : ACode := (.ops f26_r6)
def f26_l10 : ACode := (.block 2 (.seq (.ops f26_r7) (.cond (.tmp 23) (.seq (.ops f26_r8) .ret) .skip)))
def f26_r11 : List DStep := [⟨0, 0, ⟨(some 26), (.mov (.tmp 0)), none⟩⟩, ⟨1, 1, ⟨(some 27), (.nilCheck (.tmp 26)), none⟩⟩, ⟨2, 3, ⟨(some 28), (.fieldAddr 0 (.tmp 27)), none⟩⟩, ⟨3, 7, ⟨(some 29), (.load false 1 (.tmp 28)), none⟩⟩, ⟨4, 0, ⟨(some 30), (.load false 1 (.tmp 3)), none⟩⟩, ⟨5, 31, ⟨(some 31), (.indexAddr 64 (.tmp 29) (.tmp 30)), none⟩⟩, ⟨6, 63, ⟨(some 32), (.sliceA 1 64 (.tmp 31) none none), none⟩⟩, ⟨7, 127, ⟨(some 33), (.call (.con (.func 50 [])) [(.tmp 32)]), none⟩⟩, ⟨8, 255, ⟨none, (.store 1 (.tmp 4) (.tmp 33)), none⟩⟩, ⟨9, 511, ⟨none, (.store 1 (.tmp 5) (.con (.int .i64 0))), none⟩⟩]
def f26_c : ACode := (.seq (.ops f26_r0) (.seq (.block 0 (.seq (.ops f26_r1) (.cond (.tmp 7) (.seq (.ops f26_r2) .ret) (.seq (.ops f26_r3) (.cond (.tmp 12) (.seq (.ops f26_r4) .ret) .skip))))) (.seq (.seq (.ops f26_r5) (.block 1 (.range 34 (.tmp 18) [19] f26_l9 f26_l10))) (.seq (.draw f26_r11) .ret))))
def f26_a : AFunc := ⟨34, [(.cell 4 false 1), (.cell 5 false 1)], f26_c⟩

/-! 27 -/
def f27_r0 : List AStep := [⟨(some 2), (.box (.tmp 0)), none⟩, ⟨(some 4), (.mov (.con (.str []))), none⟩, ⟨(some 5), (.mov (.con (.int .i64 0))), none⟩]
def f27_r1 : List AStep := [⟨(some 8), (.mov (.tmp 1)), none⟩, ⟨(some 9), (.bin .lss (.tmp 8) (.con (.int .i64 0))), none⟩, ⟨(some 10), (.mov (.tmp 9)), none⟩, ⟨(some 11), (.mov (.tmp 1)), (some (10, false))⟩, ⟨(some 12), (.fieldAddr 0 (.tmp 2)), (some (10, false))⟩, ⟨(some 13), (.load false 1 (.tmp 12)), (some (10, false))⟩, ⟨(some 14), (.len (.tmp 13)), (some (10, false))⟩, ⟨(some 15), (.bin .geq (.tmp 11) (.tmp 14)), (some (10, false))⟩, ⟨(some 16), (.pick (.tmp 10) (.con (.bool true)) (.tmp 15)), none⟩]
def f27_r2 : List AStep := [⟨(some 4), (.mov (.con (.str []))), none⟩, ⟨(some 5), (.mov (.con (.int .i64 1))), none⟩]
def f27_r3 : List AStep := [⟨(some 17), (.fieldAddr 3 (.tmp 2)), none⟩, ⟨(some 18), (.load false 1 (.tmp 17)), none⟩]
def f27_r4 : List AStep := [⟨(some 4), (.mov (.con (.str []))), none⟩, ⟨(some 5), (.mov (.con (.int .i64 20))), none⟩]
def f27_r5 : List AStep := [⟨(some 19), (.fieldAddr 0 (.tmp 2)), none⟩, ⟨(some 20), (.load false 1 (.tmp 19)), none⟩, ⟨(some 21), (.mov (.tmp 1)), none⟩, ⟨(some 22), (.indexAddr 1 (.tmp 20) (.tmp 21)), none⟩, ⟨(some 23), (.load false 1 (.tmp 22)), none⟩, ⟨(some 6), (.mov (.tmp 23)), none⟩]
def f27_r6 : List AStep := [⟨(some 7), (.mov (.con (.int .i64 0))), none⟩]
def f27_r7 : List AStep := [⟨(some 24), (.mov (.tmp 7)), none⟩, ⟨(some 25), (.fieldAddr 1 (.tmp 2)), none⟩, ⟨(some 26), (.load false 1 (.tmp 25)), none⟩, ⟨(some 27), (.len (.tmp 26)), none⟩, ⟨(some 28), (.bin .lss (.tmp 24) (.tmp 27)), none⟩]
def f27_r8 : List AStep := [⟨(some 31), (.fieldAddr 1 (.tmp 2)), none⟩, ⟨(some 32), (.load false 1 (.tmp 31)), none⟩, ⟨(some 33), (.mov (.tmp 7)), none⟩, ⟨(some 34), (.indexAddr 2 (.tmp 32) (.tmp 33)), none⟩, ⟨(some 35), (.fieldAddr 0 (.tmp 34)), none⟩, ⟨(some 36), (.load false 1 (.tmp 35)), none⟩, ⟨(some 37), (.mov (.tmp 1)), none⟩, ⟨(some 38), (.bin .eql (.tmp 36) (.tmp 37)), none⟩]
def f27_r9 : List AStep := [⟨(some 39), (.fieldAddr 1 (.tmp 2)), none⟩, ⟨(some 40), (.load false 1 (.tmp 39)), none⟩, ⟨(some 41), (.mov (.tmp 7)), none⟩, ⟨(some 42), (.indexAddr 2 (.tmp 40) (.tmp 41)), none⟩, ⟨(some 43), (.fieldAddr 1 (.tmp 42)), none⟩, ⟨(some 44), (.load false 1 (.tmp 43)), none⟩, ⟨(some 6), (.mov (.tmp 44)), none⟩]
def f27_r10 : List AStep := [⟨(some 29), (.mov (.tmp 7)), none⟩, ⟨(some 30), (.bin .add (.tmp 29) (.con (.int .i64 1))), none⟩, ⟨(some 7), (.mov (.tmp 30)), none⟩]
def f27_l11 : ACode := (.seq (.seq (.ops f27_r7) (.cond (.tmp 28) .skip (.exit 0))) (.seq (.block 1 (.seq (.ops f27_r8) (.cond (.tmp 38) (.ops f27_r9) .skip))) (.ops f27_r10)))
def f27_r12 : List AStep := [⟨(some 45), (.mov (.tmp 6)), none⟩, ⟨(some 4), (.mov (.tmp 45)), none⟩, ⟨(some 5), (.mov (.con (.int .i64 0))), none⟩]
def f27_c : ACode := (.seq (.ops f27_r0) (.seq (.seq (.ops f27_r1) (.cond (.tmp 16) (.seq (.ops f27_r2) .ret) .skip)) (.seq (.seq (.ops f27_r3) (.cond (.tmp 18) (.seq (.ops f27_r4) .ret) .skip)) (.seq (.ops f27_r5) (.seq (.seq (.ops f27_r6) (.block 0 (.loop f27_l11))) (.seq (.ops f27_r12) .ret))))))
def f27_a : AFunc := ⟨46, [(.tmp 4), (.tmp 5)], f27_c⟩

/-! 28 -/
def f28_r0 : List AStep := [⟨(some 2), (.mov (.con (.bool false))), none⟩]
def f28_r1 : List AStep := [⟨(some 3), (.mov (.tmp 0)), none⟩, ⟨(some 4), (.eq .ptr true (.tmp 3) (.con .nilp)), none⟩, ⟨(some 5), (.mov (.tmp 4)), none⟩, ⟨(some 6), (.mov (.tmp 0)), (some (5, true))⟩, ⟨(some 7), (.nilCheck (.tmp 6)), (some (5, true))⟩, ⟨(some 8), (.fieldAddr 3 (.tmp 7)), (some (5, true))⟩, ⟨(some 9), (.load false 1 (.tmp 8)), (some (5, true))⟩, ⟨(some 10), (.pick (.tmp 5) (.tmp 9) (.con (.bool false))), none⟩, ⟨(some 2), (.mov (.tmp 10)), none⟩]
def f28_c : ACode := (.seq (.ops f28_r0) (.seq (.ops f28_r1) .ret))
def f28_a : AFunc := ⟨11, [(.tmp 2)], f28_c⟩

/-! 29 -/
def f29_r0 : List AStep := [⟨(some 2), (.mov (.con (.int .i64 0))), none⟩]
def f29_r1 : List AStep := [⟨(some 3), (.mov (.tmp 0)), none⟩, ⟨(some 4), (.eq .ptr false (.tmp 3) (.con .nilp)), none⟩]
def f29_r2 : List AStep := [⟨(some 2), (.mov (.con (.int .i64 0))), none⟩]
def f29_r3 : List AStep := [⟨(some 5), (.mov (.tmp 0)), none⟩, ⟨(some 6), (.nilCheck (.tmp 5)), none⟩, ⟨(some 7), (.fieldAddr 0 (.tmp 6)), none⟩, ⟨(some 8), (.load false 1 (.tmp 7)), none⟩, ⟨(some 9), (.len (.tmp 8)), none⟩, ⟨(some 2), (.mov (.tmp 9)), none⟩]
def f29_c : ACode := (.seq (.ops f29_r0) (.seq (.seq (.ops f29_r1) (.cond (.tmp 4) (.seq (.ops f29_r2) .ret) .skip)) (.seq (.ops f29_r3) .ret)))
def f29_a : AFunc := ⟨10, [(.tmp 2)], f29_c⟩

/-! 30 -/
def f30_r0 : List AStep := [⟨(some 0), (.mov (.con (.bool false))), none⟩]
def f30_r1 : List AStep := [⟨(some 13), (.call (.con (.func 15 [])) [(.con (.int .i64 9))]), none⟩, ⟨(some 12), (.mov (.tmp 13)), none⟩, ⟨(some 14), (.extract (.tmp 12) 0), none⟩, ⟨(some 15), (.extract (.tmp 12) 1), none⟩, ⟨(some 1), (.mov (.tmp 14)), none⟩, ⟨(some 2), (.mov (.tmp 15)), none⟩]
def f30_r2 : List AStep := [⟨(some 17), (.mov (.tmp 1)), none⟩, ⟨(some 18), (.call (.con (.func 32 [])) [(.tmp 17), (.con (.int .i64 2)), (.con (.int .i64 9)), (.con (.int .u64 5))]), none⟩, ⟨(some 16), (.mov (.tmp 18)), none⟩, ⟨(some 19), (.extract (.tmp 16) 0), none⟩, ⟨(some 20), (.extract (.tmp 16) 1), none⟩, ⟨(some 3), (.mov (.tmp 19)), none⟩, ⟨(some 4), (.mov (.tmp 20)), none⟩]
def f30_r3 : List AStep := [⟨(some 21), (.mov (.tmp 3)), none⟩, ⟨(some 22), (.buildSlice 1 2 [(.int .u8 0)] [(0, (1, (.con (.int .u8 97)))), (1, (1, (.con (.int .u8 98))))]), none⟩, ⟨(some 23), (.cvB2B (.tmp 22)), none⟩, ⟨(some 24), (.call (.con (.func 39 [])) [(.tmp 21), (.tmp 23)]), none⟩, ⟨(some 5), (.mov (.tmp 24)), none⟩]
def f30_r4 : List AStep := [⟨(some 25), (.mov (.tmp 3)), none⟩, ⟨(some 26), (.call (.con (.func 39 [])) [(.tmp 25), (.con .nils)]), none⟩, ⟨(some 6), (.mov (.tmp 26)), none⟩]
def f30_r5 : List AStep := [⟨(some 28), (.mov (.tmp 1)), none⟩, ⟨(some 29), (.call (.con (.func 32 [])) [(.tmp 28), (.con (.int .i64 2)), (.con (.int .i64 9)), (.con (.int .u64 5))]), none⟩, ⟨(some 27), (.mov (.tmp 29)), none⟩, ⟨(some 30), (.extract (.tmp 27) 0), none⟩, ⟨(some 31), (.extract (.tmp 27) 1), none⟩, ⟨(some 7), (.mov (.tmp 30)), none⟩, ⟨(some 8), (.mov (.tmp 31)), none⟩]
def f30_r6 : List AStep := [⟨(some 33), (.mov (.tmp 1)), none⟩, ⟨(some 34), (.call (.con (.func 32 [])) [(.tmp 33), (.con (.int .i64 2)), (.con (.int .i64 9)), (.con (.int .u64 6))]), none⟩, ⟨(some 32), (.mov (.tmp 34)), none⟩, ⟨(some 35), (.extract (.tmp 32) 0), none⟩, ⟨(some 36), (.extract (.tmp 32) 1), none⟩, ⟨(some 9), (.mov (.tmp 35)), none⟩, ⟨(some 10), (.mov (.tmp 36)), none⟩]
def f30_r7 : List AStep := [⟨(some 37), (.mov (.tmp 7)), none⟩, ⟨(some 38), (.call (.con (.func 36 [])) [(.tmp 37)]), none⟩, ⟨(some 11), (.mov (.tmp 38)), none⟩]
def f30_r8 : List AStep := [⟨(some 39), (.call (.con (.func 40 [])) [(.con (.int .i64 0))]), none⟩, ⟨(some 40), (.bin .eql (.tmp 39) (.con (.int .i64 1))), none⟩, ⟨(some 41), (.mov (.tmp 40)), none⟩, ⟨(some 42), (.call (.con (.func 40 [])) [(.con (.int .i64 63))]), (some (41, true))⟩, ⟨(some 43), (.bin .eql (.tmp 42) (.con (.int .i64 2))), (some (41, true))⟩, ⟨(some 44), (.pick (.tmp 41) (.tmp 43) (.con (.bool false))), none⟩, ⟨(some 45), (.mov (.tmp 44)), none⟩, ⟨(some 46), (.call (.con (.func 40 [])) [(.con (.int .i64 64))]), (some (45, true))⟩, ⟨(some 47), (.bin .eql (.tmp 46) (.con (.int .i64 3))), (some (45, true))⟩, ⟨(some 48), (.pick (.tmp 45) (.tmp 47) (.con (.bool false))), none⟩, ⟨(some 49), (.mov (.tmp 48)), none⟩, ⟨(some 50), (.mov (.tmp 4)), (some (49, true))⟩, ⟨(some 51), (.bin .eql (.tmp 50) (.con (.int .i64 0))), (some (49, true))⟩, ⟨(some 52), (.pick (.tmp 49) (.tmp 51) (.con (.bool false))), none⟩, ⟨(some 53), (.mov (.tmp 52)), none⟩, ⟨(some 54), (.mov (.tmp 5)), (some (53, true))⟩, ⟨(some 55), (.bin .eql (.tmp 54) (.con (.int .i64 0))), (some (53, true))⟩, ⟨(some 56), (.pick (.tmp 53) (.tmp 55) (.con (.bool false))), none⟩, ⟨(some 57), (.mov (.tmp 56)), none⟩, ⟨(some 58), (.mov (.tmp 6)), (some (57, true))⟩, ⟨(some 59), (.bin .eql (.tmp 58) (.con (.int .i64 0))), (some (57, true))⟩, ⟨(some 60), (.pick (.tmp 57) (.tmp 59) (.con (.bool false))), none⟩, ⟨(some 61), (.mov (.tmp 60)), none⟩, ⟨(some 62), (.mov (.tmp 8)), (some (61, true))⟩, ⟨(some 63), (.bin .eql (.tmp 62) (.con (.int .i64 0))), (some (61, true))⟩, ⟨(some 64), (.pick (.tmp 61) (.tmp 63) (.con (.bool false))), none⟩, ⟨(some 65), (.mov (.tmp 64)), none⟩, ⟨(some 66), (.mov (.tmp 10)), (some (65, true))⟩, ⟨(some 67), (.bin .eql (.tmp 66) (.con (.int .i64 0))), (some (65, true))⟩, ⟨(some 68), (.pick (.tmp 65) (.tmp 67) (.con (.bool false))), none⟩, ⟨(some 69), (.mov (.tmp 68)), none⟩, ⟨(some 70), (.mov (.tmp 11)), (some (69, true))⟩, ⟨(some 71), (.len (.tmp 70)), (some (69, true))⟩, ⟨(some 72), (.bin .eql (.tmp 71) (.con (.int .i64 2))), (some (69, true))⟩, ⟨(some 73), (.pick (.tmp 69) (.tmp 72) (.con (.bool false))), none⟩, ⟨(some 74), (.mov (.tmp 73)), none⟩, ⟨(some 75), (.mov (.tmp 11)), (some (74, true))⟩, ⟨(some 76), (.indexAddr 1 (.tmp 75) (.con (.int .i64 0))), (some (74, true))⟩, ⟨(some 77), (.load false 1 (.tmp 76)), (some (74, true))⟩, ⟨(some 78), (.cvB2S (.tmp 77)), (some (74, true))⟩, ⟨(some 79), (.bin .eql (.tmp 78) (.con (.str [97, 98]))), (some (74, true))⟩, ⟨(some 80), (.pick (.tmp 74) (.tmp 79) (.con (.bool false))), none⟩, ⟨(some 81), (.mov (.tmp 80)), none⟩, ⟨(some 82), (.mov (.tmp 7)), (some (81, true))⟩, ⟨(some 83), (.call (.con (.func 37 [])) [(.tmp 82)]), (some (81, true))⟩, ⟨(some 84), (.bin .eql (.tmp 83) (.con (.int .i64 4))), (some (81, true))⟩, ⟨(some 85), (.pick (.tmp 81) (.tmp 84) (.con (.bool false))), none⟩, ⟨(some 86), (.mov (.tmp 85)), none⟩, ⟨(some 87), (.mov (.tmp 9)), (some (86, true))⟩, ⟨(some 88), (.call (.con (.func 36 [])) [(.tmp 87)]), (some (86, true))⟩, ⟨(some 89), (.len (.tmp 88)), (some (86, true))⟩, ⟨(some 90), (.bin .eql (.tmp 89) (.con (.int .i64 0))), (some (86, true))⟩, ⟨(some 91), (.pick (.tmp 86) (.tmp 90) (.con (.bool false))), none⟩, ⟨(some 0), (.mov (.tmp 91)), none⟩]
def f30_c : ACode := (.seq (.ops f30_r0) (.seq (.ops f30_r1) (.seq (.ops f30_r2) (.seq (.ops f30_r3) (.seq (.ops f30_r4) (.seq (.ops f30_r5) (.seq (.ops f30_r6) (.seq (.ops f30_r7) (.seq (.ops f30_r8) .ret)))))))))
def f30_a : AFunc := ⟨92, [(.tmp 0)], f30_c⟩

/-! 31 -/
def f31_r0 : List AStep := [⟨(some 6), (.mov (.con (.str []))), none⟩]
def f31_r1 : List AStep := [⟨(some 7), (.mov (.tmp 0)), none⟩, ⟨(some 8), (.call (.con (.func 51 [])) [(.tmp 7)]), none⟩, ⟨(some 9), (.bin .add (.con (.str [1])) (.tmp 8)), none⟩, ⟨(some 10), (.mov (.tmp 1)), none⟩, ⟨(some 11), (.call (.con (.func 51 [])) [(.tmp 10)]), none⟩, ⟨(some 12), (.bin .add (.tmp 9) (.tmp 11)), none⟩, ⟨(some 13), (.mov (.tmp 2)), none⟩, ⟨(some 14), (.cvInt .u64 (.tmp 13)), none⟩, ⟨(some 15), (.call (.con (.func 51 [])) [(.tmp 14)]), none⟩, ⟨(some 16), (.bin .add (.tmp 12) (.tmp 15)), none⟩, ⟨(some 17), (.call (.con (.func 42 [])) [(.tmp 16)]), none⟩, ⟨(some 6), (.mov (.tmp 17)), none⟩]
def f31_c : ACode := (.seq (.ops f31_r0) (.seq (.ops f31_r1) .ret))
def f31_a : AFunc := ⟨18, [(.tmp 6)], f31_c⟩

/-! 32 -/
def f32_r0 : List AStep := [⟨(some 8), (.mov (.con .nilp)), none⟩, ⟨(some 9), (.mov (.con (.int .i64 0))), none⟩]
def f32_r1 : List AStep := [⟨(some 14), (.mov (.tmp 0)), none⟩, ⟨(some 15), (.eq .ptr false (.tmp 14) (.con .nilp)), none⟩, ⟨(some 16), (.mov (.tmp 15)), none⟩, ⟨(some 17), (.mov (.tmp 1)), (some (16, false))⟩, ⟨(some 18), (.bin .lss (.tmp 17) (.con (.int .i64 0))), (some (16, false))⟩, ⟨(some 19), (.pick (.tmp 16) (.con (.bool true)) (.tmp 18)), none⟩, ⟨(some 20), (.mov (.tmp 19)), none⟩, ⟨(some 21), (.mov (.tmp 2)), (some (20, false))⟩, ⟨(some 22), (.mov (.tmp 1)), (some (20, false))⟩, ⟨(some 23), (.bin .lss (.tmp 21) (.tmp 22)), (some (20, false))⟩, ⟨(some 24), (.pick (.tmp 20) (.con (.bool true)) (.tmp 23)), none⟩, ⟨(some 25), (.mov (.tmp 24)), none⟩, ⟨(some 26), (.mov (.tmp 2)), (some (25, false))⟩, ⟨(some 27), (.mov (.tmp 0)), (some (25, false))⟩, ⟨(some 28), (.call (.con (.func 29 [])) [(.tmp 27)]), (some (25, false))⟩, ⟨(some 29), (.bin .gtr (.tmp 26) (.tmp 28)), (some (25, false))⟩, ⟨(some 30), (.pick (.tmp 25) (.con (.bool true)) (.tmp 29)), none⟩]
def f32_r2 : List AStep := [⟨(some 8), (.mov (.con .nilp)), none⟩, ⟨(some 9), (.mov (.con (.int .i64 1))), none⟩]
def f32_r3 : List AStep := [⟨(some 31), (.mov (.tmp 0)), none⟩, ⟨(some 32), (.mov (.tmp 1)), none⟩, ⟨(some 33), (.mov (.tmp 2)), none⟩, ⟨(some 34), (.mov (.tmp 3)), none⟩, ⟨(some 35), (.build [.nilp, (.int .i64 0), (.int .i64 0), (.int .u64 0), .nils] [(0, (1, (.tmp 31))), (1, (1, (.tmp 32))), (2, (1, (.tmp 33))), (3, (1, (.tmp 34)))]), none⟩, ⟨(some 36), (.box (.tmp 35)), none⟩, ⟨(some 10), (.mov (.tmp 36)), none⟩]
def f32_r4 : List AStep := [⟨(some 38), (.mov (.tmp 10)), none⟩, ⟨(some 39), (.call (.con (.func 52 [])) [(.tmp 38)]), none⟩, ⟨(some 37), (.mov (.tmp 39)), none⟩, ⟨(some 40), (.extract (.tmp 37) 0), none⟩, ⟨(some 41), (.extract (.tmp 37) 1), none⟩, ⟨(some 42), (.extract (.tmp 37) 2), none⟩, ⟨(some 11), (.mov (.tmp 40)), none⟩, ⟨(some 12), (.mov (.tmp 41)), none⟩, ⟨(some 13), (.mov (.tmp 42)), none⟩]
def f32_r5 : List AStep := [⟨(some 44), (.mov (.tmp 13)), none⟩, ⟨(some 45), (.bin .neq (.tmp 44) (.con (.int .i64 0))), none⟩, ⟨(some 43), (.mov (.tmp 45)), none⟩]
def f32_r6 : List AStep := [⟨(some 46), (.mov (.tmp 13)), none⟩, ⟨(some 8), (.mov (.con .nilp)), none⟩, ⟨(some 9), (.mov (.tmp 46)), none⟩]
def f32_r7 : List AStep := [⟨(some 48), (.mov (.tmp 12)), none⟩, ⟨(some 49), (.not (.tmp 48)), none⟩, ⟨(some 47), (.mov (.tmp 49)), none⟩]
def f32_r8 : List AStep := [⟨(some 50), (.mov (.tmp 10)), none⟩, ⟨(some 8), (.mov (.tmp 50)), none⟩, ⟨(some 9), (.mov (.con (.int .i64 0))), none⟩]
def f32_r9 : List AStep := [⟨(some 51), (.mov (.tmp 10)), none⟩, ⟨(some 52), (.mov (.tmp 11)), none⟩, ⟨(some 53), (.call (.con (.func 53 [])) [(.tmp 51), (.tmp 52)]), none⟩]
def f32_l10 : ACode := (.block 1 (.seq (.ops f32_r4) (.seq (.block 2 (.seq (.ops f32_r5) (.cond (.tmp 43) (.seq (.ops f32_r6) .ret) (.seq (.ops f32_r7) (.cond (.tmp 47) (.seq (.ops f32_r8) .ret) .skip))))) (.ops f32_r9))))
def f32_c : ACode := (.seq (.ops f32_r0) (.seq (.seq (.ops f32_r1) (.cond (.tmp 30) (.seq (.ops f32_r2) .ret) .skip)) (.seq (.ops f32_r3) (.block 0 (.loop f32_l10)))))
def f32_a : AFunc := ⟨54, [(.tmp 8), (.tmp 9)], f32_c⟩

/-! 33 -/
def f33_r0 : List AStep := [⟨(some 8), (.mov (.con .nils)), none⟩, ⟨(some 9), (.mov (.con (.int .i64 0))), none⟩]
def f33_r1 : List AStep := [⟨(some 10), (.mov (.con .nils)), none⟩]
def f33_r2 : List AStep := [⟨(some 21), (.mov (.tmp 1)), none⟩, ⟨(some 22), (.mov (.tmp 2)), none⟩, ⟨(some 23), (.bin .lss (.tmp 21) (.tmp 22)), none⟩]
def f33_r3 : List AStep := [⟨(some 24), (.mov (.tmp 0)), none⟩, ⟨(some 25), (.mov (.tmp 1)), none⟩, ⟨(some 26), (.indexAddr 1 (.tmp 24) (.tmp 25)), none⟩, ⟨(some 27), (.load false 1 (.tmp 26)), none⟩, ⟨(some 28), (.sliceT (.tmp 27) (some (.con (.int .i64 1))) none), none⟩, ⟨(some 29), (.build [(.str []), (.int .i64 0)] [(0, (1, (.tmp 28)))]), none⟩, ⟨(some 11), (.alloc [(.str []), (.int .i64 0)]), none⟩, ⟨none, (.store 2 (.tmp 11) (.tmp 29)), none⟩]
def f33_r4 : List AStep := [⟨(some 31), (.load true 2 (.tmp 11)), none⟩, ⟨(some 32), (.call (.con (.func 54 [])) [(.tmp 31)]), none⟩, ⟨(some 30), (.mov (.tmp 32)), none⟩, ⟨(some 33), (.extract (.tmp 30) 0), none⟩, ⟨(some 34), (.extract (.tmp 30) 1), none⟩, ⟨(some 13), (.alloc [(.str []), (.int .i64 0)]), none⟩, ⟨(some 12), (.mov (.tmp 33)), none⟩, ⟨none, (.store 2 (.tmp 13) (.tmp 34)), none⟩]
def f33_r5 : List AStep := [⟨(some 36), (.load true 2 (.tmp 13)), none⟩, ⟨(some 37), (.call (.con (.func 54 [])) [(.tmp 36)]), none⟩, ⟨(some 35), (.mov (.tmp 37)), none⟩, ⟨(some 38), (.extract (.tmp 35) 0), none⟩, ⟨(some 39), (.extract (.tmp 35) 1), none⟩, ⟨(some 15), (.alloc [(.str []), (.int .i64 0)]), none⟩, ⟨(some 14), (.mov (.tmp 38)), none⟩, ⟨none, (.store 2 (.tmp 15) (.tmp 39)), none⟩]
def f33_r6 : List AStep := [⟨(some 41), (.load true 2 (.tmp 15)), none⟩, ⟨(some 42), (.call (.con (.func 54 [])) [(.tmp 41)]), none⟩, ⟨(some 40), (.mov (.tmp 42)), none⟩, ⟨(some 43), (.extract (.tmp 40) 0), none⟩, ⟨(some 44), (.extract (.tmp 40) 1), none⟩, ⟨(some 17), (.alloc [(.str []), (.int .i64 0)]), none⟩, ⟨(some 16), (.mov (.tmp 43)), none⟩, ⟨none, (.store 2 (.tmp 17) (.tmp 44)), none⟩]
def f33_r7 : List AStep := [⟨(some 45), (.mov (.tmp 0)), none⟩, ⟨(some 46), (.mov (.tmp 1)), none⟩, ⟨(some 47), (.indexAddr 1 (.tmp 45) (.tmp 46)), none⟩, ⟨(some 48), (.load false 1 (.tmp 47)), none⟩, ⟨(some 49), (.indexStr (.tmp 48) (.con (.int .i64 0))), none⟩, ⟨(some 50), (.bin .neq (.tmp 49) (.con (.int .u8 1))), none⟩, ⟨(some 51), (.mov (.tmp 50)), none⟩, ⟨(some 52), (.fieldAddr 1 (.tmp 17)), (some (51, false))⟩, ⟨(some 53), (.load false 1 (.tmp 52)), (some (51, false))⟩, ⟨(some 54), (.bin .neq (.tmp 53) (.con (.int .i64 0))), (some (51, false))⟩, ⟨(some 55), (.pick (.tmp 51) (.con (.bool true)) (.tmp 54)), none⟩, ⟨(some 56), (.mov (.tmp 55)), none⟩, ⟨(some 57), (.mov (.tmp 12)), (some (56, false))⟩, ⟨(some 58), (.mov (.tmp 3)), (some (56, false))⟩, ⟨(some 59), (.bin .neq (.tmp 57) (.tmp 58)), (some (56, false))⟩, ⟨(some 60), (.pick (.tmp 56) (.con (.bool true)) (.tmp 59)), none⟩, ⟨(some 61), (.mov (.tmp 60)), none⟩, ⟨(some 62), (.mov (.tmp 14)), (some (61, false))⟩, ⟨(some 63), (.mov (.tmp 10)), (some (61, false))⟩, ⟨(some 64), (.len (.tmp 63)), (some (61, false))⟩, ⟨(some 65), (.cvInt .u64 (.tmp 64)), (some (61, false))⟩, ⟨(some 66), (.bin .neq (.tmp 62) (.tmp 65)), (some (61, false))⟩, ⟨(some 67), (.pick (.tmp 61) (.con (.bool true)) (.tmp 66)), none⟩, ⟨(some 68), (.mov (.tmp 67)), none⟩, ⟨(some 69), (.mov (.tmp 16)), (some (68, false))⟩, ⟨(some 70), (.bin .gtr (.tmp 69) (.con (.int .u64 4096))), (some (68, false))⟩, ⟨(some 71), (.pick (.tmp 68) (.con (.bool true)) (.tmp 70)), none⟩]
def f33_r8 : List AStep := [⟨(some 72), (.mov (.tmp 10)), none⟩, ⟨(some 73), (.mov (.tmp 1)), none⟩, ⟨(some 8), (.mov (.tmp 72)), none⟩, ⟨(some 9), (.mov (.tmp 73)), none⟩]
def f33_r9 : List AStep := [⟨(some 74), (.mov (.tmp 16)), none⟩, ⟨(some 75), (.cvInt .i64 (.tmp 74)), none⟩, ⟨(some 76), (.call (.con (.func 55 [])) [(.tmp 75)]), none⟩, ⟨(some 18), (.mov (.tmp 76)), none⟩]
def f33_r10 : List AStep := [⟨(some 77), (.mov (.tmp 1)), none⟩, ⟨(some 78), (.mov (.tmp 18)), none⟩, ⟨(some 79), (.bin .add (.tmp 77) (.tmp 78)), none⟩, ⟨(some 80), (.mov (.tmp 2)), none⟩, ⟨(some 81), (.bin .gtr (.tmp 79) (.tmp 80)), none⟩]
def f33_r11 : List AStep := [⟨(some 82), (.mov (.tmp 10)), none⟩, ⟨(some 83), (.mov (.tmp 1)), none⟩, ⟨(some 8), (.mov (.tmp 82)), none⟩, ⟨(some 9), (.mov (.tmp 83)), none⟩]
def f33_r12 : List AStep := [⟨(some 19), (.mov (.con (.str []))), none⟩]
def f33_r13 : List AStep := [⟨(some 20), (.mov (.con (.int .i64 1))), none⟩]
def f33_r14 : List AStep := [⟨(some 84), (.mov (.tmp 20)), none⟩, ⟨(some 85), (.mov (.tmp 18)), none⟩, ⟨(some 86), (.bin .lss (.tmp 84) (.tmp 85)), none⟩]
def f33_r15 : List AStep := [⟨(some 89), (.mov (.tmp 0)), none⟩, ⟨(some 90), (.mov (.tmp 1)), none⟩, ⟨(some 91), (.mov (.tmp 20)), none⟩, ⟨(some 92), (.bin .add (.tmp 90) (.tmp 91)), none⟩, ⟨(some 93), (.indexAddr 1 (.tmp 89) (.tmp 92)), none⟩, ⟨(some 94), (.load false 1 (.tmp 93)), none⟩, ⟨(some 95), (.indexStr (.tmp 94) (.con (.int .i64 0))), none⟩, ⟨(some 96), (.bin .neq (.tmp 95) (.con (.int .u8 0))), none⟩]
def f33_r16 : List AStep := [⟨(some 97), (.mov (.tmp 10)), none⟩, ⟨(some 98), (.mov (.tmp 1)), none⟩, ⟨(some 8), (.mov (.tmp 97)), none⟩, ⟨(some 9), (.mov (.tmp 98)), none⟩]
def f33_r17 : List AStep := [⟨(some 99), (.mov (.tmp 19)), none⟩, ⟨(some 100), (.mov (.tmp 0)), none⟩, ⟨(some 101), (.mov (.tmp 1)), none⟩, ⟨(some 102), (.mov (.tmp 20)), none⟩, ⟨(some 103), (.bin .add (.tmp 101) (.tmp 102)), none⟩, ⟨(some 104), (.indexAddr 1 (.tmp 100) (.tmp 103)), none⟩, ⟨(some 105), (.load false 1 (.tmp 104)), none⟩, ⟨(some 106), (.sliceT (.tmp 105) (some (.con (.int .i64 1))) none), none⟩, ⟨(some 107), (.bin .add (.tmp 99) (.tmp 106)), none⟩, ⟨(some 19), (.mov (.tmp 107)), none⟩]
def f33_r18 : List AStep := [⟨(some 87), (.mov (.tmp 20)), none⟩, ⟨(some 88), (.bin .add (.tmp 87) (.con (.int .i64 1))), none⟩, ⟨(some 20), (.mov (.tmp 88)), none⟩]
def f33_l19 : ACode := (.seq (.seq (.ops f33_r14) (.cond (.tmp 86) .skip (.exit 2))) (.seq (.block 3 (.seq (.seq (.ops f33_r15) (.cond (.tmp 96) (.seq (.ops f33_r16) .ret) .skip)) (.ops f33_r17))) (.ops f33_r18)))
def f33_r20 : List AStep := [⟨(some 108), (.mov (.tmp 10)), none⟩, ⟨(some 109), (.mov (.tmp 19)), none⟩, ⟨(some 110), (.mov (.tmp 16)), none⟩, ⟨(some 111), (.sliceT (.tmp 109) none (some (.tmp 110))), none⟩, ⟨(some 112), (.buildSlice 1 1 [(.str [])] [(0, (1, (.tmp 111)))]), none⟩, ⟨(some 113), (.append 1 (.tmp 108) (.tmp 112)), none⟩, ⟨(some 10), (.mov (.tmp 113)), none⟩]
def f33_r21 : List AStep := [⟨(some 114), (.mov (.tmp 1)), none⟩, ⟨(some 115), (.mov (.tmp 18)), none⟩, ⟨(some 116), (.bin .add (.tmp 114) (.tmp 115)), none⟩, ⟨(some 1), (.mov (.tmp 116)), none⟩]
def f33_l22 : ACode := (.seq (.seq (.ops f33_r2) (.cond (.tmp 23) .skip (.exit 0))) (.block 1 (.seq (.ops f33_r3) (.seq (.ops f33_r4) (.seq (.ops f33_r5) (.seq (.ops f33_r6) (.seq (.seq (.ops f33_r7) (.cond (.tmp 71) (.seq (.ops f33_r8) .ret) .skip)) (.seq (.ops f33_r9) (.seq (.seq (.ops f33_r10) (.cond (.tmp 81) (.seq (.ops f33_r11) .ret) .skip)) (.seq (.ops f33_r12) (.seq (.seq (.ops f33_r13) (.block 2 (.loop f33_l19))) (.seq (.ops f33_r20) (.ops f33_r21)))))))))))))
def f33_r23 : List AStep := [⟨(some 117), (.mov (.tmp 10)), none⟩, ⟨(some 118), (.mov (.tmp 1)), none⟩, ⟨(some 8), (.mov (.tmp 117)), none⟩, ⟨(some 9), (.mov (.tmp 118)), none⟩]
def f33_c : ACode := (.seq (.ops f33_r0) (.seq (.ops f33_r1) (.seq (.block 0 (.loop f33_l22)) (.seq (.ops f33_r23) .ret))))
def f33_a : AFunc := ⟨119, [(.tmp 8), (.tmp 9)], f33_c⟩

/-! 34 -/
def f34_r0 : List AStep := [⟨(some 2), (.mov (.con .nils)), none⟩]
def f34_r1 : List AStep := [⟨(some 3), (.mov (.con .nils)), none⟩]
def f34_r2 : List AStep := [⟨(some 4), (.mov (.con (.int .i64 0))), none⟩]
def f34_r3 : List AStep := [⟨(some 7), (.mov (.tmp 4)), none⟩, ⟨(some 8), (.mov (.tmp 0)), none⟩, ⟨(some 9), (.call (.con (.func 29 [])) [(.tmp 8)]), none⟩, ⟨(some 10), (.bin .lss (.tmp 7) (.tmp 9)), none⟩]
def f34_r4 : List AStep := [⟨(some 14), (.mov (.tmp 0)), none⟩, ⟨(some 15), (.mov (.tmp 4)), none⟩, ⟨(some 16), (.call (.con (.func 26 [])) [(.tmp 14), (.tmp 15)]), none⟩, ⟨(some 13), (.mov (.tmp 16)), none⟩, ⟨(some 17), (.extract (.tmp 13) 0), none⟩, ⟨(some 18), (.extract (.tmp 13) 1), none⟩, ⟨(some 5), (.mov (.tmp 17)), none⟩, ⟨(some 6), (.mov (.tmp 18)), none⟩]
def f34_r5 : List AStep := [⟨(some 19), (.mov (.tmp 3)), none⟩, ⟨(some 20), (.mov (.tmp 5)), none⟩, ⟨(some 21), (.cvB2S (.tmp 20)), none⟩, ⟨(some 22), (.buildSlice 1 1 [(.str [])] [(0, (1, (.tmp 21)))]), none⟩, ⟨(some 23), (.append 1 (.tmp 19) (.tmp 22)), none⟩, ⟨(some 3), (.mov (.tmp 23)), none⟩]
def f34_r6 : List AStep := [⟨(some 11), (.mov (.tmp 4)), none⟩, ⟨(some 12), (.bin .add (.tmp 11) (.con (.int .i64 1))), none⟩, ⟨(some 4), (.mov (.tmp 12)), none⟩]
def f34_l7 : ACode := (.seq (.seq (.ops f34_r3) (.cond (.tmp 10) .skip (.exit 0))) (.seq (.block 1 (.seq (.ops f34_r4) (.ops f34_r5))) (.ops f34_r6)))
def f34_r8 : List AStep := [⟨(some 24), (.mov (.tmp 3)), none⟩, ⟨(some 2), (.mov (.tmp 24)), none⟩]
def f34_c : ACode := (.seq (.ops f34_r0) (.seq (.ops f34_r1) (.seq (.seq (.ops f34_r2) (.block 0 (.loop f34_l7))) (.seq (.ops f34_r8) .ret))))
def f34_a : AFunc := ⟨25, [(.tmp 2)], f34_c⟩

/-! 35 -/
def f35_r0 : List AStep := [⟨(some 4), (.mov (.con (.bool false))), none⟩]
def f35_r1 : List AStep := [⟨(some 6), (.mov (.tmp 0)), none⟩, ⟨(some 7), (.len (.tmp 6)), none⟩, ⟨(some 8), (.mov (.tmp 1)), none⟩, ⟨(some 9), (.len (.tmp 8)), none⟩, ⟨(some 10), (.bin .neq (.tmp 7) (.tmp 9)), none⟩]
def f35_r2 : List AStep := [⟨(some 4), (.mov (.con (.bool false))), none⟩]
def f35_r3 : List AStep := [⟨(some 5), (.mov (.con (.int .i64 0))), none⟩]
def f35_r4 : List AStep := [⟨(some 11), (.mov (.tmp 5)), none⟩, ⟨(some 12), (.mov (.tmp 0)), none⟩, ⟨(some 13), (.len (.tmp 12)), none⟩, ⟨(some 14), (.bin .lss (.tmp 11) (.tmp 13)), none⟩]
def f35_r5 : List DStep := [⟨0, 0, ⟨(some 17), (.mov (.tmp 0)), none⟩⟩, ⟨1, 0, ⟨(some 18), (.mov (.tmp 5)), none⟩⟩, ⟨2, 3, ⟨(some 19), (.indexAddr 1 (.tmp 17) (.tmp 18)), none⟩⟩, ⟨3, 7, ⟨(some 20), (.load false 1 (.tmp 19)), none⟩⟩, ⟨4, 15, ⟨(some 21), (.cvB2S (.tmp 20)), none⟩⟩, ⟨5, 0, ⟨(some 22), (.mov (.tmp 1)), none⟩⟩, ⟨6, 0, ⟨(some 23), (.mov (.tmp 5)), none⟩⟩, ⟨7, 96, ⟨(some 24), (.indexAddr 1 (.tmp 22) (.tmp 23)), none⟩⟩, ⟨8, 224, ⟨(some 25), (.load false 1 (.tmp 24)), none⟩⟩, ⟨9, 511, ⟨(some 26), (.bin .neq (.tmp 21) (.tmp 25)), none⟩⟩]
def f35_r6 : List AStep := [⟨(some 4), (.mov (.con (.bool false))), none⟩]
def f35_r7 : List AStep := [⟨(some 15), (.mov (.tmp 5)), none⟩, ⟨(some 16), (.bin .add (.tmp 15) (.con (.int .i64 1))), none⟩, ⟨(some 5), (.mov (.tmp 16)), none⟩]
def f35_l8 : ACode := (.seq (.seq (.ops f35_r4) (.cond (.tmp 14) .skip (.exit 0))) (.seq (.block 1 (.seq (.draw f35_r5) (.cond (.tmp 26) (.seq (.ops f35_r6) .ret) .skip))) (.ops f35_r7)))
def f35_r9 : List AStep := [⟨(some 4), (.mov (.con (.bool true))), none⟩]
def f35_c : ACode := (.seq (.ops f35_r0) (.seq (.seq (.ops f35_r1) (.cond (.tmp 10) (.seq (.ops f35_r2) .ret) .skip)) (.seq (.seq (.ops f35_r3) (.block 0 (.loop f35_l8))) (.seq (.ops f35_r9) .ret))))
def f35_a : AFunc := ⟨27, [(.tmp 4)], f35_c⟩

/-! 36 -/
def f36_r0 : List AStep := [⟨(some 2), (.mov (.con .nils)), none⟩]
def f36_r1 : List AStep := [⟨(some 6), (.mov (.tmp 0)), none⟩, ⟨(some 7), (.eq .ptr false (.tmp 6) (.con .nilp)), none⟩]
def f36_r2 : List AStep := [⟨(some 2), (.mov (.con .nils)), none⟩]
def f36_r3 : List AStep := [⟨(some 3), (.mov (.con .nils)), none⟩]
def f36_r4 : List AStep := [⟨(some 8), (.mov (.tmp 0)), none⟩, ⟨(some 9), (.nilCheck (.tmp 8)), none⟩, ⟨(some 10), (.fieldAddr 4 (.tmp 9)), none⟩, ⟨(some 11), (.load false 1 (.tmp 10)), none⟩, ⟨(some 12), (.len (.tmp 11)), none⟩, ⟨(some 13), (.mov (.con (.int .i64 0))), none⟩]
def f36_r5 : List AStep := [⟨(some 14), (.bin .lss (.tmp 13) (.tmp 12)), none⟩]
def f36_r6 : List AStep := [⟨(some 15), (.indexAddr 1 (.tmp 11) (.tmp 13)), none⟩, ⟨(some 16), (.load false 1 (.tmp 15)), none⟩, ⟨(some 5), (.mov (.tmp 16)), none⟩]
def f36_r7 : List AStep := [⟨(some 17), (.mov (.tmp 3)), none⟩, ⟨(some 18), (.mov (.tmp 5)), none⟩, ⟨(some 19), (.call (.con (.func 50 [])) [(.tmp 18)]), none⟩, ⟨(some 20), (.buildSlice 1 1 [.nils] [(0, (1, (.tmp 19)))]), none⟩, ⟨(some 21), (.append 1 (.tmp 17) (.tmp 20)), none⟩, ⟨(some 3), (.mov (.tmp 21)), none⟩]
def f36_r8 : List AStep := [⟨(some 22), (.bin .add (.tmp 13) (.con (.int .i64 1))), none⟩, ⟨(some 13), (.mov (.tmp 22)), none⟩]
def f36_l9 : ACode := (.seq (.ops f36_r5) (.seq (.cond (.tmp 14) .skip (.exit 0)) (.seq (.block 1 (.seq (.ops f36_r6) (.ops f36_r7))) (.ops f36_r8))))
def f36_r10 : List AStep := [⟨(some 23), (.mov (.tmp 3)), none⟩, ⟨(some 2), (.mov (.tmp 23)), none⟩]
def f36_c : ACode := (.seq (.ops f36_r0) (.seq (.seq (.ops f36_r1) (.cond (.tmp 7) (.seq (.ops f36_r2) .ret) .skip)) (.seq (.ops f36_r3) (.seq (.seq (.ops f36_r4) (.block 0 (.loop f36_l9))) (.seq (.ops f36_r10) .ret)))))
def f36_a : AFunc := ⟨24, [(.tmp 2)], f36_c⟩

/-! 37 -/
def f37_r0 : List AStep := [⟨(some 2), (.mov (.con (.int .i64 0))), none⟩]
def f37_r1 : List AStep := [⟨(some 3), (.mov (.tmp 0)), none⟩, ⟨(some 4), (.eq .ptr false (.tmp 3) (.con .nilp)), none⟩]
def f37_r2 : List AStep := [⟨(some 2), (.mov (.con (.int .i64 0))), none⟩]
def f37_r3 : List DStep := [⟨0, 0, ⟨(some 5), (.mov (.tmp 0)), none⟩⟩, ⟨1, 1, ⟨(some 6), (.nilCheck (.tmp 5)), none⟩⟩, ⟨2, 3, ⟨(some 7), (.fieldAddr 2 (.tmp 6)), none⟩⟩, ⟨3, 7, ⟨(some 8), (.load false 1 (.tmp 7)), none⟩⟩, ⟨4, 0, ⟨(some 9), (.mov (.tmp 0)), none⟩⟩, ⟨5, 16, ⟨(some 10), (.nilCheck (.tmp 9)), none⟩⟩, ⟨6, 48, ⟨(some 11), (.fieldAddr 1 (.tmp 10)), none⟩⟩, ⟨7, 112, ⟨(some 12), (.load false 1 (.tmp 11)), none⟩⟩, ⟨8, 255, ⟨(some 13), (.bin .sub (.tmp 8) (.tmp 12)), none⟩⟩, ⟨9, 511, ⟨(some 2), (.mov (.tmp 13)), none⟩⟩]
def f37_c : ACode := (.seq (.ops f37_r0) (.seq (.seq (.ops f37_r1) (.cond (.tmp 4) (.seq (.ops f37_r2) .ret) .skip)) (.seq (.draw f37_r3) .ret)))
def f37_a : AFunc := ⟨14, [(.tmp 2)], f37_c⟩

/-! 38 -/
def f38_r0 : List AStep := [⟨(some 2), (.mov (.con (.bool false))), none⟩]
def f38_r1 : List AStep := [⟨(some 3), (.mov (.con (.int .i64 0))), none⟩]
def f38_r2 : List AStep := [⟨(some 4), (.mov (.tmp 3)), none⟩, ⟨(some 5), (.mov (.tmp 0)), none⟩, ⟨(some 6), (.len (.tmp 5)), none⟩, ⟨(some 7), (.bin .lss (.tmp 4) (.tmp 6)), none⟩]
def f38_r3 : List AStep := [⟨(some 10), (.mov (.tmp 0)), none⟩, ⟨(some 11), (.mov (.tmp 3)), none⟩, ⟨(some 12), (.indexAddr 1 (.tmp 10) (.tmp 11)), none⟩, ⟨(some 13), (.load false 1 (.tmp 12)), none⟩, ⟨(some 14), (.len (.tmp 13)), none⟩, ⟨(some 15), (.bin .gtr (.tmp 14) (.con (.int .i64 300))), none⟩]
def f38_r4 : List AStep := [⟨(some 2), (.mov (.con (.bool false))), none⟩]
def f38_r5 : List AStep := [⟨(some 8), (.mov (.tmp 3)), none⟩, ⟨(some 9), (.bin .add (.tmp 8) (.con (.int .i64 1))), none⟩, ⟨(some 3), (.mov (.tmp 9)), none⟩]
def f38_l6 : ACode := (.seq (.seq (.ops f38_r2) (.cond (.tmp 7) .skip (.exit 0))) (.seq (.block 1 (.seq (.ops f38_r3) (.cond (.tmp 15) (.seq (.ops f38_r4) .ret) .skip))) (.ops f38_r5)))
def f38_r7 : List AStep := [⟨(some 16), (.mov (.tmp 0)), none⟩, ⟨(some 17), (.len (.tmp 16)), none⟩, ⟨(some 18), (.bin .leq (.tmp 17) (.con (.int .i64 12))), none⟩, ⟨(some 2), (.mov (.tmp 18)), none⟩]
def f38_c : ACode := (.seq (.ops f38_r0) (.seq (.seq (.ops f38_r1) (.block 0 (.loop f38_l6))) (.seq (.ops f38_r7) .ret)))
def f38_a : AFunc := ⟨19, [(.tmp 2)], f38_c⟩

/-! 39 -/
def f39_r0 : List AStep := [⟨(some 2), (.box (.tmp 0)), none⟩, ⟨(some 4), (.alloc [(.int .i64 0)]), none⟩]
def f39_r1 : List AStep := [⟨(some 13), (.load false 1 (.tmp 2)), none⟩, ⟨(some 14), (.eq .ptr false (.tmp 13) (.con .nilp)), none⟩, ⟨(some 12), (.mov (.tmp 14)), none⟩]
def f39_r2 : List AStep := [⟨none, (.store 1 (.tmp 4) (.con (.int .i64 1))), none⟩]
def f39_r3 : List AStep := [⟨(some 16), (.mov (.tmp 1)), none⟩, ⟨(some 17), (.len (.tmp 16)), none⟩, ⟨(some 18), (.bin .gtr (.tmp 17) (.con (.int .i64 4096))), none⟩, ⟨(some 15), (.mov (.tmp 18)), none⟩]
def f39_r4 : List AStep := [⟨none, (.store 1 (.tmp 4) (.con (.int .i64 13))), none⟩]
def f39_r5 : List DStep := [⟨0, 0, ⟨(some 20), (.mov (.tmp 1)), none⟩⟩, ⟨1, 1, ⟨(some 21), (.len (.tmp 20)), none⟩⟩, ⟨3, 0, ⟨(some 23), (.load false 1 (.tmp 2)), none⟩⟩, ⟨2, 3, ⟨(some 22), (.call (.con (.func 40 [])) [(.tmp 21)]), none⟩⟩, ⟨4, 15, ⟨(some 24), (.call (.con (.func 37 [])) [(.tmp 23)]), none⟩⟩, ⟨5, 31, ⟨(some 25), (.bin .gtr (.tmp 22) (.tmp 24)), none⟩⟩, ⟨6, 63, ⟨(some 19), (.mov (.tmp 25)), none⟩⟩]
def f39_r6 : List AStep := [⟨none, (.store 1 (.tmp 4) (.con (.int .i64 21))), none⟩]
def f39_r7 : List AStep := [⟨(some 26), (.load false 1 (.tmp 2)), none⟩, ⟨(some 27), (.mov (.tmp 1)), none⟩, ⟨(some 28), (.call (.con (.func 56 [])) [(.tmp 26), (.tmp 27)]), none⟩]
def f39_r8 : List AStep := [⟨(some 5), (.mov (.tmp 29)), none⟩]
def f39_r9 : List AStep := [⟨(some 6), (.mov (.tmp 30)), none⟩]
def f39_r10 : List AStep := [⟨(some 31), (.load false 1 (.tmp 2)), none⟩, ⟨(some 32), (.nilCheck (.tmp 31)), none⟩, ⟨(some 33), (.fieldAddr 0 (.tmp 32)), none⟩, ⟨(some 34), (.load false 1 (.tmp 33)), none⟩, ⟨(some 35), (.mov (.tmp 5)), none⟩, ⟨(some 36), (.mov (.tmp 6)), none⟩, ⟨(some 37), (.call (.con (.func 17 [])) [(.tmp 34), (.tmp 35), (.tmp 36)]), none⟩, ⟨(some 7), (.mov (.tmp 37)), none⟩]
def f39_r11 : List AStep := [⟨(some 38), (.mov (.tmp 7)), none⟩, ⟨(some 39), (.bin .neq (.tmp 38) (.con (.int .i64 0))), none⟩]
def f39_r12 : List AStep := [⟨(some 40), (.mov (.tmp 7)), none⟩, ⟨none, (.store 1 (.tmp 4) (.tmp 40)), none⟩]
def f39_l13 : ACode := (.seq (.ops f39_r8) (.ops f39_r9))
def f39_l14 : ACode := (.block 2 (.seq (.ops f39_r10) (.seq (.ops f39_r11) (.cond (.tmp 39) (.seq (.ops f39_r12) .ret) .skip))))
def f39_r15 : List AStep := [⟨(some 41), (.load false 1 (.tmp 2)), none⟩, ⟨(some 42), (.nilCheck (.tmp 41)), none⟩, ⟨(some 43), (.fieldAddr 0 (.tmp 42)), none⟩, ⟨(some 44), (.load false 1 (.tmp 43)), none⟩, ⟨(some 45), (.call (.con (.func 19 [])) [(.tmp 44)]), none⟩, ⟨(some 8), (.mov (.tmp 45)), none⟩]
def f39_r16 : List AStep := [⟨(some 46), (.mov (.tmp 8)), none⟩, ⟨(some 47), (.bin .neq (.tmp 46) (.con (.int .i64 0))), none⟩]
def f39_r17 : List AStep := [⟨(some 48), (.mov (.tmp 8)), none⟩, ⟨none, (.store 1 (.tmp 4) (.tmp 48)), none⟩]
def f39_r18 : List DStep := [⟨0, 0, ⟨(some 49), (.load false 1 (.tmp 2)), none⟩⟩, ⟨1, 1, ⟨(some 50), (.nilCheck (.tmp 49)), none⟩⟩, ⟨2, 3, ⟨(some 51), (.fieldAddr 3 (.tmp 50)), none⟩⟩, ⟨3, 7, ⟨(some 52), (.load false 1 (.tmp 51)), none⟩⟩, ⟨4, 0, ⟨(some 53), (.load false 1 (.tmp 2)), none⟩⟩, ⟨5, 16, ⟨(some 54), (.nilCheck (.tmp 53)), none⟩⟩, ⟨6, 48, ⟨(some 55), (.fieldAddr 4 (.tmp 54)), none⟩⟩, ⟨7, 112, ⟨(some 56), (.load false 1 (.tmp 55)), none⟩⟩, ⟨8, 240, ⟨(some 57), (.len (.tmp 56)), none⟩⟩, ⟨9, 496, ⟨(some 58), (.cvInt .u64 (.tmp 57)), none⟩⟩, ⟨10, 0, ⟨(some 59), (.mov (.tmp 1)), none⟩⟩, ⟨11, 1024, ⟨(some 60), (.len (.tmp 59)), none⟩⟩, ⟨12, 3072, ⟨(some 61), (.cvInt .u64 (.tmp 60)), none⟩⟩, ⟨13, 8191, ⟨(some 62), (.build [(.int .u64 0), (.int .u64 0), (.int .u64 0)] [(0, (1, (.tmp 52))), (1, (1, (.tmp 58))), (2, (1, (.tmp 61)))]), none⟩⟩, ⟨14, 0, ⟨(some 9), (.alloc [(.int .u64 0), (.int .u64 0), (.int .u64 0)]), none⟩⟩, ⟨15, 32767, ⟨none, (.store 3 (.tmp 9) (.tmp 62)), none⟩⟩]
def f39_r19 : List DStep := [⟨0, 0, ⟨(some 63), (.load false 1 (.tmp 2)), none⟩⟩, ⟨1, 1, ⟨(some 64), (.nilCheck (.tmp 63)), none⟩⟩, ⟨2, 3, ⟨(some 65), (.fieldAddr 0 (.tmp 64)), none⟩⟩, ⟨3, 7, ⟨(some 66), (.load false 1 (.tmp 65)), none⟩⟩, ⟨4, 0, ⟨(some 67), (.load false 1 (.tmp 2)), none⟩⟩, ⟨5, 16, ⟨(some 68), (.nilCheck (.tmp 67)), none⟩⟩, ⟨6, 48, ⟨(some 69), (.fieldAddr 1 (.tmp 68)), none⟩⟩, ⟨7, 112, ⟨(some 70), (.load false 1 (.tmp 69)), none⟩⟩, ⟨8, 0, ⟨(some 71), (.load true 3 (.tmp 9)), none⟩⟩, ⟨9, 256, ⟨(some 72), (.call (.con (.func 57 [])) [(.tmp 71)]), none⟩⟩, ⟨10, 1023, ⟨(some 73), (.call (.con (.func 17 [])) [(.tmp 66), (.tmp 70), (.tmp 72)]), none⟩⟩, ⟨11, 2047, ⟨(some 10), (.mov (.tmp 73)), none⟩⟩]
def f39_r20 : List AStep := [⟨(some 74), (.mov (.tmp 10)), none⟩, ⟨(some 75), (.bin .neq (.tmp 74) (.con (.int .i64 0))), none⟩]
def f39_r21 : List AStep := [⟨(some 76), (.mov (.tmp 10)), none⟩, ⟨none, (.store 1 (.tmp 4) (.tmp 76)), none⟩]
def f39_r22 : List AStep := [⟨(some 77), (.load false 1 (.tmp 2)), none⟩, ⟨(some 78), (.nilCheck (.tmp 77)), none⟩, ⟨(some 79), (.fieldAddr 0 (.tmp 78)), none⟩, ⟨(some 80), (.load false 1 (.tmp 79)), none⟩, ⟨(some 81), (.call (.con (.func 19 [])) [(.tmp 80)]), none⟩, ⟨(some 11), (.mov (.tmp 81)), none⟩]
def f39_r23 : List AStep := [⟨(some 82), (.mov (.tmp 11)), none⟩, ⟨(some 83), (.bin .neq (.tmp 82) (.con (.int .i64 0))), none⟩]
def f39_r24 : List AStep := [⟨(some 84), (.mov (.tmp 11)), none⟩, ⟨none, (.store 1 (.tmp 4) (.tmp 84)), none⟩]
def f39_r25 : List DStep := [⟨0, 0, ⟨(some 85), (.load false 1 (.tmp 2)), none⟩⟩, ⟨1, 0, ⟨(some 86), (.mov (.tmp 1)), none⟩⟩, ⟨2, 2, ⟨(some 87), (.call (.con (.func 50 [])) [(.tmp 86)]), none⟩⟩, ⟨3, 7, ⟨(some 88), (.call (.con (.func 53 [])) [(.tmp 85), (.tmp 87)]), none⟩⟩]
def f39_r26 : List AStep := [⟨none, (.store 1 (.tmp 4) (.con (.int .i64 0))), none⟩]
def f39_c : ACode := (.seq (.ops f39_r0) (.seq (.block 0 (.seq (.ops f39_r1) (.cond (.tmp 12) (.seq (.ops f39_r2) .ret) (.seq (.ops f39_r3) (.cond (.tmp 15) (.seq (.ops f39_r4) .ret) (.seq (.draw f39_r5) (.cond (.tmp 19) (.seq (.ops f39_r6) .ret) .skip))))))) (.seq (.seq (.ops f39_r7) (.block 1 (.range 89 (.tmp 28) [29, 30] f39_l13 f39_l14))) (.seq (.seq (.ops f39_r15) (.seq (.ops f39_r16) (.cond (.tmp 47) (.seq (.ops f39_r17) .ret) .skip))) (.seq (.draw f39_r18) (.seq (.seq (.draw f39_r19) (.seq (.ops f39_r20) (.cond (.tmp 75) (.seq (.ops f39_r21) .ret) .skip))) (.seq (.seq (.ops f39_r22) (.seq (.ops f39_r23) (.cond (.tmp 83) (.seq (.ops f39_r24) .ret) .skip))) (.seq (.draw f39_r25) (.seq (.ops f39_r26) .ret)))))))))
def f39_a : AFunc := ⟨89, [(.cell 4 false 1)], f39_c⟩

/-! 40 -/
def f40_r0 : List AStep := [⟨(some 2), (.mov (.con (.int .i64 0))), none⟩]
def f40_r1 : List AStep := [⟨(some 3), (.mov (.tmp 0)), none⟩, ⟨(some 4), (.max (.tmp 3) (.con (.int .i64 0))), none⟩, ⟨(some 5), (.bin .add (.tmp 4) (.con (.int .i64 63))), none⟩, ⟨(some 6), (.bin .sub (.tmp 5) (.con (.int .i64 1))), none⟩, ⟨(some 7), (.bin .quo (.tmp 6) (.con (.int .i64 63))), none⟩, ⟨(some 8), (.bin .add (.con (.int .i64 1)) (.tmp 7)), none⟩, ⟨(some 2), (.mov (.tmp 8)), none⟩]
def f40_c : ACode := (.seq (.ops f40_r0) (.seq (.ops f40_r1) .ret))
def f40_a : AFunc := ⟨9, [(.tmp 2)], f40_c⟩

/-! 41 -/
def f41_r0 : List AStep := [⟨(some 6), (.mov (.con .nils)), none⟩]
def f41_r1 : List AStep := [⟨(some 7), (.mov (.con .nils)), none⟩]
def f41_r2 : List AStep := [⟨(some 9), (.mov (.tmp 7)), none⟩, ⟨(some 10), (.mov (.tmp 0)), none⟩, ⟨(some 11), (.mov (.tmp 1)), none⟩, ⟨(some 12), (.mov (.tmp 2)), none⟩, ⟨(some 13), (.lenT (.tmp 12)), none⟩, ⟨(some 14), (.call (.con (.func 31 [])) [(.tmp 10), (.tmp 11), (.tmp 13)]), none⟩, ⟨(some 15), (.buildSlice 1 1 [(.str [])] [(0, (1, (.tmp 14)))]), none⟩, ⟨(some 16), (.append 1 (.tmp 9) (.tmp 15)), none⟩, ⟨(some 7), (.mov (.tmp 16)), none⟩]
def f41_r3 : List AStep := [⟨(some 17), (.mov (.tmp 2)), none⟩, ⟨(some 18), (.bin .neq (.tmp 17) (.con (.str []))), none⟩]
def f41_r4 : List AStep := [⟨(some 19), (.mov (.tmp 2)), none⟩, ⟨(some 20), (.lenT (.tmp 19)), none⟩, ⟨(some 21), (.min (.tmp 20) (.con (.int .i64 63))), none⟩, ⟨(some 8), (.mov (.tmp 21)), none⟩]
def f41_r5 : List AStep := [⟨(some 22), (.mov (.tmp 7)), none⟩, ⟨(some 23), (.mov (.tmp 2)), none⟩, ⟨(some 24), (.mov (.tmp 8)), none⟩, ⟨(some 25), (.sliceT (.tmp 23) none (some (.tmp 24))), none⟩, ⟨(some 26), (.bin .add (.con (.str [0])) (.tmp 25)), none⟩, ⟨(some 27), (.call (.con (.func 42 [])) [(.tmp 26)]), none⟩, ⟨(some 28), (.buildSlice 1 1 [(.str [])] [(0, (1, (.tmp 27)))]), none⟩, ⟨(some 29), (.append 1 (.tmp 22) (.tmp 28)), none⟩, ⟨(some 7), (.mov (.tmp 29)), none⟩]
def f41_r6 : List AStep := [⟨(some 30), (.mov (.tmp 2)), none⟩, ⟨(some 31), (.mov (.tmp 8)), none⟩, ⟨(some 32), (.sliceT (.tmp 30) (some (.tmp 31)) none), none⟩, ⟨(some 2), (.mov (.tmp 32)), none⟩]
def f41_l7 : ACode := (.seq (.seq (.ops f41_r3) (.cond (.tmp 18) .skip (.exit 0))) (.block 1 (.seq (.ops f41_r4) (.seq (.ops f41_r5) (.ops f41_r6)))))
def f41_r8 : List AStep := [⟨(some 33), (.mov (.tmp 7)), none⟩, ⟨(some 6), (.mov (.tmp 33)), none⟩]
def f41_c : ACode := (.seq (.ops f41_r0) (.seq (.ops f41_r1) (.seq (.ops f41_r2) (.seq (.block 0 (.loop f41_l7)) (.seq (.ops f41_r8) .ret)))))
def f41_a : AFunc := ⟨34, [(.tmp 6)], f41_c⟩

/-! 42 -/
def f42_r0 : List AStep := [⟨(some 2), (.mov (.con (.str []))), none⟩]
def f42_r1 : List AStep := [⟨(some 3), (.mov (.tmp 0)), none⟩, ⟨(some 4), (.lenT (.tmp 3)), none⟩, ⟨(some 5), (.bin .lss (.tmp 4) (.con (.int .i64 64))), none⟩]
def f42_r2 : List AStep := [⟨(some 6), (.mov (.tmp 0)), none⟩, ⟨(some 7), (.bin .add (.tmp 6) (.con (.str [0]))), none⟩, ⟨(some 0), (.mov (.tmp 7)), none⟩]
def f42_l3 : ACode := (.seq (.seq (.ops f42_r1) (.cond (.tmp 5) .skip (.exit 0))) (.block 1 (.ops f42_r2)))
def f42_r4 : List AStep := [⟨(some 8), (.mov (.tmp 0)), none⟩, ⟨(some 2), (.mov (.tmp 8)), none⟩]
def f42_c : ACode := (.seq (.ops f42_r0) (.seq (.block 0 (.loop f42_l3)) (.seq (.ops f42_r4) .ret)))
def f42_a : AFunc := ⟨9, [(.tmp 2)], f42_c⟩

/-! 43 -/
def f43_r0 : List AStep := [⟨(some 4), (.mov (.con (.bool false))), none⟩]
def f43_r1 : List AStep := [⟨(some 5), (.mov (.tmp 1)), none⟩, ⟨(some 6), (.bin .geq (.tmp 5) (.con (.int .i64 0))), none⟩, ⟨(some 7), (.mov (.tmp 6)), none⟩, ⟨(some 8), (.mov (.tmp 1)), (some (7, true))⟩, ⟨(some 9), (.mov (.tmp 0)), (some (7, true))⟩, ⟨(some 10), (.call (.con (.func 29 [])) [(.tmp 9)]), (some (7, true))⟩, ⟨(some 11), (.bin .lss (.tmp 8) (.tmp 10)), (some (7, true))⟩, ⟨(some 12), (.pick (.tmp 7) (.tmp 11) (.con (.bool false))), none⟩, ⟨(some 4), (.mov (.tmp 12)), none⟩]
def f43_c : ACode := (.seq (.ops f43_r0) (.seq (.ops f43_r1) .ret))
def f43_a : AFunc := ⟨13, [(.tmp 4)], f43_c⟩

/-! 44 -/
def f44_r0 : List AStep := [⟨(some 2), (.mov (.con (.bool false))), none⟩]
def f44_r1 : List AStep := [⟨(some 3), (.mov (.tmp 0)), none⟩, ⟨(some 4), (.nilCheck (.tmp 3)), none⟩, ⟨(some 5), (.fieldAddr 2 (.tmp 4)), none⟩, ⟨(some 6), (.load false 1 (.tmp 5)), none⟩, ⟨(some 7), (.bin .gtr (.tmp 6) (.con (.int .i64 0))), none⟩]
def f44_r2 : List AStep := [⟨(some 8), (.mov (.tmp 0)), none⟩, ⟨(some 9), (.nilCheck (.tmp 8)), none⟩, ⟨(some 10), (.fieldAddr 2 (.tmp 9)), none⟩, ⟨(some 11), (.load false 1 (.tmp 10)), none⟩, ⟨(some 12), (.bin .sub (.tmp 11) (.con (.int .i64 1))), none⟩, ⟨(some 13), (.nilCheck (.tmp 8)), none⟩, ⟨(some 14), (.fieldAddr 2 (.tmp 13)), none⟩, ⟨none, (.store 1 (.tmp 14) (.tmp 12)), none⟩]
def f44_r3 : List AStep := [⟨(some 15), (.mov (.tmp 0)), none⟩, ⟨(some 16), (.mov (.tmp 0)), none⟩, ⟨(some 17), (.nilCheck (.tmp 16)), none⟩, ⟨(some 18), (.fieldAddr 2 (.tmp 17)), none⟩, ⟨(some 19), (.load false 1 (.tmp 18)), none⟩, ⟨(some 20), (.bin .eql (.tmp 19) (.con (.int .i64 0))), none⟩, ⟨(some 21), (.nilCheck (.tmp 15)), none⟩, ⟨(some 22), (.fieldAddr 3 (.tmp 21)), none⟩, ⟨none, (.store 1 (.tmp 22) (.tmp 20)), none⟩]
def f44_r4 : List AStep := [⟨(some 23), (.mov (.tmp 0)), none⟩, ⟨(some 24), (.nilCheck (.tmp 23)), none⟩, ⟨(some 25), (.fieldAddr 3 (.tmp 24)), none⟩, ⟨(some 26), (.load false 1 (.tmp 25)), none⟩, ⟨(some 2), (.mov (.tmp 26)), none⟩]
def f44_c : ACode := (.seq (.ops f44_r0) (.seq (.seq (.ops f44_r1) (.cond (.tmp 7) (.seq (.ops f44_r2) (.ops f44_r3)) .skip)) (.seq (.ops f44_r4) .ret)))
def f44_a : AFunc := ⟨27, [(.tmp 2)], f44_c⟩

/-! 45 -/
def f45_r0 : List AStep := [⟨(some 1), (.box (.tmp 0)), none⟩, ⟨(some 2), (.alloc [.nils, .nils, (.int .i64 0), (.bool false)]), none⟩]
def f45_r1 : List AStep := [⟨(some 3), (.fieldAddr 2 (.tmp 1)), none⟩, ⟨(some 4), (.load false 1 (.tmp 3)), none⟩, ⟨(some 5), (.bin .eql (.tmp 4) (.con (.int .i64 1))), none⟩]
def f45_r2 : List AStep := [⟨(some 6), (.fieldAddr 3 (.tmp 1)), none⟩, ⟨none, (.store 1 (.tmp 6) (.con (.bool true))), none⟩]
def f45_r3 : List AStep := [⟨(some 7), (.fieldAddr 2 (.tmp 1)), none⟩, ⟨(some 8), (.load false 1 (.tmp 7)), none⟩, ⟨(some 9), (.bin .gtr (.tmp 8) (.con (.int .i64 0))), none⟩]
def f45_r4 : List AStep := [⟨(some 10), (.fieldAddr 2 (.tmp 1)), none⟩, ⟨(some 11), (.load false 1 (.tmp 10)), none⟩, ⟨(some 12), (.bin .sub (.tmp 11) (.con (.int .i64 1))), none⟩, ⟨(some 13), (.fieldAddr 2 (.tmp 1)), none⟩, ⟨none, (.store 1 (.tmp 13) (.tmp 12)), none⟩]
def f45_r5 : List AStep := [⟨(some 14), (.load true 4 (.tmp 1)), none⟩, ⟨none, (.store 4 (.tmp 2) (.tmp 14)), none⟩]
def f45_c : ACode := (.seq (.ops f45_r0) (.seq (.seq (.ops f45_r1) (.cond (.tmp 5) (.ops f45_r2) .skip)) (.seq (.seq (.ops f45_r3) (.cond (.tmp 9) (.ops f45_r4) .skip)) (.seq (.ops f45_r5) .ret))))
def f45_a : AFunc := ⟨15, [(.cell 2 true 4)], f45_c⟩

/-! 46 -/
def f46_r0 : List AStep := [⟨(some 3), (.box (.tmp 1)), none⟩]
def f46_r1 : List DStep := [⟨0, 0, ⟨(some 4), (.mov (.tmp 0)), none⟩⟩, ⟨1, 1, ⟨(some 5), (.nilCheck (.tmp 4)), none⟩⟩, ⟨2, 3, ⟨(some 6), (.fieldAddr 0 (.tmp 5)), none⟩⟩, ⟨3, 7, ⟨(some 7), (.load false 1 (.tmp 6)), none⟩⟩, ⟨4, 0, ⟨(some 8), (.fieldAddr 0 (.tmp 3)), none⟩⟩, ⟨5, 16, ⟨(some 9), (.load false 1 (.tmp 8)), none⟩⟩, ⟨6, 0, ⟨(some 10), (.fieldAddr 1 (.tmp 3)), none⟩⟩, ⟨7, 64, ⟨(some 11), (.load true 64 (.tmp 10)), none⟩⟩, ⟨8, 255, ⟨(some 12), (.indexAddr 64 (.tmp 7) (.tmp 9)), none⟩⟩, ⟨9, 511, ⟨none, (.store 64 (.tmp 12) (.tmp 11)), none⟩⟩]
def f46_c : ACode := (.seq (.ops f46_r0) (.draw f46_r1))
def f46_a : AFunc := ⟨13, [], f46_c⟩

/-! 47 -/
def f47_r0 : List AStep := [⟨(some 3), (.box (.tmp 1)), none⟩, ⟨(some 4), (.mov (.con .nils)), none⟩]
def f47_r1 : List AStep := [⟨(some 5), (.mov (.con .nils)), none⟩]
def f47_r2 : List AStep := [⟨(some 6), (.mov (.con (.int .i64 0))), none⟩]
def f47_r3 : List AStep := [⟨(some 7), (.mov (.tmp 6)), none⟩, ⟨(some 8), (.mov (.tmp 0)), none⟩, ⟨(some 9), (.len (.tmp 8)), none⟩, ⟨(some 10), (.bin .lss (.tmp 7) (.tmp 9)), none⟩]
def f47_r4 : List AStep := [⟨(some 13), (.mov (.tmp 6)), none⟩, ⟨(some 14), (.fieldAddr 0 (.tmp 3)), none⟩, ⟨(some 15), (.load false 1 (.tmp 14)), none⟩, ⟨(some 16), (.bin .eql (.tmp 13) (.tmp 15)), none⟩]
def f47_r5 : List AStep := [⟨(some 17), (.mov (.tmp 5)), none⟩, ⟨(some 18), (.fieldAddr 1 (.tmp 3)), none⟩, ⟨(some 19), (.load false 1 (.tmp 18)), none⟩, ⟨(some 20), (.buildSlice 1 1 [(.str [])] [(0, (1, (.tmp 19)))]), none⟩, ⟨(some 21), (.append 1 (.tmp 17) (.tmp 20)), none⟩, ⟨(some 5), (.mov (.tmp 21)), none⟩]
def f47_r6 : List AStep := [⟨(some 22), (.mov (.tmp 5)), none⟩, ⟨(some 23), (.mov (.tmp 0)), none⟩, ⟨(some 24), (.mov (.tmp 6)), none⟩, ⟨(some 25), (.indexAddr 1 (.tmp 23) (.tmp 24)), none⟩, ⟨(some 26), (.load false 1 (.tmp 25)), none⟩, ⟨(some 27), (.buildSlice 1 1 [(.str [])] [(0, (1, (.tmp 26)))]), none⟩, ⟨(some 28), (.append 1 (.tmp 22) (.tmp 27)), none⟩, ⟨(some 5), (.mov (.tmp 28)), none⟩]
def f47_r7 : List AStep := [⟨(some 11), (.mov (.tmp 6)), none⟩, ⟨(some 12), (.bin .add (.tmp 11) (.con (.int .i64 1))), none⟩, ⟨(some 6), (.mov (.tmp 12)), none⟩]
def f47_l8 : ACode := (.seq (.seq (.ops f47_r3) (.cond (.tmp 10) .skip (.exit 0))) (.seq (.block 1 (.seq (.ops f47_r4) (.cond (.tmp 16) (.ops f47_r5) (.ops f47_r6)))) (.ops f47_r7)))
def f47_r9 : List AStep := [⟨(some 29), (.mov (.tmp 5)), none⟩, ⟨(some 4), (.mov (.tmp 29)), none⟩]
def f47_c : ACode := (.seq (.ops f47_r0) (.seq (.ops f47_r1) (.seq (.seq (.ops f47_r2) (.block 0 (.loop f47_l8))) (.seq (.ops f47_r9) .ret))))
def f47_a : AFunc := ⟨30, [(.tmp 4)], f47_c⟩

/-! 48 -/
def f48_r0 : List AStep := [⟨(some 2), (.mov (.con .nils)), none⟩]
def f48_r1 : List AStep := [⟨(some 3), (.mov (.tmp 0)), none⟩, ⟨(some 4), (.eq .slice false (.tmp 3) (.con .nils)), none⟩]
def f48_r2 : List AStep := [⟨(some 2), (.mov (.con .nils)), none⟩]
def f48_r3 : List AStep := [⟨(some 5), (.buildSlice 64 0 [(.int .u8 0), (.int .u8 0), (.int .u8 0), (.int .u8 0), (.int .u8 0), (.int .u8 0), (.int .u8 0), (.int .u8 0), (.int .u8 0), (.int .u8 0), (.int .u8 0), (.int .u8 0), (.int .u8 0), (.int .u8 0), (.int .u8 0), (.int .u8 0), (.int .u8 0), (.int .u8 0), (.int .u8 0), (.int .u8 0), (.int .u8 0), (.int .u8 0), (.int .u8 0), (.int .u8 0), (.int .u8 0), (.int .u8 0), (.int .u8 0), (.int .u8 0), (.int .u8 0), (.int .u8 0), (.int .u8 0), (.int .u8 0), (.int .u8 0), (.int .u8 0), (.int .u8 0), (.int .u8 0), (.int .u8 0), (.int .u8 0), (.int .u8 0), (.int .u8 0), (.int .u8 0), (.int .u8 0), (.int .u8 0), (.int .u8 0), (.int .u8 0), (.int .u8 0), (.int .u8 0), (.int .u8 0), (.int .u8 0), (.int .u8 0), (.int .u8 0), (.int .u8 0), (.int .u8 0), (.int .u8 0), (.int .u8 0), (.int .u8 0), (.int .u8 0), (.int .u8 0), (.int .u8 0), (.int .u8 0), (.int .u8 0), (.int .u8 0), (.int .u8 0), (.int .u8 0)] []), none⟩, ⟨(some 6), (.mov (.tmp 0)), none⟩, ⟨(some 7), (.append 64 (.tmp 5) (.tmp 6)), none⟩, ⟨(some 2), (.mov (.tmp 7)), none⟩]
def f48_c : ACode := (.seq (.ops f48_r0) (.seq (.seq (.ops f48_r1) (.cond (.tmp 4) (.seq (.ops f48_r2) .ret) .skip)) (.seq (.ops f48_r3) .ret)))
def f48_a : AFunc := ⟨8, [(.tmp 2)], f48_c⟩

/-! 49 -/
def f49_r0 : List AStep := [⟨(some 1), (.box (.tmp 0)), none⟩, ⟨(some 2), (.mov (.con .nilf)), none⟩]
def f49_r1 : List AStep := [⟨(some 3), (.makeFunc 58 [(.tmp 1)]), none⟩, ⟨(some 2), (.mov (.tmp 3)), none⟩]
def f49_c : ACode := (.seq (.ops f49_r0) (.seq (.ops f49_r1) .ret))
def f49_a : AFunc := ⟨4, [(.tmp 2)], f49_c⟩

/-! 50 -/
def f50_r0 : List AStep := [⟨(some 2), (.mov (.con .nils)), none⟩]
def f50_r1 : List AStep := [⟨(some 3), (.mov (.tmp 0)), none⟩, ⟨(some 4), (.eq .slice false (.tmp 3) (.con .nils)), none⟩]
def f50_r2 : List AStep := [⟨(some 2), (.mov (.con .nils)), none⟩]
def f50_r3 : List AStep := [⟨(some 5), (.buildSlice 1 0 [(.int .u8 0)] []), none⟩, ⟨(some 6), (.mov (.tmp 0)), none⟩, ⟨(some 7), (.append 1 (.tmp 5) (.tmp 6)), none⟩, ⟨(some 2), (.mov (.tmp 7)), none⟩]
def f50_c : ACode := (.seq (.ops f50_r0) (.seq (.seq (.ops f50_r1) (.cond (.tmp 4) (.seq (.ops f50_r2) .ret) .skip)) (.seq (.ops f50_r3) .ret)))
def f50_a : AFunc := ⟨8, [(.tmp 2)], f50_c⟩

/-! 51 -/
def f51_r0 : List AStep := [⟨(some 2), (.mov (.con (.str []))), none⟩]
def f51_r1 : List AStep := [⟨(some 3), (.mov (.con (.str []))), none⟩]
def f51_r2 : List AStep := [⟨(some 5), (.mov (.tmp 0)), none⟩, ⟨(some 4), (.mov (.tmp 5)), none⟩]
def f51_r3 : List AStep := [⟨(some 6), (.mov (.tmp 4)), none⟩, ⟨(some 7), (.bin .gtr (.tmp 6) (.con (.int .u64 0))), none⟩]
def f51_r4 : List AStep := [⟨(some 10), (.mov (.tmp 4)), none⟩, ⟨(some 11), (.bin .rem (.tmp 10) (.con (.int .u64 256))), none⟩, ⟨(some 12), (.cvInt .u8 (.tmp 11)), none⟩, ⟨(some 13), (.buildSlice 1 1 [(.int .u8 0)] [(0, (1, (.tmp 12)))]), none⟩, ⟨(some 14), (.cvB2S (.tmp 13)), none⟩, ⟨(some 15), (.mov (.tmp 3)), none⟩, ⟨(some 16), (.bin .add (.tmp 14) (.tmp 15)), none⟩, ⟨(some 3), (.mov (.tmp 16)), none⟩]
def f51_r5 : List AStep := [⟨(some 8), (.mov (.tmp 4)), none⟩, ⟨(some 9), (.bin .quo (.tmp 8) (.con (.int .u64 256))), none⟩, ⟨(some 4), (.mov (.tmp 9)), none⟩]
def f51_l6 : ACode := (.seq (.seq (.ops f51_r3) (.cond (.tmp 7) .skip (.exit 0))) (.seq (.block 1 (.ops f51_r4)) (.ops f51_r5)))
def f51_r7 : List AStep := [⟨(some 17), (.mov (.tmp 3)), none⟩, ⟨(some 18), (.lenT (.tmp 17)), none⟩, ⟨(some 19), (.cvInt .u8 (.tmp 18)), none⟩, ⟨(some 20), (.buildSlice 1 1 [(.int .u8 0)] [(0, (1, (.tmp 19)))]), none⟩, ⟨(some 21), (.cvB2S (.tmp 20)), none⟩, ⟨(some 22), (.mov (.tmp 3)), none⟩, ⟨(some 23), (.bin .add (.tmp 21) (.tmp 22)), none⟩, ⟨(some 2), (.mov (.tmp 23)), none⟩]
def f51_c : ACode := (.seq (.ops f51_r0) (.seq (.ops f51_r1) (.seq (.seq (.ops f51_r2) (.block 0 (.loop f51_l6))) (.seq (.ops f51_r7) .ret))))
def f51_a : AFunc := ⟨24, [(.tmp 2)], f51_c⟩

/-! 52 -/
def f52_r0 : List AStep := [⟨(some 2), (.mov (.con .nils)), none⟩, ⟨(some 3), (.mov (.con (.bool false))), none⟩, ⟨(some 4), (.mov (.con (.int .i64 0))), none⟩]
def f52_r1 : List DStep := [⟨0, 0, ⟨(some 14), (.mov (.tmp 0)), none⟩⟩, ⟨1, 1, ⟨(some 15), (.nilCheck (.tmp 14)), none⟩⟩, ⟨2, 3, ⟨(some 16), (.fieldAddr 1 (.tmp 15)), none⟩⟩, ⟨3, 7, ⟨(some 17), (.load false 1 (.tmp 16)), none⟩⟩, ⟨4, 0, ⟨(some 18), (.mov (.tmp 0)), none⟩⟩, ⟨5, 16, ⟨(some 19), (.nilCheck (.tmp 18)), none⟩⟩, ⟨6, 48, ⟨(some 20), (.fieldAddr 2 (.tmp 19)), none⟩⟩, ⟨7, 112, ⟨(some 21), (.load false 1 (.tmp 20)), none⟩⟩, ⟨8, 255, ⟨(some 22), (.bin .geq (.tmp 17) (.tmp 21)), none⟩⟩]
def f52_r2 : List AStep := [⟨(some 2), (.mov (.con .nils)), none⟩, ⟨(some 3), (.mov (.con (.bool false))), none⟩, ⟨(some 4), (.mov (.con (.int .i64 0))), none⟩]
def f52_r3 : List DStep := [⟨0, 0, ⟨(some 24), (.mov (.tmp 0)), none⟩⟩, ⟨1, 1, ⟨(some 25), (.nilCheck (.tmp 24)), none⟩⟩, ⟨2, 3, ⟨(some 26), (.fieldAddr 0 (.tmp 25)), none⟩⟩, ⟨3, 7, ⟨(some 27), (.load false 1 (.tmp 26)), none⟩⟩, ⟨4, 0, ⟨(some 28), (.mov (.tmp 0)), none⟩⟩, ⟨5, 16, ⟨(some 29), (.nilCheck (.tmp 28)), none⟩⟩, ⟨6, 48, ⟨(some 30), (.fieldAddr 1 (.tmp 29)), none⟩⟩, ⟨7, 112, ⟨(some 31), (.load false 1 (.tmp 30)), none⟩⟩, ⟨8, 255, ⟨(some 32), (.call (.con (.func 26 [])) [(.tmp 27), (.tmp 31)]), none⟩⟩, ⟨9, 511, ⟨(some 23), (.mov (.tmp 32)), none⟩⟩, ⟨10, 1023, ⟨(some 33), (.extract (.tmp 23) 0), none⟩⟩, ⟨11, 1023, ⟨(some 34), (.extract (.tmp 23) 1), none⟩⟩, ⟨12, 2047, ⟨(some 5), (.mov (.tmp 33)), none⟩⟩, ⟨13, 8191, ⟨(some 6), (.mov (.tmp 34)), none⟩⟩]
def f52_r4 : List AStep := [⟨(some 35), (.mov (.tmp 6)), none⟩, ⟨(some 36), (.bin .neq (.tmp 35) (.con (.int .i64 0))), none⟩]
def f52_r5 : List AStep := [⟨(some 37), (.mov (.tmp 6)), none⟩, ⟨(some 2), (.mov (.con .nils)), none⟩, ⟨(some 3), (.mov (.con (.bool false))), none⟩, ⟨(some 4), (.mov (.tmp 37)), none⟩]
def f52_r6 : List AStep := [⟨(some 39), (.mov (.tmp 5)), none⟩, ⟨(some 40), (.call (.con (.func 60 [])) [(.tmp 39)]), none⟩, ⟨(some 38), (.mov (.tmp 40)), none⟩, ⟨(some 41), (.extract (.tmp 38) 0), none⟩, ⟨(some 42), (.extract (.tmp 38) 1), none⟩, ⟨(some 7), (.alloc [(.int .u64 0), (.int .u64 0), (.int .u64 0)]), none⟩, ⟨none, (.store 3 (.tmp 7) (.tmp 41)), none⟩, ⟨(some 8), (.mov (.tmp 42)), none⟩]
def f52_r7 : List DStep := [⟨0, 0, ⟨(some 43), (.mov (.tmp 0)), none⟩⟩, ⟨1, 1, ⟨(some 44), (.nilCheck (.tmp 43)), none⟩⟩, ⟨2, 3, ⟨(some 45), (.fieldAddr 3 (.tmp 44)), none⟩⟩, ⟨3, 7, ⟨(some 46), (.load false 1 (.tmp 45)), none⟩⟩, ⟨4, 0, ⟨(some 47), (.mov (.tmp 0)), none⟩⟩, ⟨5, 16, ⟨(some 48), (.nilCheck (.tmp 47)), none⟩⟩, ⟨6, 48, ⟨(some 49), (.fieldAddr 4 (.tmp 48)), none⟩⟩, ⟨7, 112, ⟨(some 50), (.load false 1 (.tmp 49)), none⟩⟩, ⟨8, 240, ⟨(some 51), (.len (.tmp 50)), none⟩⟩, ⟨9, 496, ⟨(some 52), (.cvInt .u64 (.tmp 51)), none⟩⟩, ⟨10, 0, ⟨(some 53), (.fieldAddr 2 (.tmp 7)), none⟩⟩, ⟨11, 1024, ⟨(some 54), (.load false 1 (.tmp 53)), none⟩⟩, ⟨12, 4095, ⟨(some 55), (.build [(.int .u64 0), (.int .u64 0), (.int .u64 0)] [(0, (1, (.tmp 46))), (1, (1, (.tmp 52))), (2, (1, (.tmp 54)))]), none⟩⟩, ⟨13, 0, ⟨(some 9), (.alloc [(.int .u64 0), (.int .u64 0), (.int .u64 0)]), none⟩⟩, ⟨14, 16383, ⟨none, (.store 3 (.tmp 9) (.tmp 55)), none⟩⟩]
def f52_r8 : List DStep := [⟨0, 0, ⟨(some 56), (.mov (.tmp 8)), none⟩⟩, ⟨1, 1, ⟨(some 57), (.not (.tmp 56)), none⟩⟩, ⟨2, 3, ⟨(some 58), (.mov (.tmp 57)), none⟩⟩, ⟨3, 7, ⟨(some 59), (.load true 3 (.tmp 7)), (some (58, false))⟩⟩, ⟨4, 7, ⟨(some 60), (.load true 3 (.tmp 9)), (some (58, false))⟩⟩, ⟨5, 31, ⟨(some 61), (.eq (.flat 3) true (.tmp 59) (.tmp 60)), (some (58, false))⟩⟩, ⟨6, 63, ⟨(some 62), (.pick (.tmp 58) (.con (.bool true)) (.tmp 61)), none⟩⟩, ⟨7, 127, ⟨(some 63), (.mov (.tmp 62)), none⟩⟩, ⟨8, 255, ⟨(some 64), (.fieldAddr 2 (.tmp 7)), (some (63, false))⟩⟩, ⟨9, 511, ⟨(some 65), (.load false 1 (.tmp 64)), (some (63, false))⟩⟩, ⟨10, 1023, ⟨(some 66), (.bin .gtr (.tmp 65) (.con (.int .u64 4096))), (some (63, false))⟩⟩, ⟨11, 2047, ⟨(some 67), (.pick (.tmp 63) (.con (.bool true)) (.tmp 66)), none⟩⟩, ⟨12, 4095, ⟨(some 68), (.mov (.tmp 67)), none⟩⟩, ⟨13, 8191, ⟨(some 69), (.fieldAddr 2 (.tmp 7)), (some (68, false))⟩⟩, ⟨14, 16383, ⟨(some 70), (.load false 1 (.tmp 69)), (some (68, false))⟩⟩, ⟨15, 32767, ⟨(some 71), (.cvInt .i64 (.tmp 70)), (some (68, false))⟩⟩, ⟨17, 8191, ⟨(some 73), (.mov (.tmp 0)), (some (68, false))⟩⟩, ⟨18, 139263, ⟨(some 74), (.nilCheck (.tmp 73)), (some (68, false))⟩⟩, ⟨19, 401407, ⟨(some 75), (.fieldAddr 2 (.tmp 74)), (some (68, false))⟩⟩, ⟨20, 925695, ⟨(some 76), (.load false 1 (.tmp 75)), (some (68, false))⟩⟩, ⟨21, 8191, ⟨(some 77), (.mov (.tmp 0)), (some (68, false))⟩⟩, ⟨22, 2105343, ⟨(some 78), (.nilCheck (.tmp 77)), (some (68, false))⟩⟩, ⟨23, 6299647, ⟨(some 79), (.fieldAddr 1 (.tmp 78)), (some (68, false))⟩⟩, ⟨24, 14688255, ⟨(some 80), (.load false 1 (.tmp 79)), (some (68, false))⟩⟩, ⟨25, 33431551, ⟨(some 81), (.bin .sub (.tmp 76) (.tmp 80)), (some (68, false))⟩⟩, ⟨16, 65535, ⟨(some 72), (.call (.con (.func 40 [])) [(.tmp 71)]), (some (68, false))⟩⟩, ⟨26, 67108863, ⟨(some 82), (.bin .gtr (.tmp 72) (.tmp 81)), (some (68, false))⟩⟩, ⟨27, 134217727, ⟨(some 83), (.pick (.tmp 68) (.con (.bool true)) (.tmp 82)), none⟩⟩]
def f52_r9 : List AStep := [⟨(some 2), (.mov (.con .nils)), none⟩, ⟨(some 3), (.mov (.con (.bool false))), none⟩, ⟨(some 4), (.mov (.con (.int .i64 0))), none⟩]
def f52_r10 : List AStep := [⟨(some 10), (.mov (.con .nils)), none⟩]
def f52_r11 : List AStep := [⟨(some 11), (.mov (.con (.int .i64 1))), none⟩]
def f52_r12 : List AStep := [⟨(some 84), (.mov (.tmp 11)), none⟩, ⟨(some 85), (.fieldAddr 2 (.tmp 7)), none⟩, ⟨(some 86), (.load false 1 (.tmp 85)), none⟩, ⟨(some 87), (.cvInt .i64 (.tmp 86)), none⟩, ⟨(some 88), (.call (.con (.func 40 [])) [(.tmp 87)]), none⟩, ⟨(some 89), (.bin .lss (.tmp 84) (.tmp 88)), none⟩]
def f52_r13 : List DStep := [⟨0, 0, ⟨(some 93), (.mov (.tmp 0)), none⟩⟩, ⟨1, 1, ⟨(some 94), (.nilCheck (.tmp 93)), none⟩⟩, ⟨2, 3, ⟨(some 95), (.fieldAddr 0 (.tmp 94)), none⟩⟩, ⟨3, 7, ⟨(some 96), (.load false 1 (.tmp 95)), none⟩⟩, ⟨4, 0, ⟨(some 97), (.mov (.tmp 0)), none⟩⟩, ⟨5, 16, ⟨(some 98), (.nilCheck (.tmp 97)), none⟩⟩, ⟨6, 48, ⟨(some 99), (.fieldAddr 1 (.tmp 98)), none⟩⟩, ⟨7, 112, ⟨(some 100), (.load false 1 (.tmp 99)), none⟩⟩, ⟨8, 0, ⟨(some 101), (.mov (.tmp 11)), none⟩⟩, ⟨9, 496, ⟨(some 102), (.bin .add (.tmp 100) (.tmp 101)), none⟩⟩, ⟨10, 1023, ⟨(some 103), (.call (.con (.func 26 [])) [(.tmp 96), (.tmp 102)]), none⟩⟩, ⟨11, 2047, ⟨(some 92), (.mov (.tmp 103)), none⟩⟩, ⟨12, 4095, ⟨(some 104), (.extract (.tmp 92) 0), none⟩⟩, ⟨13, 4095, ⟨(some 105), (.extract (.tmp 92) 1), none⟩⟩, ⟨14, 8191, ⟨(some 12), (.mov (.tmp 104)), none⟩⟩, ⟨15, 32767, ⟨(some 13), (.mov (.tmp 105)), none⟩⟩]
def f52_r14 : List AStep := [⟨(some 106), (.mov (.tmp 13)), none⟩, ⟨(some 107), (.bin .neq (.tmp 106) (.con (.int .i64 0))), none⟩, ⟨(some 108), (.mov (.tmp 107)), none⟩, ⟨(some 109), (.mov (.tmp 12)), (some (108, false))⟩, ⟨(some 110), (.indexAddr 1 (.tmp 109) (.con (.int .i64 0))), (some (108, false))⟩, ⟨(some 111), (.load false 1 (.tmp 110)), (some (108, false))⟩, ⟨(some 112), (.bin .neq (.tmp 111) (.con (.int .u8 0))), (some (108, false))⟩, ⟨(some 113), (.pick (.tmp 108) (.con (.bool true)) (.tmp 112)), none⟩]
def f52_r15 : List AStep := [⟨(some 114), (.mov (.tmp 13)), none⟩, ⟨(some 2), (.mov (.con .nils)), none⟩, ⟨(some 3), (.mov (.con (.bool false))), none⟩, ⟨(some 4), (.mov (.tmp 114)), none⟩]
def f52_r16 : List AStep := [⟨(some 115), (.mov (.tmp 10)), none⟩, ⟨(some 116), (.mov (.tmp 12)), none⟩, ⟨(some 117), (.sliceS 1 (.tmp 116) (some (.con (.int .i64 1))) none), none⟩, ⟨(some 118), (.append 1 (.tmp 115) (.tmp 117)), none⟩, ⟨(some 10), (.mov (.tmp 118)), none⟩]
def f52_r17 : List AStep := [⟨(some 90), (.mov (.tmp 11)), none⟩, ⟨(some 91), (.bin .add (.tmp 90) (.con (.int .i64 1))), none⟩, ⟨(some 11), (.mov (.tmp 91)), none⟩]
def f52_l18 : ACode := (.seq (.seq (.ops f52_r12) (.cond (.tmp 89) .skip (.exit 0))) (.seq (.block 1 (.seq (.draw f52_r13) (.seq (.seq (.ops f52_r14) (.cond (.tmp 113) (.seq (.ops f52_r15) .ret) .skip)) (.ops f52_r16)))) (.ops f52_r17)))
def f52_r19 : List AStep := [⟨(some 119), (.mov (.tmp 10)), none⟩, ⟨(some 120), (.fieldAddr 2 (.tmp 7)), none⟩, ⟨(some 121), (.load false 1 (.tmp 120)), none⟩, ⟨(some 122), (.sliceS 1 (.tmp 119) none (some (.tmp 121))), none⟩, ⟨(some 2), (.mov (.tmp 122)), none⟩, ⟨(some 3), (.mov (.con (.bool true))), none⟩, ⟨(some 4), (.mov (.con (.int .i64 0))), none⟩]
def f52_c : ACode := (.seq (.ops f52_r0) (.seq (.seq (.draw f52_r1) (.cond (.tmp 22) (.seq (.ops f52_r2) .ret) .skip)) (.seq (.draw f52_r3) (.seq (.seq (.ops f52_r4) (.cond (.tmp 36) (.seq (.ops f52_r5) .ret) .skip)) (.seq (.ops f52_r6) (.seq (.draw f52_r7) (.seq (.seq (.draw f52_r8) (.cond (.tmp 83) (.seq (.ops f52_r9) .ret) .skip)) (.seq (.ops f52_r10) (.seq (.seq (.ops f52_r11) (.block 0 (.loop f52_l18))) (.seq (.ops f52_r19) .ret))))))))))
def f52_a : AFunc := ⟨123, [(.tmp 2), (.tmp 3), (.tmp 4)], f52_c⟩

/-! 53 -/
def f53_r0 : List AStep := [⟨(some 4), (.mov (.tmp 0)), none⟩, ⟨(some 5), (.mov (.tmp 0)), none⟩, ⟨(some 6), (.nilCheck (.tmp 5)), none⟩, ⟨(some 7), (.fieldAddr 4 (.tmp 6)), none⟩, ⟨(some 8), (.load false 1 (.tmp 7)), none⟩, ⟨(some 9), (.mov (.tmp 1)), none⟩, ⟨(some 10), (.buildSlice 1 1 [.nils] [(0, (1, (.tmp 9)))]), none⟩, ⟨(some 11), (.append 1 (.tmp 8) (.tmp 10)), none⟩, ⟨(some 12), (.nilCheck (.tmp 4)), none⟩, ⟨(some 13), (.fieldAddr 4 (.tmp 12)), none⟩, ⟨none, (.store 1 (.tmp 13) (.tmp 11)), none⟩]
def f53_r1 : List DStep := [⟨0, 0, ⟨(some 14), (.mov (.tmp 0)), none⟩⟩, ⟨1, 1, ⟨(some 15), (.nilCheck (.tmp 14)), none⟩⟩, ⟨2, 3, ⟨(some 16), (.fieldAddr 1 (.tmp 15)), none⟩⟩, ⟨3, 7, ⟨(some 17), (.load false 1 (.tmp 16)), none⟩⟩, ⟨4, 0, ⟨(some 18), (.mov (.tmp 1)), none⟩⟩, ⟨5, 16, ⟨(some 19), (.len (.tmp 18)), none⟩⟩, ⟨6, 48, ⟨(some 20), (.call (.con (.func 40 [])) [(.tmp 19)]), none⟩⟩, ⟨7, 127, ⟨(some 21), (.bin .add (.tmp 17) (.tmp 20)), none⟩⟩, ⟨8, 255, ⟨(some 22), (.nilCheck (.tmp 14)), none⟩⟩, ⟨9, 511, ⟨(some 23), (.fieldAddr 1 (.tmp 22)), none⟩⟩, ⟨10, 1023, ⟨none, (.store 1 (.tmp 23) (.tmp 21)), none⟩⟩]
def f53_c : ACode := (.seq (.ops f53_r0) (.draw f53_r1))
def f53_a : AFunc := ⟨24, [], f53_c⟩

/-! 54 -/
def f54_r0 : List AStep := [⟨(some 1), (.box (.tmp 0)), none⟩, ⟨(some 2), (.mov (.con (.int .u64 0))), none⟩, ⟨(some 3), (.alloc [(.str []), (.int .i64 0)]), none⟩]
def f54_r1 : List AStep := [⟨(some 7), (.fieldAddr 1 (.tmp 1)), none⟩, ⟨(some 8), (.load false 1 (.tmp 7)), none⟩, ⟨(some 9), (.bin .neq (.tmp 8) (.con (.int .i64 0))), none⟩]
def f54_r2 : List DStep := [⟨0, 0, ⟨(some 10), (.load true 2 (.tmp 1)), none⟩⟩, ⟨1, 0, ⟨(some 2), (.mov (.con (.int .u64 0))), none⟩⟩, ⟨2, 3, ⟨none, (.store 2 (.tmp 3) (.tmp 10)), none⟩⟩]
def f54_r3 : List AStep := [⟨(some 12), (.fieldAddr 0 (.tmp 1)), none⟩, ⟨(some 13), (.load false 1 (.tmp 12)), none⟩, ⟨(some 14), (.call (.con (.func 61 [])) [(.tmp 13)]), none⟩, ⟨(some 11), (.mov (.tmp 14)), none⟩, ⟨(some 15), (.extract (.tmp 11) 0), none⟩, ⟨(some 16), (.extract (.tmp 11) 1), none⟩, ⟨(some 17), (.extract (.tmp 11) 2), none⟩, ⟨(some 4), (.mov (.tmp 15)), none⟩, ⟨(some 5), (.mov (.tmp 16)), none⟩, ⟨(some 6), (.mov (.tmp 17)), none⟩]
def f54_r4 : List AStep := [⟨(some 18), (.mov (.tmp 6)), none⟩, ⟨(some 19), (.bin .neq (.tmp 18) (.con (.int .i64 0))), none⟩]
def f54_r5 : List DStep := [⟨0, 0, ⟨(some 20), (.fieldAddr 0 (.tmp 1)), none⟩⟩, ⟨1, 1, ⟨(some 21), (.load false 1 (.tmp 20)), none⟩⟩, ⟨2, 0, ⟨(some 22), (.mov (.tmp 6)), none⟩⟩, ⟨3, 7, ⟨(some 23), (.build [(.str []), (.int .i64 0)] [(0, (1, (.tmp 21))), (1, (1, (.tmp 22)))]), none⟩⟩, ⟨4, 0, ⟨(some 2), (.mov (.con (.int .u64 0))), none⟩⟩, ⟨5, 31, ⟨none, (.store 2 (.tmp 3) (.tmp 23)), none⟩⟩]
def f54_r6 : List DStep := [⟨0, 0, ⟨(some 24), (.mov (.tmp 4)), none⟩⟩, ⟨1, 0, ⟨(some 25), (.fieldAddr 0 (.tmp 1)), none⟩⟩, ⟨2, 2, ⟨(some 26), (.load false 1 (.tmp 25)), none⟩⟩, ⟨3, 0, ⟨(some 27), (.mov (.tmp 5)), none⟩⟩, ⟨4, 14, ⟨(some 28), (.sliceT (.tmp 26) (some (.tmp 27)) none), none⟩⟩, ⟨5, 30, ⟨(some 29), (.build [(.str []), (.int .i64 0)] [(0, (1, (.tmp 28)))]), none⟩⟩, ⟨6, 1, ⟨(some 2), (.mov (.tmp 24)), none⟩⟩, ⟨7, 127, ⟨none, (.store 2 (.tmp 3) (.tmp 29)), none⟩⟩]
def f54_c : ACode := (.seq (.ops f54_r0) (.seq (.seq (.ops f54_r1) (.cond (.tmp 9) (.seq (.draw f54_r2) .ret) .skip)) (.seq (.ops f54_r3) (.seq (.seq (.ops f54_r4) (.cond (.tmp 19) (.seq (.draw f54_r5) .ret) .skip)) (.seq (.draw f54_r6) .ret)))))
def f54_a : AFunc := ⟨30, [(.tmp 2), (.cell 3 true 2)], f54_c⟩

/-! 55 -/
def f55_r0 : List AStep := [⟨(some 2), (.mov (.con (.int .i64 0))), none⟩]
def f55_r1 : List AStep := [⟨(some 3), (.mov (.con (.int .i64 1))), none⟩]
def f55_r2 : List AStep := [⟨(some 4), (.mov (.tmp 0)), none⟩, ⟨(some 5), (.bin .gtr (.tmp 4) (.con (.int .i64 0))), none⟩]
def f55_r3 : List AStep := [⟨(some 6), (.mov (.tmp 3)), none⟩, ⟨(some 7), (.bin .add (.tmp 6) (.con (.int .i64 1))), none⟩, ⟨(some 3), (.mov (.tmp 7)), none⟩]
def f55_r4 : List AStep := [⟨(some 8), (.mov (.tmp 0)), none⟩, ⟨(some 9), (.bin .sub (.tmp 8) (.con (.int .i64 63))), none⟩, ⟨(some 0), (.mov (.tmp 9)), none⟩]
def f55_l5 : ACode := (.seq (.seq (.ops f55_r2) (.cond (.tmp 5) .skip (.exit 0))) (.block 1 (.seq (.ops f55_r3) (.ops f55_r4))))
def f55_r6 : List AStep := [⟨(some 10), (.mov (.tmp 3)), none⟩, ⟨(some 2), (.mov (.tmp 10)), none⟩]
def f55_c : ACode := (.seq (.ops f55_r0) (.seq (.ops f55_r1) (.seq (.block 0 (.loop f55_l5)) (.seq (.ops f55_r6) .ret))))
def f55_a : AFunc := ⟨11, [(.tmp 2)], f55_c⟩

/-! 56 -/
def f56_r0 : List AStep := [⟨(some 2), (.box (.tmp 0)), none⟩, ⟨(some 3), (.box (.tmp 1)), none⟩, ⟨(some 4), (.mov (.con .nilf)), none⟩]
def f56_r1 : List AStep := [⟨(some 5), (.makeFunc 62 [(.tmp 2), (.tmp 3)]), none⟩, ⟨(some 4), (.mov (.tmp 5)), none⟩]
def f56_c : ACode := (.seq (.ops f56_r0) (.seq (.ops f56_r1) .ret))
def f56_a : AFunc := ⟨6, [(.tmp 4)], f56_c⟩

/-! 57 -/
def f57_r0 : List AStep := [⟨(some 1), (.box (.tmp 0)), none⟩, ⟨(some 2), (.mov (.con .nils)), none⟩]
def f57_r1 : List AStep := [⟨(some 3), (.buildSlice 1 1 [(.int .u8 0)] [(0, (1, (.con (.int .u8 1))))]), none⟩, ⟨(some 4), (.fieldAddr 0 (.tmp 1)), none⟩, ⟨(some 5), (.load false 1 (.tmp 4)), none⟩, ⟨(some 6), (.fieldAddr 1 (.tmp 1)), none⟩, ⟨(some 7), (.load false 1 (.tmp 6)), none⟩, ⟨(some 8), (.fieldAddr 2 (.tmp 1)), none⟩, ⟨(some 9), (.load false 1 (.tmp 8)), none⟩, ⟨(some 10), (.buildSlice 1 3 [(.int .u64 0)] [(0, (1, (.tmp 5))), (1, (1, (.tmp 7))), (2, (1, (.tmp 9)))]), none⟩, ⟨(some 11), (.call (.con (.func 64 [])) [(.tmp 10)]), none⟩, ⟨(some 12), (.append 1 (.tmp 3) (.tmp 11)), none⟩, ⟨(some 2), (.mov (.tmp 12)), none⟩]
def f57_c : ACode := (.seq (.ops f57_r0) (.seq (.ops f57_r1) .ret))
def f57_a : AFunc := ⟨13, [(.tmp 2)], f57_c⟩

/-! 58 -/
def f58_r0 : List AStep := [⟨(some 2), (.box (.tmp 0)), none⟩]
def f58_r1 : List AStep := [⟨(some 5), (.load false 1 (.tmp 1)), none⟩, ⟨(some 6), (.nilCheck (.tmp 5)), none⟩, ⟨(some 7), (.fieldAddr 1 (.tmp 6)), none⟩, ⟨(some 8), (.load false 1 (.tmp 7)), none⟩, ⟨(some 9), (.call (.con (.func 59 [])) [(.tmp 8)]), none⟩]
def f58_r2 : List AStep := [⟨(some 4), (.alloc [(.int .i64 0), (.int .u8 0), (.int .u8 0), (.int .u8 0), (.int .u8 0), (.int .u8 0), (.int .u8 0), (.int .u8 0), (.int .u8 0), (.int .u8 0), (.int .u8 0), (.int .u8 0), (.int .u8 0), (.int .u8 0), (.int .u8 0), (.int .u8 0), (.int .u8 0), (.int .u8 0), (.int .u8 0), (.int .u8 0), (.int .u8 0), (.int .u8 0), (.int .u8 0), (.int .u8 0), (.int .u8 0), (.int .u8 0), (.int .u8 0), (.int .u8 0), (.int .u8 0), (.int .u8 0), (.int .u8 0), (.int .u8 0), (.int .u8 0), (.int .u8 0), (.int .u8 0), (.int .u8 0), (.int .u8 0), (.int .u8 0), (.int .u8 0), (.int .u8 0), (.int .u8 0), (.int .u8 0), (.int .u8 0), (.int .u8 0), (.int .u8 0), (.int .u8 0), (.int .u8 0), (.int .u8 0), (.int .u8 0), (.int .u8 0), (.int .u8 0), (.int .u8 0), (.int .u8 0), (.int .u8 0), (.int .u8 0), (.int .u8 0), (.int .u8 0), (.int .u8 0), (.int .u8 0), (.int .u8 0), (.int .u8 0), (.int .u8 0), (.int .u8 0), (.int .u8 0), (.int .u8 0)]), none⟩, ⟨none, (.store 65 (.tmp 4) (.tmp 11)), none⟩]
def f58_r3 : List AStep := [⟨(some 12), (.load false 1 (.tmp 2)), none⟩, ⟨(some 13), (.load true 65 (.tmp 4)), none⟩, ⟨(some 14), (.call (.tmp 12) [(.tmp 13)]), none⟩, ⟨(some 15), (.not (.tmp 14)), none⟩]
def f58_l4 : ACode := (.ops f58_r2)
def f58_l5 : ACode := (.block 1 (.seq (.ops f58_r3) (.cond (.tmp 15) .ret .skip)))
def f58_c : ACode := (.seq (.ops f58_r0) (.seq (.ops f58_r1) (.block 0 (.range 16 (.tmp 9) [10, 11] f58_l4 f58_l5))))
def f58_a : AFunc := ⟨16, [], f58_c⟩

/-! 59 -/
def f59_r0 : List AStep := [⟨(some 1), (.box (.tmp 0)), none⟩, ⟨(some 2), (.mov (.con .nilf)), none⟩]
def f59_r1 : List AStep := [⟨(some 3), (.makeFunc 65 [(.tmp 1)]), none⟩, ⟨(some 2), (.mov (.tmp 3)), none⟩]
def f59_c : ACode := (.seq (.ops f59_r0) (.seq (.ops f59_r1) .ret))
def f59_a : AFunc := ⟨4, [(.tmp 2)], f59_c⟩

/-! 60 -/
def f60_r0 : List AStep := [⟨(some 2), (.alloc [(.int .u64 0), (.int .u64 0), (.int .u64 0)]), none⟩, ⟨(some 3), (.mov (.con (.bool false))), none⟩]
def f60_r1 : List AStep := [⟨(some 6), (.mov (.tmp 0)), none⟩, ⟨(some 7), (.indexAddr 1 (.tmp 6) (.con (.int .i64 0))), none⟩, ⟨(some 8), (.load false 1 (.tmp 7)), none⟩, ⟨(some 9), (.bin .neq (.tmp 8) (.con (.int .u8 1))), none⟩]
def f60_r2 : List AStep := [⟨(some 10), (.build [(.int .u64 0), (.int .u64 0), (.int .u64 0)] []), none⟩, ⟨none, (.store 3 (.tmp 2) (.tmp 10)), none⟩, ⟨(some 3), (.mov (.con (.bool false))), none⟩]
def f60_r3 : List AStep := [⟨(some 11), (.mov (.tmp 0)), none⟩, ⟨(some 12), (.sliceS 1 (.tmp 11) (some (.con (.int .i64 1))) none), none⟩, ⟨(some 13), (.call (.con (.func 66 [])) [(.tmp 12)]), none⟩, ⟨(some 4), (.mov (.tmp 13)), none⟩]
def f60_r4 : List AStep := [⟨(some 14), (.mov (.tmp 4)), none⟩, ⟨(some 15), (.call (.con (.func 67 [])) [(.tmp 14)]), none⟩, ⟨(some 16), (.mov (.tmp 4)), none⟩, ⟨(some 17), (.call (.con (.func 67 [])) [(.tmp 16)]), none⟩, ⟨(some 18), (.mov (.tmp 4)), none⟩, ⟨(some 19), (.call (.con (.func 67 [])) [(.tmp 18)]), none⟩, ⟨(some 20), (.build [(.int .u64 0), (.int .u64 0), (.int .u64 0)] [(0, (1, (.tmp 15))), (1, (1, (.tmp 17))), (2, (1, (.tmp 19)))]), none⟩, ⟨(some 5), (.alloc [(.int .u64 0), (.int .u64 0), (.int .u64 0)]), none⟩, ⟨none, (.store 3 (.tmp 5) (.tmp 20)), none⟩]
def f60_r5 : List DStep := [⟨0, 0, ⟨(some 21), (.load true 3 (.tmp 5)), none⟩⟩, ⟨1, 0, ⟨(some 22), (.mov (.tmp 4)), none⟩⟩, ⟨2, 2, ⟨(some 23), (.call (.con (.func 68 [])) [(.tmp 22)]), none⟩⟩, ⟨3, 6, ⟨(some 24), (.bin .eql (.tmp 23) (.con (.int .i64 0))), none⟩⟩, ⟨4, 7, ⟨none, (.store 3 (.tmp 2) (.tmp 21)), none⟩⟩, ⟨5, 31, ⟨(some 3), (.mov (.tmp 24)), none⟩⟩]
def f60_c : ACode := (.seq (.ops f60_r0) (.seq (.seq (.ops f60_r1) (.cond (.tmp 9) (.seq (.ops f60_r2) .ret) .skip)) (.seq (.ops f60_r3) (.seq (.ops f60_r4) (.seq (.draw f60_r5) .ret)))))
def f60_a : AFunc := ⟨25, [(.cell 2 true 3), (.tmp 3)], f60_c⟩

/-! 61 -/
def f61_r0 : List AStep := [⟨(some 2), (.mov (.con (.int .u64 0))), none⟩, ⟨(some 3), (.mov (.con (.int .i64 0))), none⟩, ⟨(some 4), (.mov (.con (.int .i64 0))), none⟩]
def f61_r1 : List AStep := [⟨(some 8), (.mov (.tmp 0)), none⟩, ⟨(some 9), (.bin .eql (.tmp 8) (.con (.str []))), none⟩]
def f61_r2 : List AStep := [⟨(some 2), (.mov (.con (.int .u64 0))), none⟩, ⟨(some 3), (.mov (.con (.int .i64 0))), none⟩, ⟨(some 4), (.mov (.con (.int .i64 10))), none⟩]
def f61_r3 : List AStep := [⟨(some 10), (.mov (.tmp 0)), none⟩, ⟨(some 11), (.indexStr (.tmp 10) (.con (.int .i64 0))), none⟩, ⟨(some 12), (.cvInt .i64 (.tmp 11)), none⟩, ⟨(some 5), (.mov (.tmp 12)), none⟩]
def f61_r4 : List AStep := [⟨(some 13), (.mov (.tmp 5)), none⟩, ⟨(some 14), (.bin .gtr (.tmp 13) (.con (.int .i64 8))), none⟩]
def f61_r5 : List AStep := [⟨(some 2), (.mov (.con (.int .u64 0))), none⟩, ⟨(some 3), (.mov (.con (.int .i64 0))), none⟩, ⟨(some 4), (.mov (.con (.int .i64 11))), none⟩]
def f61_r6 : List AStep := [⟨(some 15), (.mov (.tmp 0)), none⟩, ⟨(some 16), (.lenT (.tmp 15)), none⟩, ⟨(some 17), (.mov (.tmp 5)), none⟩, ⟨(some 18), (.bin .add (.tmp 17) (.con (.int .i64 1))), none⟩, ⟨(some 19), (.bin .lss (.tmp 16) (.tmp 18)), none⟩]
def f61_r7 : List AStep := [⟨(some 2), (.mov (.con (.int .u64 0))), none⟩, ⟨(some 3), (.mov (.con (.int .i64 0))), none⟩, ⟨(some 4), (.mov (.con (.int .i64 10))), none⟩]
def f61_r8 : List AStep := [⟨(some 20), (.mov (.tmp 5)), none⟩, ⟨(some 21), (.bin .gtr (.tmp 20) (.con (.int .i64 0))), none⟩, ⟨(some 22), (.mov (.tmp 21)), none⟩, ⟨(some 23), (.mov (.tmp 0)), (some (22, true))⟩, ⟨(some 24), (.indexStr (.tmp 23) (.con (.int .i64 1))), (some (22, true))⟩, ⟨(some 25), (.bin .eql (.tmp 24) (.con (.int .u8 0))), (some (22, true))⟩, ⟨(some 26), (.pick (.tmp 22) (.tmp 25) (.con (.bool false))), none⟩]
def f61_r9 : List AStep := [⟨(some 2), (.mov (.con (.int .u64 0))), none⟩, ⟨(some 3), (.mov (.con (.int .i64 0))), none⟩, ⟨(some 4), (.mov (.con (.int .i64 11))), none⟩]
def f61_r10 : List AStep := [⟨(some 6), (.mov (.con (.int .u64 0))), none⟩]
def f61_r11 : List AStep := [⟨(some 7), (.mov (.con (.int .i64 1))), none⟩]
def f61_r12 : List AStep := [⟨(some 27), (.mov (.tmp 7)), none⟩, ⟨(some 28), (.mov (.tmp 5)), none⟩, ⟨(some 29), (.bin .leq (.tmp 27) (.tmp 28)), none⟩]
def f61_r13 : List AStep := [⟨(some 32), (.mov (.tmp 6)), none⟩, ⟨(some 33), (.bin .mul (.tmp 32) (.con (.int .u64 256))), none⟩, ⟨(some 34), (.mov (.tmp 0)), none⟩, ⟨(some 35), (.mov (.tmp 7)), none⟩, ⟨(some 36), (.indexStr (.tmp 34) (.tmp 35)), none⟩, ⟨(some 37), (.cvInt .u64 (.tmp 36)), none⟩, ⟨(some 38), (.bin .add (.tmp 33) (.tmp 37)), none⟩, ⟨(some 6), (.mov (.tmp 38)), none⟩]
def f61_r14 : List AStep := [⟨(some 30), (.mov (.tmp 7)), none⟩, ⟨(some 31), (.bin .add (.tmp 30) (.con (.int .i64 1))), none⟩, ⟨(some 7), (.mov (.tmp 31)), none⟩]
def f61_l15 : ACode := (.seq (.seq (.ops f61_r12) (.cond (.tmp 29) .skip (.exit 0))) (.seq (.block 1 (.ops f61_r13)) (.ops f61_r14)))
def f61_r16 : List AStep := [⟨(some 39), (.mov (.tmp 6)), none⟩, ⟨(some 40), (.mov (.tmp 5)), none⟩, ⟨(some 41), (.bin .add (.tmp 40) (.con (.int .i64 1))), none⟩, ⟨(some 2), (.mov (.tmp 39)), none⟩, ⟨(some 3), (.mov (.tmp 41)), none⟩, ⟨(some 4), (.mov (.con (.int .i64 0))), none⟩]
def f61_c : ACode := (.seq (.ops f61_r0) (.seq (.seq (.ops f61_r1) (.cond (.tmp 9) (.seq (.ops f61_r2) .ret) .skip)) (.seq (.ops f61_r3) (.seq (.seq (.ops f61_r4) (.cond (.tmp 14) (.seq (.ops f61_r5) .ret) .skip)) (.seq (.seq (.ops f61_r6) (.cond (.tmp 19) (.seq (.ops f61_r7) .ret) .skip)) (.seq (.seq (.ops f61_r8) (.cond (.tmp 26) (.seq (.ops f61_r9) .ret) .skip)) (.seq (.ops f61_r10) (.seq (.seq (.ops f61_r11) (.block 0 (.loop f61_l15))) (.seq (.ops f61_r16) .ret)))))))))
def f61_a : AFunc := ⟨42, [(.tmp 2), (.tmp 3), (.tmp 4)], f61_c⟩

/-! 62 -/
def f62_r0 : List AStep := [⟨(some 3), (.box (.tmp 0)), none⟩]
def f62_r1 : List AStep := [⟨(some 6), (.load false 1 (.tmp 1)), none⟩, ⟨(some 7), (.nilCheck (.tmp 6)), none⟩, ⟨(some 8), (.fieldAddr 1 (.tmp 7)), none⟩, ⟨(some 9), (.load false 1 (.tmp 8)), none⟩, ⟨(some 4), (.alloc [(.int .i64 0)]), none⟩, ⟨none, (.store 1 (.tmp 4) (.tmp 9)), none⟩]
def f62_r2 : List AStep := [⟨(some 10), (.load false 1 (.tmp 2)), none⟩, ⟨(some 11), (.call (.con (.func 63 [])) [(.tmp 10), (.con (.int .i64 63))]), none⟩]
def f62_r3 : List AStep := [⟨(some 5), (.mov (.tmp 12)), none⟩]
def f62_r4 : List AStep := [⟨(some 13), (.load false 1 (.tmp 4)), none⟩, ⟨(some 14), (.bin .add (.tmp 13) (.con (.int .i64 1))), none⟩, ⟨none, (.store 1 (.tmp 4) (.tmp 14)), none⟩]
def f62_r5 : List DStep := [⟨0, 0, ⟨(some 15), (.load false 1 (.tmp 3)), none⟩⟩, ⟨1, 0, ⟨(some 16), (.load false 1 (.tmp 4)), none⟩⟩, ⟨2, 0, ⟨(some 17), (.buildSlice 1 1 [(.int .u8 0)] [(0, (1, (.con (.int .u8 0))))]), none⟩⟩, ⟨3, 0, ⟨(some 18), (.mov (.tmp 5)), none⟩⟩, ⟨4, 12, ⟨(some 19), (.append 1 (.tmp 17) (.tmp 18)), none⟩⟩, ⟨5, 31, ⟨(some 20), (.call (.tmp 15) [(.tmp 16), (.tmp 19)]), none⟩⟩, ⟨6, 63, ⟨(some 21), (.not (.tmp 20)), none⟩⟩]
def f62_l6 : ACode := (.ops f62_r3)
def f62_l7 : ACode := (.block 1 (.seq (.ops f62_r4) (.seq (.draw f62_r5) (.cond (.tmp 21) .ret .skip))))
def f62_c : ACode := (.seq (.ops f62_r0) (.seq (.ops f62_r1) (.seq (.ops f62_r2) (.block 0 (.range 22 (.tmp 11) [12] f62_l6 f62_l7)))))
def f62_a : AFunc := ⟨22, [], f62_c⟩

/-! 63 -/
def f63_r0 : List AStep := [⟨(some 2), (.box (.tmp 0)), none⟩, ⟨(some 3), (.box (.tmp 1)), none⟩, ⟨(some 4), (.mov (.con .nilf)), none⟩]
def f63_r1 : List AStep := [⟨(some 5), (.load false 1 (.tmp 3)), none⟩, ⟨(some 6), (.bin .lss (.tmp 5) (.con (.int .i64 1))), none⟩]
def f63_r2 : List AStep := [⟨(some 7), (.makeIface 9 (.con (.str [99, 97, 110, 110, 111, 116, 32, 98, 101, 32, 108, 101, 115, 115, 32, 116, 104, 97, 110, 32, 49]))), none⟩, ⟨none, (.panic (.tmp 7)), none⟩]
def f63_r3 : List AStep := [⟨(some 8), (.makeFunc 69 [(.tmp 2), (.tmp 3)]), none⟩, ⟨(some 4), (.mov (.tmp 8)), none⟩]
def f63_c : ACode := (.seq (.ops f63_r0) (.seq (.seq (.ops f63_r1) (.cond (.tmp 6) (.ops f63_r2) .skip)) (.seq (.ops f63_r3) .ret)))
def f63_a : AFunc := ⟨9, [(.tmp 4)], f63_c⟩

/-! 64 -/
def f64_r0 : List AStep := [⟨(some 2), (.mov (.con .nils)), none⟩]
def f64_r1 : List AStep := [⟨(some 3), (.mov (.con .nils)), none⟩]
def f64_r2 : List AStep := [⟨(some 8), (.mov (.tmp 0)), none⟩, ⟨(some 9), (.len (.tmp 8)), none⟩, ⟨(some 10), (.mov (.con (.int .i64 0))), none⟩]
def f64_r3 : List AStep := [⟨(some 11), (.bin .lss (.tmp 10) (.tmp 9)), none⟩]
def f64_r4 : List AStep := [⟨(some 12), (.indexAddr 1 (.tmp 8) (.tmp 10)), none⟩, ⟨(some 13), (.load false 1 (.tmp 12)), none⟩, ⟨(some 5), (.mov (.tmp 13)), none⟩]
def f64_r5 : List AStep := [⟨(some 14), (.mov (.tmp 5)), none⟩, ⟨(some 15), (.call (.con (.func 70 [])) [(.tmp 14)]), none⟩, ⟨(some 16), (.bin .add (.tmp 15) (.con (.int .i64 8))), none⟩, ⟨(some 17), (.bin .sub (.tmp 16) (.con (.int .i64 1))), none⟩, ⟨(some 18), (.bin .quo (.tmp 17) (.con (.int .i64 8))), none⟩, ⟨(some 6), (.mov (.tmp 18)), none⟩]
def f64_r6 : List AStep := [⟨(some 19), (.mov (.tmp 3)), none⟩, ⟨(some 20), (.mov (.tmp 6)), none⟩, ⟨(some 21), (.cvInt .u8 (.tmp 20)), none⟩, ⟨(some 22), (.buildSlice 1 1 [(.int .u8 0)] [(0, (1, (.tmp 21)))]), none⟩, ⟨(some 23), (.append 1 (.tmp 19) (.tmp 22)), none⟩, ⟨(some 3), (.mov (.tmp 23)), none⟩]
def f64_r7 : List AStep := [⟨(some 24), (.mov (.tmp 6)), none⟩, ⟨(some 25), (.mov (.con (.int .i64 0))), none⟩]
def f64_r8 : List AStep := [⟨(some 26), (.bin .lss (.tmp 25) (.tmp 24)), none⟩]
def f64_r9 : List AStep := [⟨(some 27), (.mov (.tmp 25)), none⟩, ⟨(some 7), (.mov (.tmp 27)), none⟩]
def f64_r10 : List AStep := [⟨(some 28), (.mov (.tmp 3)), none⟩, ⟨(some 29), (.mov (.tmp 5)), none⟩, ⟨(some 30), (.mov (.tmp 6)), none⟩, ⟨(some 31), (.bin .sub (.tmp 30) (.con (.int .i64 1))), none⟩, ⟨(some 32), (.mov (.tmp 7)), none⟩, ⟨(some 33), (.bin .sub (.tmp 31) (.tmp 32)), none⟩, ⟨(some 34), (.bin .mul (.con (.int .i64 8)) (.tmp 33)), none⟩, ⟨(some 35), (.bin .shr (.tmp 29) (.tmp 34)), none⟩, ⟨(some 36), (.cvInt .u8 (.tmp 35)), none⟩, ⟨(some 37), (.buildSlice 1 1 [(.int .u8 0)] [(0, (1, (.tmp 36)))]), none⟩, ⟨(some 38), (.append 1 (.tmp 28) (.tmp 37)), none⟩, ⟨(some 3), (.mov (.tmp 38)), none⟩]
def f64_r11 : List AStep := [⟨(some 39), (.bin .add (.tmp 25) (.con (.int .i64 1))), none⟩, ⟨(some 25), (.mov (.tmp 39)), none⟩]
def f64_l12 : ACode := (.seq (.ops f64_r8) (.seq (.cond (.tmp 26) .skip (.exit 2)) (.seq (.block 3 (.seq (.ops f64_r9) (.ops f64_r10))) (.ops f64_r11))))
def f64_r13 : List AStep := [⟨(some 40), (.bin .add (.tmp 10) (.con (.int .i64 1))), none⟩, ⟨(some 10), (.mov (.tmp 40)), none⟩]
def f64_l14 : ACode := (.seq (.ops f64_r3) (.seq (.cond (.tmp 11) .skip (.exit 0)) (.seq (.block 1 (.seq (.ops f64_r4) (.seq (.ops f64_r5) (.seq (.ops f64_r6) (.seq (.ops f64_r7) (.block 2 (.loop f64_l12))))))) (.ops f64_r13))))
def f64_r15 : List AStep := [⟨(some 41), (.mov (.tmp 3)), none⟩, ⟨(some 2), (.mov (.tmp 41)), none⟩]
def f64_c : ACode := (.seq (.ops f64_r0) (.seq (.ops f64_r1) (.seq (.seq (.ops f64_r2) (.block 0 (.loop f64_l14))) (.seq (.ops f64_r15) .ret))))
def f64_a : AFunc := ⟨42, [(.tmp 2)], f64_c⟩

/-! 65 -/
def f65_r0 : List AStep := [⟨(some 4), (.load false 1 (.tmp 1)), none⟩, ⟨(some 5), (.len (.tmp 4)), none⟩, ⟨(some 6), (.bin .sub (.tmp 5) (.con (.int .i64 1))), none⟩, ⟨(some 3), (.mov (.tmp 6)), none⟩]
def f65_r1 : List AStep := [⟨(some 7), (.mov (.tmp 3)), none⟩, ⟨(some 8), (.bin .geq (.tmp 7) (.con (.int .i64 0))), none⟩]
def f65_r2 : List AStep := [⟨(some 11), (.mov (.tmp 0)), none⟩, ⟨(some 12), (.mov (.tmp 3)), none⟩, ⟨(some 13), (.load false 1 (.tmp 1)), none⟩, ⟨(some 14), (.mov (.tmp 3)), none⟩, ⟨(some 15), (.indexAddr 65 (.tmp 13) (.tmp 14)), none⟩, ⟨(some 16), (.load true 65 (.tmp 15)), none⟩, ⟨(some 17), (.call (.tmp 11) [(.tmp 12), (.tmp 16)]), none⟩, ⟨(some 18), (.not (.tmp 17)), none⟩]
def f65_r3 : List AStep := [⟨(some 9), (.mov (.tmp 3)), none⟩, ⟨(some 10), (.bin .sub (.tmp 9) (.con (.int .i64 1))), none⟩, ⟨(some 3), (.mov (.tmp 10)), none⟩]
def f65_l4 : ACode := (.seq (.seq (.ops f65_r1) (.cond (.tmp 8) .skip (.exit 0))) (.seq (.block 1 (.seq (.ops f65_r2) (.cond (.tmp 18) .ret .skip))) (.ops f65_r3)))
def f65_c : ACode := (.seq (.ops f65_r0) (.block 0 (.loop f65_l4)))
def f65_a : AFunc := ⟨19, [], f65_c⟩

/-! 66 -/
def f66_r0 : List AStep := [⟨(some 2), (.mov (.con .nilp)), none⟩]
def f66_r1 : List AStep := [⟨(some 3), (.mov (.tmp 0)), none⟩, ⟨(some 4), (.call (.con (.func 50 [])) [(.tmp 3)]), none⟩, ⟨(some 5), (.build [.nils, (.int .i64 0)] [(0, (1, (.tmp 4)))]), none⟩, ⟨(some 6), (.box (.tmp 5)), none⟩, ⟨(some 2), (.mov (.tmp 6)), none⟩]
def f66_c : ACode := (.seq (.ops f66_r0) (.seq (.ops f66_r1) .ret))
def f66_a : AFunc := ⟨7, [(.tmp 2)], f66_c⟩

/-! 67 -/
def f67_r0 : List AStep := [⟨(some 2), (.mov (.con (.int .u64 0))), none⟩]
def f67_r1 : List AStep := [⟨(some 6), (.mov (.tmp 0)), none⟩, ⟨(some 7), (.call (.con (.func 68 [])) [(.tmp 6)]), none⟩, ⟨(some 8), (.bin .neq (.tmp 7) (.con (.int .i64 0))), none⟩]
def f67_r2 : List AStep := [⟨(some 2), (.mov (.con (.int .u64 0))), none⟩]
def f67_r3 : List AStep := [⟨(some 10), (.mov (.tmp 0)), none⟩, ⟨(some 11), (.nilCheck (.tmp 10)), none⟩, ⟨(some 12), (.fieldAddr 0 (.tmp 11)), none⟩, ⟨(some 13), (.load false 1 (.tmp 12)), none⟩, ⟨(some 14), (.call (.con (.func 71 [])) [(.tmp 13)]), none⟩, ⟨(some 9), (.mov (.tmp 14)), none⟩, ⟨(some 15), (.extract (.tmp 9) 0), none⟩, ⟨(some 16), (.extract (.tmp 9) 1), none⟩, ⟨(some 17), (.extract (.tmp 9) 2), none⟩, ⟨(some 3), (.mov (.tmp 15)), none⟩, ⟨(some 4), (.mov (.tmp 16)), none⟩, ⟨(some 5), (.mov (.tmp 17)), none⟩]
def f67_r4 : List AStep := [⟨(some 18), (.mov (.tmp 0)), none⟩, ⟨(some 19), (.mov (.tmp 5)), none⟩, ⟨(some 20), (.bin .neq (.tmp 19) (.con (.int .i64 0))), none⟩, ⟨(some 21), (.mov (.tmp 5)), none⟩, ⟨(some 22), (.call (.con (.func 72 [])) [(.tmp 18), (.tmp 20), (.tmp 21)]), none⟩]
def f67_r5 : List AStep := [⟨(some 2), (.mov (.con (.int .u64 0))), none⟩]
def f67_r6 : List AStep := [⟨(some 23), (.mov (.tmp 0)), none⟩, ⟨(some 24), (.mov (.tmp 0)), none⟩, ⟨(some 25), (.nilCheck (.tmp 24)), none⟩, ⟨(some 26), (.fieldAddr 0 (.tmp 25)), none⟩, ⟨(some 27), (.load false 1 (.tmp 26)), none⟩, ⟨(some 28), (.mov (.tmp 4)), none⟩, ⟨(some 29), (.sliceS 1 (.tmp 27) (some (.tmp 28)) none), none⟩, ⟨(some 30), (.nilCheck (.tmp 23)), none⟩, ⟨(some 31), (.fieldAddr 0 (.tmp 30)), none⟩, ⟨none, (.store 1 (.tmp 31) (.tmp 29)), none⟩]
def f67_r7 : List AStep := [⟨(some 32), (.mov (.tmp 3)), none⟩, ⟨(some 2), (.mov (.tmp 32)), none⟩]
def f67_c : ACode := (.seq (.ops f67_r0) (.seq (.seq (.ops f67_r1) (.cond (.tmp 8) (.seq (.ops f67_r2) .ret) .skip)) (.seq (.ops f67_r3) (.seq (.seq (.ops f67_r4) (.cond (.tmp 22) (.seq (.ops f67_r5) .ret) .skip)) (.seq (.ops f67_r6) (.seq (.ops f67_r7) .ret))))))
def f67_a : AFunc := ⟨33, [(.tmp 2)], f67_c⟩

/-! 68 -/
def f68_r0 : List AStep := [⟨(some 2), (.mov (.con (.int .i64 0))), none⟩]
def f68_r1 : List AStep := [⟨(some 3), (.mov (.tmp 0)), none⟩, ⟨(some 4), (.eq .ptr false (.tmp 3) (.con .nilp)), none⟩]
def f68_r2 : List AStep := [⟨(some 2), (.mov (.con (.int .i64 10))), none⟩]
def f68_r3 : List AStep := [⟨(some 5), (.mov (.tmp 0)), none⟩, ⟨(some 6), (.nilCheck (.tmp 5)), none⟩, ⟨(some 7), (.fieldAddr 1 (.tmp 6)), none⟩, ⟨(some 8), (.load false 1 (.tmp 7)), none⟩, ⟨(some 2), (.mov (.tmp 8)), none⟩]
def f68_c : ACode := (.seq (.ops f68_r0) (.seq (.seq (.ops f68_r1) (.cond (.tmp 4) (.seq (.ops f68_r2) .ret) .skip)) (.seq (.ops f68_r3) .ret)))
def f68_a : AFunc := ⟨9, [(.tmp 2)], f68_c⟩

/-! 69 -/
def f69_r0 : List AStep := [⟨(some 4), (.mov (.con (.int .i64 0))), none⟩]
def f69_r1 : List AStep := [⟨(some 6), (.mov (.tmp 4)), none⟩, ⟨(some 7), (.load false 1 (.tmp 1)), none⟩, ⟨(some 8), (.len (.tmp 7)), none⟩, ⟨(some 9), (.bin .lss (.tmp 6) (.tmp 8)), none⟩]
def f69_r2 : List DStep := [⟨0, 0, ⟨(some 13), (.load false 1 (.tmp 2)), none⟩⟩, ⟨1, 0, ⟨(some 14), (.load false 1 (.tmp 1)), none⟩⟩, ⟨2, 0, ⟨(some 15), (.mov (.tmp 4)), none⟩⟩, ⟨3, 6, ⟨(some 16), (.sliceS 1 (.tmp 14) (some (.tmp 15)) none), none⟩⟩, ⟨4, 14, ⟨(some 17), (.len (.tmp 16)), none⟩⟩, ⟨5, 31, ⟨(some 18), (.min (.tmp 13) (.tmp 17)), none⟩⟩, ⟨6, 63, ⟨(some 5), (.mov (.tmp 18)), none⟩⟩]
def f69_r3 : List AStep := [⟨(some 19), (.mov (.tmp 0)), none⟩, ⟨(some 20), (.load false 1 (.tmp 1)), none⟩, ⟨(some 21), (.mov (.tmp 4)), none⟩, ⟨(some 22), (.mov (.tmp 4)), none⟩, ⟨(some 23), (.mov (.tmp 5)), none⟩, ⟨(some 24), (.bin .add (.tmp 22) (.tmp 23)), none⟩, ⟨(some 25), (.mov (.tmp 4)), none⟩, ⟨(some 26), (.mov (.tmp 5)), none⟩, ⟨(some 27), (.bin .add (.tmp 25) (.tmp 26)), none⟩, ⟨(some 28), (.slice3 1 (.tmp 20) (some (.tmp 21)) (.tmp 24) (.tmp 27)), none⟩, ⟨(some 29), (.call (.tmp 19) [(.tmp 28)]), none⟩, ⟨(some 30), (.not (.tmp 29)), none⟩]
def f69_r4 : List AStep := [⟨(some 10), (.mov (.tmp 4)), none⟩, ⟨(some 11), (.load false 1 (.tmp 2)), none⟩, ⟨(some 12), (.bin .add (.tmp 10) (.tmp 11)), none⟩, ⟨(some 4), (.mov (.tmp 12)), none⟩]
def f69_l5 : ACode := (.seq (.seq (.ops f69_r1) (.cond (.tmp 9) .skip (.exit 0))) (.seq (.block 1 (.seq (.draw f69_r2) (.seq (.ops f69_r3) (.cond (.tmp 30) .ret .skip)))) (.ops f69_r4)))
def f69_c : ACode := (.seq (.ops f69_r0) (.block 0 (.loop f69_l5)))
def f69_a : AFunc := ⟨31, [], f69_c⟩

/-! 70 -/
def f70_r0 : List AStep := [⟨(some 2), (.mov (.con (.int .i64 0))), none⟩]
def f70_r1 : List AStep := [⟨(some 3), (.mov (.tmp 0)), none⟩, ⟨(some 4), (.bin .geq (.tmp 3) (.con (.int .u64 4294967296))), none⟩]
def f70_r2 : List AStep := [⟨(some 5), (.mov (.tmp 0)), none⟩, ⟨(some 6), (.bin .shr (.tmp 5) (.con (.int .u64 32))), none⟩, ⟨(some 0), (.mov (.tmp 6)), none⟩]
def f70_r3 : List AStep := [⟨(some 2), (.mov (.con (.int .i64 32))), none⟩]
def f70_r4 : List AStep := [⟨(some 7), (.mov (.tmp 0)), none⟩, ⟨(some 8), (.bin .geq (.tmp 7) (.con (.int .u64 65536))), none⟩]
def f70_r5 : List AStep := [⟨(some 9), (.mov (.tmp 0)), none⟩, ⟨(some 10), (.bin .shr (.tmp 9) (.con (.int .u64 16))), none⟩, ⟨(some 0), (.mov (.tmp 10)), none⟩]
def f70_r6 : List AStep := [⟨(some 11), (.mov (.tmp 2)), none⟩, ⟨(some 12), (.bin .add (.tmp 11) (.con (.int .i64 16))), none⟩, ⟨(some 2), (.mov (.tmp 12)), none⟩]
def f70_r7 : List AStep := [⟨(some 13), (.mov (.tmp 0)), none⟩, ⟨(some 14), (.bin .geq (.tmp 13) (.con (.int .u64 256))), none⟩]
def f70_r8 : List AStep := [⟨(some 15), (.mov (.tmp 0)), none⟩, ⟨(some 16), (.bin .shr (.tmp 15) (.con (.int .u64 8))), none⟩, ⟨(some 0), (.mov (.tmp 16)), none⟩]
def f70_r9 : List AStep := [⟨(some 17), (.mov (.tmp 2)), none⟩, ⟨(some 18), (.bin .add (.tmp 17) (.con (.int .i64 8))), none⟩, ⟨(some 2), (.mov (.tmp 18)), none⟩]
def f70_r10 : List AStep := [⟨(some 19), (.mov (.tmp 2)), none⟩, ⟨(some 20), (.mov (.tmp 0)), none⟩, ⟨(some 21), (.cvInt .u8 (.tmp 20)), none⟩, ⟨(some 22), (.indexStr (.con (.str [0, 1, 2, 2, 3, 3, 3, 3, 4, 4, 4, 4, 4, 4, 4, 4, 5, 5, 5, 5, 5, 5, 5, 5, 5, 5, 5, 5, 5, 5, 5, 5, 6, 6, 6, 6, 6, 6, 6, 6, 6, 6, 6, 6, 6, 6, 6, 6, 6, 6, 6, 6, 6, 6, 6, 6, 6, 6, 6, 6, 6, 6, 6, 6, 7, 7, 7, 7, 7, 7, 7, 7, 7, 7, 7, 7, 7, 7, 7, 7, 7, 7, 7, 7, 7, 7, 7, 7, 7, 7, 7, 7, 7, 7, 7, 7, 7, 7, 7, 7, 7, 7, 7, 7, 7, 7, 7, 7, 7, 7, 7, 7, 7, 7, 7, 7, 7, 7, 7, 7, 7, 7, 7, 7, 7, 7, 7, 7, 8, 8, 8, 8, 8, 8, 8, 8, 8, 8, 8, 8, 8, 8, 8, 8, 8, 8, 8, 8, 8, 8, 8, 8, 8, 8, 8, 8, 8, 8, 8, 8, 8, 8, 8, 8, 8, 8, 8, 8, 8, 8, 8, 8, 8, 8, 8, 8, 8, 8, 8, 8, 8, 8, 8, 8, 8, 8, 8, 8, 8, 8, 8, 8, 8, 8, 8, 8, 8, 8, 8, 8, 8, 8, 8, 8, 8, 8, 8, 8, 8, 8, 8, 8, 8, 8, 8, 8, 8, 8, 8, 8, 8, 8, 8, 8, 8, 8, 8, 8, 8, 8, 8, 8, 8, 8, 8, 8, 8, 8, 8, 8, 8, 8, 8, 8, 8, 8, 8, 8, 8, 8, 8, 8, 8, 8, 8, 8])) (.tmp 21)), none⟩, ⟨(some 23), (.cvInt .i64 (.tmp 22)), none⟩, ⟨(some 24), (.bin .add (.tmp 19) (.tmp 23)), none⟩, ⟨(some 2), (.mov (.tmp 24)), none⟩]
def f70_c : ACode := (.seq (.ops f70_r0) (.seq (.seq (.ops f70_r1) (.cond (.tmp 4) (.seq (.ops f70_r2) (.ops f70_r3)) .skip)) (.seq (.seq (.ops f70_r4) (.cond (.tmp 8) (.seq (.ops f70_r5) (.ops f70_r6)) .skip)) (.seq (.seq (.ops f70_r7) (.cond (.tmp 14) (.seq (.ops f70_r8) (.ops f70_r9)) .skip)) (.seq (.ops f70_r10) .ret)))))
def f70_a : AFunc := ⟨25, [(.tmp 2)], f70_c⟩

/-! 71 -/
def f71_r0 : List AStep := [⟨(some 2), (.mov (.con (.int .u64 0))), none⟩, ⟨(some 3), (.mov (.con (.int .i64 0))), none⟩, ⟨(some 4), (.mov (.con (.int .i64 0))), none⟩]
def f71_r1 : List AStep := [⟨(some 9), (.mov (.tmp 0)), none⟩, ⟨(some 10), (.len (.tmp 9)), none⟩, ⟨(some 11), (.bin .eql (.tmp 10) (.con (.int .i64 0))), none⟩, ⟨(some 8), (.mov (.tmp 11)), none⟩]
def f71_r2 : List AStep := [⟨(some 2), (.mov (.con (.int .u64 0))), none⟩, ⟨(some 3), (.mov (.con (.int .i64 0))), none⟩, ⟨(some 4), (.mov (.con (.int .i64 10))), none⟩]
def f71_r3 : List AStep := [⟨(some 13), (.mov (.tmp 0)), none⟩, ⟨(some 14), (.indexAddr 1 (.tmp 13) (.con (.int .i64 0))), none⟩, ⟨(some 15), (.load false 1 (.tmp 14)), none⟩, ⟨(some 16), (.bin .gtr (.tmp 15) (.con (.int .u8 8))), none⟩, ⟨(some 12), (.mov (.tmp 16)), none⟩]
def f71_r4 : List AStep := [⟨(some 2), (.mov (.con (.int .u64 0))), none⟩, ⟨(some 3), (.mov (.con (.int .i64 0))), none⟩, ⟨(some 4), (.mov (.con (.int .i64 11))), none⟩]
def f71_r5 : List AStep := [⟨(some 18), (.mov (.tmp 0)), none⟩, ⟨(some 19), (.len (.tmp 18)), none⟩, ⟨(some 20), (.bin .sub (.tmp 19) (.con (.int .i64 1))), none⟩, ⟨(some 21), (.mov (.tmp 0)), none⟩, ⟨(some 22), (.indexAddr 1 (.tmp 21) (.con (.int .i64 0))), none⟩, ⟨(some 23), (.load false 1 (.tmp 22)), none⟩, ⟨(some 24), (.cvInt .i64 (.tmp 23)), none⟩, ⟨(some 25), (.bin .lss (.tmp 20) (.tmp 24)), none⟩, ⟨(some 17), (.mov (.tmp 25)), none⟩]
def f71_r6 : List AStep := [⟨(some 2), (.mov (.con (.int .u64 0))), none⟩, ⟨(some 3), (.mov (.con (.int .i64 0))), none⟩, ⟨(some 4), (.mov (.con (.int .i64 10))), none⟩]
def f71_r7 : List AStep := [⟨(some 27), (.mov (.tmp 0)), none⟩, ⟨(some 28), (.indexAddr 1 (.tmp 27) (.con (.int .i64 0))), none⟩, ⟨(some 29), (.load false 1 (.tmp 28)), none⟩, ⟨(some 30), (.bin .gtr (.tmp 29) (.con (.int .u8 0))), none⟩, ⟨(some 31), (.mov (.tmp 30)), none⟩, ⟨(some 32), (.mov (.tmp 0)), (some (31, true))⟩, ⟨(some 33), (.indexAddr 1 (.tmp 32) (.con (.int .i64 1))), (some (31, true))⟩, ⟨(some 34), (.load false 1 (.tmp 33)), (some (31, true))⟩, ⟨(some 35), (.bin .eql (.tmp 34) (.con (.int .u8 0))), (some (31, true))⟩, ⟨(some 36), (.pick (.tmp 31) (.tmp 35) (.con (.bool false))), none⟩, ⟨(some 26), (.mov (.tmp 36)), none⟩]
def f71_r8 : List AStep := [⟨(some 2), (.mov (.con (.int .u64 0))), none⟩, ⟨(some 3), (.mov (.con (.int .i64 0))), none⟩, ⟨(some 4), (.mov (.con (.int .i64 11))), none⟩]
def f71_r9 : List AStep := [⟨(some 5), (.mov (.con (.int .u64 0))), none⟩]
def f71_r10 : List AStep := [⟨(some 37), (.mov (.tmp 0)), none⟩, ⟨(some 38), (.mov (.tmp 0)), none⟩, ⟨(some 39), (.indexAddr 1 (.tmp 38) (.con (.int .i64 0))), none⟩, ⟨(some 40), (.load false 1 (.tmp 39)), none⟩, ⟨(some 41), (.bin .add (.con (.int .u8 1)) (.tmp 40)), none⟩, ⟨(some 42), (.sliceS 1 (.tmp 37) (some (.con (.int .i64 1))) (some (.tmp 41))), none⟩, ⟨(some 43), (.len (.tmp 42)), none⟩, ⟨(some 44), (.mov (.con (.int .i64 0))), none⟩]
def f71_r11 : List AStep := [⟨(some 45), (.bin .lss (.tmp 44) (.tmp 43)), none⟩]
def f71_r12 : List AStep := [⟨(some 46), (.indexAddr 1 (.tmp 42) (.tmp 44)), none⟩, ⟨(some 47), (.load false 1 (.tmp 46)), none⟩, ⟨(some 7), (.mov (.tmp 47)), none⟩]
def f71_r13 : List AStep := [⟨(some 48), (.mov (.tmp 5)), none⟩, ⟨(some 49), (.bin .shl (.tmp 48) (.con (.int .u64 8))), none⟩, ⟨(some 50), (.mov (.tmp 7)), none⟩, ⟨(some 51), (.cvInt .u64 (.tmp 50)), none⟩, ⟨(some 52), (.bin .or (.tmp 49) (.tmp 51)), none⟩, ⟨(some 5), (.mov (.tmp 52)), none⟩]
def f71_r14 : List AStep := [⟨(some 53), (.bin .add (.tmp 44) (.con (.int .i64 1))), none⟩, ⟨(some 44), (.mov (.tmp 53)), none⟩]
def f71_l15 : ACode := (.seq (.ops f71_r11) (.seq (.cond (.tmp 45) .skip (.exit 1)) (.seq (.block 2 (.seq (.ops f71_r12) (.ops f71_r13))) (.ops f71_r14))))
def f71_r16 : List DStep := [⟨0, 0, ⟨(some 54), (.mov (.tmp 5)), none⟩⟩, ⟨1, 0, ⟨(some 55), (.mov (.tmp 0)), none⟩⟩, ⟨2, 2, ⟨(some 56), (.indexAddr 1 (.tmp 55) (.con (.int .i64 0))), none⟩⟩, ⟨3, 6, ⟨(some 57), (.load false 1 (.tmp 56)), none⟩⟩, ⟨4, 14, ⟨(some 58), (.cvInt .i64 (.tmp 57)), none⟩⟩, ⟨5, 30, ⟨(some 59), (.bin .add (.con (.int .i64 1)) (.tmp 58)), none⟩⟩, ⟨6, 1, ⟨(some 2), (.mov (.tmp 54)), none⟩⟩, ⟨7, 127, ⟨(some 3), (.mov (.tmp 59)), none⟩⟩, ⟨8, 255, ⟨(some 4), (.mov (.con (.int .i64 0))), none⟩⟩]
def f71_c : ACode := (.seq (.ops f71_r0) (.seq (.block 0 (.seq (.ops f71_r1) (.cond (.tmp 8) (.seq (.ops f71_r2) .ret) (.seq (.ops f71_r3) (.cond (.tmp 12) (.seq (.ops f71_r4) .ret) (.seq (.ops f71_r5) (.cond (.tmp 17) (.seq (.ops f71_r6) .ret) (.seq (.ops f71_r7) (.cond (.tmp 26) (.seq (.ops f71_r8) .ret) .skip))))))))) (.seq (.ops f71_r9) (.seq (.seq (.ops f71_r10) (.block 1 (.loop f71_l15))) (.seq (.draw f71_r16) .ret)))))
def f71_a : AFunc := ⟨60, [(.tmp 2), (.tmp 3), (.tmp 4)], f71_c⟩

/-! 72 -/
def f72_r0 : List AStep := [⟨(some 6), (.mov (.con (.bool false))), none⟩]
def f72_r1 : List AStep := [⟨(some 7), (.mov (.tmp 1)), none⟩, ⟨(some 8), (.mov (.tmp 7)), none⟩, ⟨(some 9), (.mov (.tmp 0)), (some (8, true))⟩, ⟨(some 10), (.nilCheck (.tmp 9)), (some (8, true))⟩, ⟨(some 11), (.fieldAddr 1 (.tmp 10)), (some (8, true))⟩, ⟨(some 12), (.load false 1 (.tmp 11)), (some (8, true))⟩, ⟨(some 13), (.bin .eql (.tmp 12) (.con (.int .i64 0))), (some (8, true))⟩, ⟨(some 14), (.pick (.tmp 8) (.tmp 13) (.con (.bool false))), none⟩]
def f72_r2 : List AStep := [⟨(some 15), (.mov (.tmp 0)), none⟩, ⟨(some 16), (.mov (.tmp 2)), none⟩, ⟨(some 17), (.nilCheck (.tmp 15)), none⟩, ⟨(some 18), (.fieldAddr 1 (.tmp 17)), none⟩, ⟨none, (.store 1 (.tmp 18) (.tmp 16)), none⟩]
def f72_r3 : List AStep := [⟨(some 19), (.mov (.tmp 0)), none⟩, ⟨(some 20), (.nilCheck (.tmp 19)), none⟩, ⟨(some 21), (.fieldAddr 1 (.tmp 20)), none⟩, ⟨(some 22), (.load false 1 (.tmp 21)), none⟩, ⟨(some 23), (.bin .neq (.tmp 22) (.con (.int .i64 0))), none⟩, ⟨(some 6), (.mov (.tmp 23)), none⟩]
def f72_c : ACode := (.seq (.ops f72_r0) (.seq (.seq (.ops f72_r1) (.cond (.tmp 14) (.ops f72_r2) .skip)) (.seq (.ops f72_r3) .ret)))
def f72_a : AFunc := ⟨24, [(.tmp 6)], f72_c⟩

set_option maxRecDepth 100000 in
theorem T3 : TT 3 = some f3_a := by kernel_rfl
set_option maxRecDepth 100000 in
theorem T4 : TT 4 = some f4_a := by kernel_rfl
set_option maxRecDepth 100000 in
theorem T5 : TT 5 = some f5_a := by kernel_rfl
set_option maxRecDepth 100000 in
theorem T6 : TT 6 = some f6_a := by kernel_rfl
set_option maxRecDepth 100000 in
theorem T7 : TT 7 = some f7_a := by kernel_rfl
set_option maxRecDepth 100000 in
theorem T8 : TT 8 = some f8_a := by kernel_rfl
set_option maxRecDepth 100000 in
theorem T9 : TT 9 = some f9_a := by kernel_rfl
set_option maxRecDepth 100000 in
theorem T10 : TT 10 = some f10_a := by kernel_rfl
set_option maxRecDepth 100000 in
theorem T11 : TT 11 = some f11_a := by kernel_rfl
set_option maxRecDepth 100000 in
theorem T12 : TT 12 = some f12_a := by kernel_rfl
set_option maxRecDepth 100000 in
theorem T13 : TT 13 = some f13_a := by kernel_rfl
set_option maxRecDepth 100000 in
theorem T14 : TT 14 = some f14_a := by kernel_rfl
set_option maxRecDepth 100000 in
theorem T15 : TT 15 = some f15_a := by kernel_rfl
set_option maxRecDepth 100000 in
theorem T16 : TT 16 = some f16_a := by kernel_rfl
set_option maxRecDepth 100000 in
theorem T17 : TT 17 = some f17_a := by kernel_rfl
set_option maxRecDepth 100000 in
theorem T18 : TT 18 = some f18_a := by kernel_rfl
set_option maxRecDepth 100000 in
theorem T19 : TT 19 = some f19_a := by kernel_rfl
set_option maxRecDepth 100000 in
theorem T20 : TT 20 = some f20_a := by kernel_rfl
set_option maxRecDepth 100000 in
theorem T21 : TT 21 = some f21_a := by kernel_rfl
set_option maxRecDepth 100000 in
theorem T22 : TT 22 = some f22_a := by kernel_rfl
set_option maxRecDepth 100000 in
theorem T23 : TT 23 = some f23_a := by kernel_rfl
set_option maxRecDepth 100000 in
theorem T24 : TT 24 = some f24_a := by kernel_rfl
set_option maxRecDepth 100000 in
theorem T25 : TT 25 = some f25_a := by kernel_rfl
set_option maxRecDepth 100000 in
theorem T26 : TT 26 = some f26_a := by kernel_rfl
set_option maxRecDepth 100000 in
theorem T27 : TT 27 = some f27_a := by kernel_rfl
set_option maxRecDepth 100000 in
theorem T28 : TT 28 = some f28_a := by kernel_rfl
set_option maxRecDepth 100000 in
theorem T29 : TT 29 = some f29_a := by kernel_rfl
set_option maxRecDepth 100000 in
theorem T30 : TT 30 = some f30_a := by kernel_rfl
set_option maxRecDepth 100000 in
theorem T31 : TT 31 = some f31_a := by kernel_rfl
set_option maxRecDepth 100000 in
theorem T32 : TT 32 = some f32_a := by kernel_rfl
set_option maxRecDepth 100000 in
theorem T33 : TT 33 = some f33_a := by kernel_rfl
set_option maxRecDepth 100000 in
theorem T34 : TT 34 = some f34_a := by kernel_rfl
set_option maxRecDepth 100000 in
theorem T35 : TT 35 = some f35_a := by kernel_rfl
set_option maxRecDepth 100000 in
theorem T36 : TT 36 = some f36_a := by kernel_rfl
set_option maxRecDepth 100000 in
theorem T37 : TT 37 = some f37_a := by kernel_rfl
set_option maxRecDepth 100000 in
theorem T38 : TT 38 = some f38_a := by kernel_rfl
set_option maxRecDepth 100000 in
theorem T39 : TT 39 = some f39_a := by kernel_rfl
set_option maxRecDepth 100000 in
theorem T40 : TT 40 = some f40_a := by kernel_rfl
set_option maxRecDepth 100000 in
theorem T41 : TT 41 = some f41_a := by kernel_rfl
set_option maxRecDepth 100000 in
theorem T42 : TT 42 = some f42_a := by kernel_rfl
set_option maxRecDepth 100000 in
theorem T43 : TT 43 = some f43_a := by kernel_rfl
set_option maxRecDepth 100000 in
theorem T44 : TT 44 = some f44_a := by kernel_rfl
set_option maxRecDepth 100000 in
theorem T45 : TT 45 = some f45_a := by kernel_rfl
set_option maxRecDepth 100000 in
theorem T46 : TT 46 = some f46_a := by kernel_rfl
set_option maxRecDepth 100000 in
theorem T47 : TT 47 = some f47_a := by kernel_rfl
set_option maxRecDepth 100000 in
theorem T48 : TT 48 = some f48_a := by kernel_rfl
set_option maxRecDepth 100000 in
theorem T49 : TT 49 = some f49_a := by kernel_rfl
set_option maxRecDepth 100000 in
theorem T50 : TT 50 = some f50_a := by kernel_rfl
set_option maxRecDepth 100000 in
theorem T51 : TT 51 = some f51_a := by kernel_rfl
set_option maxRecDepth 100000 in
theorem T52 : TT 52 = some f52_a := by kernel_rfl
set_option maxRecDepth 100000 in
theorem T53 : TT 53 = some f53_a := by kernel_rfl
set_option maxRecDepth 100000 in
theorem T54 : TT 54 = some f54_a := by kernel_rfl
set_option maxRecDepth 100000 in
theorem T55 : TT 55 = some f55_a := by kernel_rfl
set_option maxRecDepth 100000 in
theorem T56 : TT 56 = some f56_a := by kernel_rfl
set_option maxRecDepth 100000 in
theorem T57 : TT 57 = some f57_a := by kernel_rfl
set_option maxRecDepth 100000 in
theorem T58 : TT 58 = some f58_a := by kernel_rfl
set_option maxRecDepth 100000 in
theorem T59 : TT 59 = some f59_a := by kernel_rfl
set_option maxRecDepth 100000 in
theorem T60 : TT 60 = some f60_a := by kernel_rfl
set_option maxRecDepth 100000 in
theorem T61 : TT 61 = some f61_a := by kernel_rfl
set_option maxRecDepth 100000 in
theorem T62 : TT 62 = some f62_a := by kernel_rfl
set_option maxRecDepth 100000 in
theorem T63 : TT 63 = some f63_a := by kernel_rfl
set_option maxRecDepth 100000 in
theorem T64 : TT 64 = some f64_a := by kernel_rfl
set_option maxRecDepth 100000 in
theorem T65 : TT 65 = some f65_a := by kernel_rfl
set_option maxRecDepth 100000 in
theorem T66 : TT 66 = some f66_a := by kernel_rfl
set_option maxRecDepth 100000 in
theorem T67 : TT 67 = some f67_a := by kernel_rfl
set_option maxRecDepth 100000 in
theorem T68 : TT 68 = some f68_a := by kernel_rfl
set_option maxRecDepth 100000 in
theorem T69 : TT 69 = some f69_a := by kernel_rfl
set_option maxRecDepth 100000 in
theorem T70 : TT 70 = some f70_a := by kernel_rfl
set_option maxRecDepth 100000 in
theorem T71 : TT 71 = some f71_a := by kernel_rfl
set_option maxRecDepth 100000 in
theorem T72 : TT 72 = some f72_a := by kernel_rfl
end Go.Proofs.Ytmfbememiffkjaa.Ev.C
