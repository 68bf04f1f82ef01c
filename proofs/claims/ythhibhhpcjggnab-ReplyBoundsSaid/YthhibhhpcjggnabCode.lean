/- The functions of the program as the interpreter has them, printed by a program of ours. -/
import Derived.Test.YthhibhhpcjggnabProg
import Derived.Test.YthhibhhpcjggnabEv28
namespace Go.Proofs.Ythhibhhpcjggnab.Ev.C
open Go Go.Proofs.Ythhibhhpcjggnab.Ev
noncomputable abbrev TT : Nat → Option AFunc := table Go.Proofs.Try.prog
/-! 3 -/
def f3_r0 : List AStep := [⟨(some 6), (.mov (.con (.bool false))), none⟩]
def f3_r1 : List AStep := [⟨(some 17), (.call (.con (.func 12 [])) []), none⟩, ⟨(some 7), (.mov (.tmp 17)), none⟩]
def f3_r2 : List AStep := [⟨(some 18), (.mov (.tmp 7)), none⟩, ⟨(some 19), (.not (.tmp 18)), none⟩]
def f3_r3 : List AStep := [⟨(some 6), (.mov (.con (.bool false))), none⟩]
def f3_r4 : List AStep := [⟨(some 20), (.mov (.tmp 0)), none⟩, ⟨(some 21), (.len (.tmp 20)), none⟩, ⟨(some 22), (.bin .gtr (.tmp 21) (.con (.int .i64 200))), none⟩, ⟨(some 23), (.mov (.tmp 22)), none⟩, ⟨(some 24), (.mov (.tmp 1)), (some (23, false))⟩, ⟨(some 25), (.len (.tmp 24)), (some (23, false))⟩, ⟨(some 26), (.bin .gtr (.tmp 25) (.con (.int .i64 40))), (some (23, false))⟩, ⟨(some 27), (.pick (.tmp 23) (.con (.bool true)) (.tmp 26)), none⟩, ⟨(some 28), (.mov (.tmp 27)), none⟩, ⟨(some 29), (.mov (.tmp 2)), (some (28, false))⟩, ⟨(some 30), (.len (.tmp 29)), (some (28, false))⟩, ⟨(some 31), (.bin .gtr (.tmp 30) (.con (.int .i64 1000))), (some (28, false))⟩, ⟨(some 32), (.pick (.tmp 28) (.con (.bool true)) (.tmp 31)), none⟩]
def f3_r5 : List AStep := [⟨(some 6), (.mov (.con (.bool true))), none⟩]
def f3_r6 : List AStep := [⟨(some 8), (.mov (.con (.str []))), none⟩]
def f3_r7 : List AStep := [⟨(some 9), (.mov (.con (.int .i64 0))), none⟩]
def f3_r8 : List AStep := [⟨(some 33), (.mov (.tmp 9)), none⟩, ⟨(some 34), (.mov (.tmp 0)), none⟩, ⟨(some 35), (.len (.tmp 34)), none⟩, ⟨(some 36), (.bin .lss (.tmp 33) (.tmp 35)), none⟩]
def f3_r9 : List AStep := [⟨(some 39), (.mov (.tmp 8)), none⟩, ⟨(some 40), (.mov (.tmp 0)), none⟩, ⟨(some 41), (.mov (.tmp 9)), none⟩, ⟨(some 42), (.indexAddr 1 (.tmp 40) (.tmp 41)), none⟩, ⟨(some 43), (.load false 1 (.tmp 42)), none⟩, ⟨(some 44), (.call (.con (.func 13 [])) [(.tmp 43)]), none⟩, ⟨(some 45), (.bin .add (.tmp 39) (.tmp 44)), none⟩, ⟨(some 8), (.mov (.tmp 45)), none⟩]
def f3_r10 : List AStep := [⟨(some 37), (.mov (.tmp 9)), none⟩, ⟨(some 38), (.bin .add (.tmp 37) (.con (.int .i64 1))), none⟩, ⟨(some 9), (.mov (.tmp 38)), none⟩]
def f3_l11 : ACode := (.seq (.seq (.ops f3_r8) (.cond (.tmp 36) .skip (.exit 0))) (.seq (.block 1 (.ops f3_r9)) (.ops f3_r10)))
def f3_r12 : List AStep := [⟨(some 10), (.mov (.con (.int .i64 0))), none⟩]
def f3_r13 : List AStep := [⟨(some 46), (.mov (.tmp 10)), none⟩, ⟨(some 47), (.mov (.tmp 1)), none⟩, ⟨(some 48), (.len (.tmp 47)), none⟩, ⟨(some 49), (.bin .lss (.tmp 46) (.tmp 48)), none⟩]
def f3_r14 : List AStep := [⟨(some 52), (.mov (.tmp 1)), none⟩, ⟨(some 53), (.mov (.tmp 10)), none⟩, ⟨(some 54), (.indexAddr 1 (.tmp 52) (.tmp 53)), none⟩, ⟨(some 55), (.load false 1 (.tmp 54)), none⟩, ⟨(some 56), (.lenT (.tmp 55)), none⟩, ⟨(some 57), (.bin .gtr (.tmp 56) (.con (.int .i64 400))), none⟩]
def f3_r15 : List AStep := [⟨(some 6), (.mov (.con (.bool true))), none⟩]
def f3_r16 : List AStep := [⟨(some 50), (.mov (.tmp 10)), none⟩, ⟨(some 51), (.bin .add (.tmp 50) (.con (.int .i64 1))), none⟩, ⟨(some 10), (.mov (.tmp 51)), none⟩]
def f3_l17 : ACode := (.seq (.seq (.ops f3_r13) (.cond (.tmp 49) .skip (.exit 2))) (.seq (.block 3 (.seq (.ops f3_r14) (.cond (.tmp 57) (.seq (.ops f3_r15) .ret) .skip))) (.ops f3_r16)))
def f3_r18 : List AStep := [⟨(some 59), (.mov (.tmp 2)), none⟩, ⟨(some 60), (.call (.con (.func 14 [])) [(.tmp 59)]), none⟩, ⟨(some 58), (.mov (.tmp 60)), none⟩, ⟨(some 61), (.extract (.tmp 58) 0), none⟩, ⟨(some 62), (.extract (.tmp 58) 1), none⟩, ⟨(some 63), (.extract (.tmp 58) 2), none⟩, ⟨(some 11), (.mov (.tmp 61)), none⟩, ⟨(some 12), (.mov (.tmp 62)), none⟩, ⟨(some 13), (.mov (.tmp 63)), none⟩]
def f3_r19 : List AStep := [⟨(some 65), (.mov (.tmp 2)), none⟩, ⟨(some 66), (.cvB2S (.tmp 65)), none⟩, ⟨(some 67), (.call (.con (.func 15 [])) [(.tmp 66)]), none⟩, ⟨(some 64), (.mov (.tmp 67)), none⟩, ⟨(some 68), (.extract (.tmp 64) 0), none⟩, ⟨(some 69), (.extract (.tmp 64) 1), none⟩, ⟨(some 70), (.extract (.tmp 64) 2), none⟩, ⟨(some 14), (.mov (.tmp 68)), none⟩, ⟨(some 15), (.mov (.tmp 69)), none⟩, ⟨(some 16), (.mov (.tmp 70)), none⟩]
def f3_r20 : List DStep := [⟨0, 0, ⟨(some 71), (.mov (.tmp 0)), none⟩⟩, ⟨3, 0, ⟨(some 74), (.mov (.tmp 8)), none⟩⟩, ⟨1, 1, ⟨(some 72), (.call (.con (.func 16 [])) [(.tmp 71)]), none⟩⟩, ⟨2, 3, ⟨(some 73), (.cvB2S (.tmp 72)), none⟩⟩, ⟨4, 15, ⟨(some 75), (.bin .eql (.tmp 73) (.tmp 74)), none⟩⟩, ⟨5, 31, ⟨(some 76), (.mov (.tmp 75)), none⟩⟩, ⟨6, 63, ⟨(some 77), (.mov (.tmp 1)), (some (76, true))⟩⟩, ⟨9, 63, ⟨(some 80), (.mov (.tmp 1)), (some (76, true))⟩⟩, ⟨7, 127, ⟨(some 78), (.call (.con (.func 17 [])) [(.tmp 77)]), (some (76, true))⟩⟩, ⟨8, 255, ⟨(some 79), (.cvB2S (.tmp 78)), (some (76, true))⟩⟩, ⟨10, 767, ⟨(some 81), (.call (.con (.func 18 [])) [(.tmp 80)]), (some (76, true))⟩⟩, ⟨11, 2047, ⟨(some 82), (.bin .eql (.tmp 79) (.tmp 81)), (some (76, true))⟩⟩, ⟨12, 4095, ⟨(some 83), (.pick (.tmp 76) (.tmp 82) (.con (.bool false))), none⟩⟩, ⟨13, 8191, ⟨(some 84), (.mov (.tmp 83)), none⟩⟩, ⟨14, 16383, ⟨(some 85), (.mov (.tmp 1)), (some (84, true))⟩⟩, ⟨17, 16383, ⟨(some 88), (.mov (.tmp 1)), (some (84, true))⟩⟩, ⟨15, 32767, ⟨(some 86), (.call (.con (.func 19 [])) [(.tmp 85)]), (some (84, true))⟩⟩, ⟨16, 65535, ⟨(some 87), (.cvB2S (.tmp 86)), (some (84, true))⟩⟩, ⟨18, 196607, ⟨(some 89), (.call (.con (.func 20 [])) [(.tmp 88)]), (some (84, true))⟩⟩, ⟨19, 524287, ⟨(some 90), (.bin .eql (.tmp 87) (.tmp 89)), (some (84, true))⟩⟩, ⟨20, 1048575, ⟨(some 91), (.pick (.tmp 84) (.tmp 90) (.con (.bool false))), none⟩⟩, ⟨21, 2097151, ⟨(some 92), (.mov (.tmp 91)), none⟩⟩, ⟨22, 4194303, ⟨(some 93), (.mov (.tmp 11)), (some (92, true))⟩⟩, ⟨23, 4194303, ⟨(some 94), (.mov (.tmp 14)), (some (92, true))⟩⟩, ⟨24, 16777215, ⟨(some 95), (.bin .eql (.tmp 93) (.tmp 94)), (some (92, true))⟩⟩, ⟨25, 33554431, ⟨(some 96), (.pick (.tmp 92) (.tmp 95) (.con (.bool false))), none⟩⟩, ⟨26, 67108863, ⟨(some 97), (.mov (.tmp 96)), none⟩⟩, ⟨27, 134217727, ⟨(some 98), (.mov (.tmp 12)), (some (97, true))⟩⟩, ⟨28, 134217727, ⟨(some 99), (.mov (.tmp 15)), (some (97, true))⟩⟩, ⟨29, 536870911, ⟨(some 100), (.bin .eql (.tmp 98) (.tmp 99)), (some (97, true))⟩⟩, ⟨30, 1073741823, ⟨(some 101), (.pick (.tmp 97) (.tmp 100) (.con (.bool false))), none⟩⟩, ⟨31, 2147483647, ⟨(some 102), (.mov (.tmp 101)), none⟩⟩, ⟨32, 4294967295, ⟨(some 103), (.mov (.tmp 13)), (some (102, true))⟩⟩, ⟨33, 4294967295, ⟨(some 104), (.mov (.tmp 16)), (some (102, true))⟩⟩, ⟨34, 17179869183, ⟨(some 105), (.bin .eql (.tmp 103) (.tmp 104)), (some (102, true))⟩⟩, ⟨35, 34359738367, ⟨(some 106), (.pick (.tmp 102) (.tmp 105) (.con (.bool false))), none⟩⟩, ⟨36, 68719476735, ⟨(some 6), (.mov (.tmp 106)), none⟩⟩]
def f3_c : ACode := (.seq (.ops f3_r0) (.seq (.ops f3_r1) (.seq (.seq (.ops f3_r2) (.cond (.tmp 19) (.seq (.ops f3_r3) .ret) .skip)) (.seq (.seq (.ops f3_r4) (.cond (.tmp 32) (.seq (.ops f3_r5) .ret) .skip)) (.seq (.ops f3_r6) (.seq (.seq (.ops f3_r7) (.block 0 (.loop f3_l11))) (.seq (.seq (.ops f3_r12) (.block 2 (.loop f3_l17))) (.seq (.ops f3_r18) (.seq (.ops f3_r19) (.seq (.draw f3_r20) .ret))))))))))
def f3_a : AFunc := ⟨107, [(.tmp 6)], f3_c⟩

/-! 4 -/
def f4_r0 : List AStep := [⟨(some 4), (.mov (.con (.bool false))), none⟩]
def f4_r1 : List AStep := [⟨(some 21), (.call (.con (.func 12 [])) []), none⟩, ⟨(some 5), (.mov (.tmp 21)), none⟩]
def f4_r2 : List AStep := [⟨(some 22), (.mov (.tmp 5)), none⟩, ⟨(some 23), (.not (.tmp 22)), none⟩]
def f4_r3 : List AStep := [⟨(some 4), (.mov (.con (.bool false))), none⟩]
def f4_r4 : List AStep := [⟨(some 24), (.mov (.tmp 0)), none⟩, ⟨(some 25), (.len (.tmp 24)), none⟩, ⟨(some 26), (.bin .gtr (.tmp 25) (.con (.int .i64 600))), none⟩, ⟨(some 27), (.mov (.tmp 26)), none⟩, ⟨(some 28), (.mov (.tmp 1)), (some (27, false))⟩, ⟨(some 29), (.len (.tmp 28)), (some (27, false))⟩, ⟨(some 30), (.bin .gtr (.tmp 29) (.con (.int .i64 60))), (some (27, false))⟩, ⟨(some 31), (.pick (.tmp 27) (.con (.bool true)) (.tmp 30)), none⟩]
def f4_r5 : List AStep := [⟨(some 4), (.mov (.con (.bool true))), none⟩]
def f4_r6 : List AStep := [⟨(some 32), (.mov (.tmp 0)), none⟩, ⟨(some 33), (.call (.con (.func 21 [])) [(.tmp 32)]), none⟩, ⟨(some 6), (.mov (.tmp 33)), none⟩]
def f4_r7 : List AStep := [⟨(some 34), (.mov (.tmp 0)), none⟩, ⟨(some 35), (.cvB2S (.tmp 34)), none⟩, ⟨(some 36), (.build [(.str []), (.int .i64 0)] [(0, (1, (.tmp 35)))]), none⟩, ⟨(some 7), (.alloc [(.str []), (.int .i64 0)]), none⟩, ⟨none, (.store 2 (.tmp 7) (.tmp 36)), none⟩]
def f4_r8 : List AStep := [⟨(some 8), (.mov (.con (.int .i64 0))), none⟩]
def f4_r9 : List AStep := [⟨(some 37), (.mov (.tmp 8)), none⟩, ⟨(some 38), (.mov (.tmp 1)), none⟩, ⟨(some 39), (.len (.tmp 38)), none⟩, ⟨(some 40), (.bin .lss (.tmp 37) (.tmp 39)), none⟩]
def f4_r10 : List AStep := [⟨(some 84), (.mov (.tmp 1)), none⟩, ⟨(some 85), (.mov (.tmp 8)), none⟩, ⟨(some 86), (.indexAddr 1 (.tmp 84) (.tmp 85)), none⟩, ⟨(some 87), (.load false 1 (.tmp 86)), none⟩, ⟨(some 88), (.bin .eql (.tmp 87) (.con (.int .i8 0))), none⟩, ⟨(some 83), (.mov (.tmp 88)), none⟩]
def f4_r11 : List AStep := [⟨(some 89), (.mov (.tmp 6)), none⟩, ⟨(some 90), (.call (.con (.func 22 [])) [(.tmp 89)]), none⟩, ⟨(some 9), (.mov (.tmp 90)), none⟩]
def f4_r12 : List AStep := [⟨(some 92), (.load true 2 (.tmp 7)), none⟩, ⟨(some 93), (.call (.con (.func 23 [])) [(.tmp 92)]), none⟩, ⟨(some 91), (.mov (.tmp 93)), none⟩, ⟨(some 94), (.extract (.tmp 91) 0), none⟩, ⟨(some 95), (.extract (.tmp 91) 1), none⟩, ⟨(some 11), (.alloc [(.str []), (.int .i64 0)]), none⟩, ⟨(some 10), (.mov (.tmp 94)), none⟩, ⟨none, (.store 2 (.tmp 11) (.tmp 95)), none⟩]
def f4_r13 : List AStep := [⟨(some 96), (.load true 2 (.tmp 11)), none⟩, ⟨none, (.store 2 (.tmp 7) (.tmp 96)), none⟩]
def f4_r14 : List AStep := [⟨(some 97), (.mov (.tmp 9)), none⟩, ⟨(some 98), (.mov (.tmp 10)), none⟩, ⟨(some 99), (.bin .neq (.tmp 97) (.tmp 98)), none⟩]
def f4_r15 : List AStep := [⟨(some 4), (.mov (.con (.bool false))), none⟩]
def f4_r16 : List AStep := [⟨(some 101), (.mov (.tmp 1)), none⟩, ⟨(some 102), (.mov (.tmp 8)), none⟩, ⟨(some 103), (.indexAddr 1 (.tmp 101) (.tmp 102)), none⟩, ⟨(some 104), (.load false 1 (.tmp 103)), none⟩, ⟨(some 105), (.bin .eql (.tmp 104) (.con (.int .i8 1))), none⟩, ⟨(some 100), (.mov (.tmp 105)), none⟩]
def f4_r17 : List AStep := [⟨(some 106), (.mov (.tmp 6)), none⟩, ⟨(some 107), (.call (.con (.func 24 [])) [(.tmp 106)]), none⟩, ⟨(some 12), (.mov (.tmp 107)), none⟩]
def f4_r18 : List AStep := [⟨(some 109), (.load true 2 (.tmp 7)), none⟩, ⟨(some 110), (.call (.con (.func 25 [])) [(.tmp 109)]), none⟩, ⟨(some 108), (.mov (.tmp 110)), none⟩, ⟨(some 111), (.extract (.tmp 108) 0), none⟩, ⟨(some 112), (.extract (.tmp 108) 1), none⟩, ⟨(some 14), (.alloc [(.str []), (.int .i64 0)]), none⟩, ⟨(some 13), (.mov (.tmp 111)), none⟩, ⟨none, (.store 2 (.tmp 14) (.tmp 112)), none⟩]
def f4_r19 : List AStep := [⟨(some 113), (.load true 2 (.tmp 14)), none⟩, ⟨none, (.store 2 (.tmp 7) (.tmp 113)), none⟩]
def f4_r20 : List AStep := [⟨(some 114), (.mov (.tmp 12)), none⟩, ⟨(some 115), (.mov (.tmp 13)), none⟩, ⟨(some 116), (.bin .neq (.tmp 114) (.tmp 115)), none⟩]
def f4_r21 : List AStep := [⟨(some 4), (.mov (.con (.bool false))), none⟩]
def f4_r22 : List AStep := [⟨(some 43), (.mov (.tmp 6)), none⟩, ⟨(some 44), (.mov (.tmp 1)), none⟩, ⟨(some 45), (.mov (.tmp 8)), none⟩, ⟨(some 46), (.indexAddr 1 (.tmp 44) (.tmp 45)), none⟩, ⟨(some 47), (.load false 1 (.tmp 46)), none⟩, ⟨(some 48), (.cvInt .i64 (.tmp 47)), none⟩, ⟨(some 49), (.bin .sub (.tmp 48) (.con (.int .i64 3))), none⟩, ⟨(some 50), (.call (.con (.func 26 [])) [(.tmp 43), (.tmp 49)]), none⟩, ⟨(some 15), (.mov (.tmp 50)), none⟩]
def f4_r23 : List DStep := [⟨0, 0, ⟨(some 52), (.load true 2 (.tmp 7)), none⟩⟩, ⟨1, 0, ⟨(some 53), (.mov (.tmp 1)), none⟩⟩, ⟨2, 0, ⟨(some 54), (.mov (.tmp 8)), none⟩⟩, ⟨3, 6, ⟨(some 55), (.indexAddr 1 (.tmp 53) (.tmp 54)), none⟩⟩, ⟨4, 14, ⟨(some 56), (.load false 1 (.tmp 55)), none⟩⟩, ⟨5, 30, ⟨(some 57), (.cvInt .i64 (.tmp 56)), none⟩⟩, ⟨6, 62, ⟨(some 58), (.bin .sub (.tmp 57) (.con (.int .i64 3))), none⟩⟩, ⟨11, 0, ⟨(some 17), (.alloc [(.str []), (.int .i64 0)]), none⟩⟩, ⟨7, 127, ⟨(some 59), (.call (.con (.func 27 [])) [(.tmp 52), (.tmp 58)]), none⟩⟩, ⟨8, 255, ⟨(some 51), (.mov (.tmp 59)), none⟩⟩, ⟨9, 511, ⟨(some 60), (.extract (.tmp 51) 0), none⟩⟩, ⟨10, 511, ⟨(some 61), (.extract (.tmp 51) 1), none⟩⟩, ⟨12, 3071, ⟨(some 16), (.mov (.tmp 60)), none⟩⟩, ⟨13, 8191, ⟨none, (.store 2 (.tmp 17) (.tmp 61)), none⟩⟩]
def f4_r24 : List AStep := [⟨(some 62), (.load true 2 (.tmp 17)), none⟩, ⟨none, (.store 2 (.tmp 7) (.tmp 62)), none⟩]
def f4_r25 : List AStep := [⟨(some 63), (.mov (.tmp 15)), none⟩, ⟨(some 64), (.len (.tmp 63)), none⟩, ⟨(some 65), (.mov (.tmp 16)), none⟩, ⟨(some 66), (.len (.tmp 65)), none⟩, ⟨(some 67), (.bin .neq (.tmp 64) (.tmp 66)), none⟩]
def f4_r26 : List AStep := [⟨(some 4), (.mov (.con (.bool false))), none⟩]
def f4_r27 : List AStep := [⟨(some 18), (.mov (.con (.int .i64 0))), none⟩]
def f4_r28 : List AStep := [⟨(some 68), (.mov (.tmp 18)), none⟩, ⟨(some 69), (.mov (.tmp 15)), none⟩, ⟨(some 70), (.len (.tmp 69)), none⟩, ⟨(some 71), (.bin .lss (.tmp 68) (.tmp 70)), none⟩]
def f4_r29 : List DStep := [⟨0, 0, ⟨(some 74), (.mov (.tmp 15)), none⟩⟩, ⟨1, 0, ⟨(some 75), (.mov (.tmp 18)), none⟩⟩, ⟨2, 3, ⟨(some 76), (.indexAddr 1 (.tmp 74) (.tmp 75)), none⟩⟩, ⟨3, 7, ⟨(some 77), (.load false 1 (.tmp 76)), none⟩⟩, ⟨4, 0, ⟨(some 78), (.mov (.tmp 16)), none⟩⟩, ⟨5, 0, ⟨(some 79), (.mov (.tmp 18)), none⟩⟩, ⟨6, 48, ⟨(some 80), (.indexAddr 1 (.tmp 78) (.tmp 79)), none⟩⟩, ⟨7, 112, ⟨(some 81), (.load false 1 (.tmp 80)), none⟩⟩, ⟨8, 255, ⟨(some 82), (.bin .neq (.tmp 77) (.tmp 81)), none⟩⟩]
def f4_r30 : List AStep := [⟨(some 4), (.mov (.con (.bool false))), none⟩]
def f4_r31 : List AStep := [⟨(some 72), (.mov (.tmp 18)), none⟩, ⟨(some 73), (.bin .add (.tmp 72) (.con (.int .i64 1))), none⟩, ⟨(some 18), (.mov (.tmp 73)), none⟩]
def f4_l32 : ACode := (.seq (.seq (.ops f4_r28) (.cond (.tmp 71) .skip (.exit 3))) (.seq (.block 4 (.seq (.draw f4_r29) (.cond (.tmp 82) (.seq (.ops f4_r30) .ret) .skip))) (.ops f4_r31)))
def f4_r33 : List AStep := [⟨(some 117), (.fieldAddr 1 (.tmp 7)), none⟩, ⟨(some 118), (.load false 1 (.tmp 117)), none⟩, ⟨(some 19), (.mov (.tmp 118)), none⟩]
def f4_r34 : List AStep := [⟨(some 119), (.mov (.tmp 19)), none⟩, ⟨(some 120), (.bin .eql (.tmp 119) (.con (.int .i64 0))), none⟩, ⟨(some 121), (.mov (.tmp 120)), none⟩, ⟨(some 122), (.fieldAddr 0 (.tmp 7)), (some (121, true))⟩, ⟨(some 123), (.load false 1 (.tmp 122)), (some (121, true))⟩, ⟨(some 124), (.bin .neq (.tmp 123) (.con (.str []))), (some (121, true))⟩, ⟨(some 125), (.pick (.tmp 121) (.tmp 124) (.con (.bool false))), none⟩]
def f4_r35 : List AStep := [⟨(some 19), (.mov (.con (.int .i64 12))), none⟩]
def f4_r36 : List DStep := [⟨0, 0, ⟨(some 126), (.mov (.tmp 6)), none⟩⟩, ⟨2, 0, ⟨(some 128), (.fieldAddr 0 (.tmp 7)), none⟩⟩, ⟨3, 4, ⟨(some 129), (.load false 1 (.tmp 128)), none⟩⟩, ⟨4, 12, ⟨(some 130), (.lenT (.tmp 129)), none⟩⟩, ⟨1, 1, ⟨(some 127), (.call (.con (.func 28 [])) [(.tmp 126)]), none⟩⟩, ⟨5, 31, ⟨(some 131), (.bin .neq (.tmp 127) (.tmp 130)), none⟩⟩, ⟨6, 63, ⟨(some 132), (.mov (.tmp 131)), none⟩⟩, ⟨7, 127, ⟨(some 133), (.mov (.tmp 6)), (some (132, false))⟩⟩, ⟨9, 127, ⟨(some 135), (.fieldAddr 1 (.tmp 7)), (some (132, false))⟩⟩, ⟨10, 639, ⟨(some 136), (.load false 1 (.tmp 135)), (some (132, false))⟩⟩, ⟨8, 255, ⟨(some 134), (.call (.con (.func 29 [])) [(.tmp 133)]), (some (132, false))⟩⟩, ⟨11, 2047, ⟨(some 137), (.bin .neq (.tmp 134) (.tmp 136)), (some (132, false))⟩⟩, ⟨12, 4095, ⟨(some 138), (.pick (.tmp 132) (.con (.bool true)) (.tmp 137)), none⟩⟩, ⟨13, 8191, ⟨(some 139), (.mov (.tmp 138)), none⟩⟩, ⟨14, 16383, ⟨(some 140), (.mov (.tmp 6)), (some (139, false))⟩⟩, ⟨16, 16383, ⟨(some 142), (.mov (.tmp 19)), (some (139, false))⟩⟩, ⟨15, 32767, ⟨(some 141), (.call (.con (.func 30 [])) [(.tmp 140)]), (some (139, false))⟩⟩, ⟨17, 131071, ⟨(some 143), (.bin .neq (.tmp 141) (.tmp 142)), (some (139, false))⟩⟩, ⟨18, 262143, ⟨(some 144), (.pick (.tmp 139) (.con (.bool true)) (.tmp 143)), none⟩⟩]
def f4_r37 : List AStep := [⟨(some 4), (.mov (.con (.bool false))), none⟩]
def f4_r38 : List AStep := [⟨(some 41), (.mov (.tmp 8)), none⟩, ⟨(some 42), (.bin .add (.tmp 41) (.con (.int .i64 1))), none⟩, ⟨(some 8), (.mov (.tmp 42)), none⟩]
def f4_l39 : ACode := (.seq (.seq (.ops f4_r9) (.cond (.tmp 40) .skip (.exit 0))) (.seq (.block 1 (.seq (.block 2 (.seq (.ops f4_r10) (.cond (.tmp 83) (.seq (.ops f4_r11) (.seq (.ops f4_r12) (.seq (.ops f4_r13) (.seq (.ops f4_r14) (.cond (.tmp 99) (.seq (.ops f4_r15) .ret) .skip))))) (.seq (.ops f4_r16) (.cond (.tmp 100) (.seq (.ops f4_r17) (.seq (.ops f4_r18) (.seq (.ops f4_r19) (.seq (.ops f4_r20) (.cond (.tmp 116) (.seq (.ops f4_r21) .ret) .skip))))) (.seq (.ops f4_r22) (.seq (.draw f4_r23) (.seq (.ops f4_r24) (.seq (.seq (.ops f4_r25) (.cond (.tmp 67) (.seq (.ops f4_r26) .ret) .skip)) (.seq (.ops f4_r27) (.block 3 (.loop f4_l32)))))))))))) (.seq (.ops f4_r33) (.seq (.seq (.ops f4_r34) (.cond (.tmp 125) (.ops f4_r35) .skip)) (.seq (.draw f4_r36) (.cond (.tmp 144) (.seq (.ops f4_r37) .ret) .skip)))))) (.ops f4_r38)))
def f4_r40 : List AStep := [⟨(some 20), (.mov (.con .nilp)), none⟩]
def f4_r41 : List AStep := [⟨(some 145), (.mov (.tmp 20)), none⟩, ⟨(some 146), (.call (.con (.func 22 [])) [(.tmp 145)]), none⟩, ⟨(some 147), (.bin .eql (.tmp 146) (.con (.int .u64 0))), none⟩, ⟨(some 148), (.mov (.tmp 147)), none⟩, ⟨(some 149), (.mov (.tmp 20)), (some (148, true))⟩, ⟨(some 150), (.call (.con (.func 24 [])) [(.tmp 149)]), (some (148, true))⟩, ⟨(some 151), (.bin .eql (.tmp 150) (.con (.str []))), (some (148, true))⟩, ⟨(some 152), (.pick (.tmp 148) (.tmp 151) (.con (.bool false))), none⟩, ⟨(some 153), (.mov (.tmp 152)), none⟩, ⟨(some 154), (.mov (.tmp 20)), (some (153, true))⟩, ⟨(some 155), (.call (.con (.func 26 [])) [(.tmp 154), (.con (.int .i64 3))]), (some (153, true))⟩, ⟨(some 156), (.len (.tmp 155)), (some (153, true))⟩, ⟨(some 157), (.bin .eql (.tmp 156) (.con (.int .i64 0))), (some (153, true))⟩, ⟨(some 158), (.pick (.tmp 153) (.tmp 157) (.con (.bool false))), none⟩, ⟨(some 159), (.mov (.tmp 158)), none⟩, ⟨(some 160), (.mov (.tmp 20)), (some (159, true))⟩, ⟨(some 161), (.call (.con (.func 28 [])) [(.tmp 160)]), (some (159, true))⟩, ⟨(some 162), (.bin .eql (.tmp 161) (.con (.int .i64 0))), (some (159, true))⟩, ⟨(some 163), (.pick (.tmp 159) (.tmp 162) (.con (.bool false))), none⟩, ⟨(some 164), (.mov (.tmp 163)), none⟩, ⟨(some 165), (.mov (.tmp 20)), (some (164, true))⟩, ⟨(some 166), (.call (.con (.func 29 [])) [(.tmp 165)]), (some (164, true))⟩, ⟨(some 167), (.bin .eql (.tmp 166) (.con (.int .i64 10))), (some (164, true))⟩, ⟨(some 168), (.pick (.tmp 164) (.tmp 167) (.con (.bool false))), none⟩, ⟨(some 169), (.mov (.tmp 168)), none⟩, ⟨(some 170), (.mov (.tmp 20)), (some (169, true))⟩, ⟨(some 171), (.call (.con (.func 30 [])) [(.tmp 170)]), (some (169, true))⟩, ⟨(some 172), (.bin .eql (.tmp 171) (.con (.int .i64 10))), (some (169, true))⟩, ⟨(some 173), (.pick (.tmp 169) (.tmp 172) (.con (.bool false))), none⟩, ⟨(some 4), (.mov (.tmp 173)), none⟩]
def f4_c : ACode := (.seq (.ops f4_r0) (.seq (.ops f4_r1) (.seq (.seq (.ops f4_r2) (.cond (.tmp 23) (.seq (.ops f4_r3) .ret) .skip)) (.seq (.seq (.ops f4_r4) (.cond (.tmp 31) (.seq (.ops f4_r5) .ret) .skip)) (.seq (.ops f4_r6) (.seq (.ops f4_r7) (.seq (.seq (.ops f4_r8) (.block 0 (.loop f4_l39))) (.seq (.ops f4_r40) (.seq (.ops f4_r41) .ret)))))))))
def f4_a : AFunc := ⟨174, [(.tmp 4)], f4_c⟩

/-! 5 -/
def f5_r0 : List AStep := [⟨(some 6), (.mov (.con (.bool false))), none⟩]
def f5_r1 : List AStep := [⟨(some 17), (.call (.con (.func 12 [])) []), none⟩, ⟨(some 7), (.mov (.tmp 17)), none⟩]
def f5_r2 : List AStep := [⟨(some 18), (.mov (.tmp 7)), none⟩, ⟨(some 19), (.not (.tmp 18)), none⟩]
def f5_r3 : List AStep := [⟨(some 6), (.mov (.con (.bool false))), none⟩]
def f5_r4 : List AStep := [⟨(some 20), (.mov (.tmp 0)), none⟩, ⟨(some 21), (.len (.tmp 20)), none⟩, ⟨(some 22), (.bin .gtr (.tmp 21) (.con (.int .i64 60))), none⟩, ⟨(some 23), (.mov (.tmp 22)), none⟩, ⟨(some 24), (.mov (.tmp 1)), (some (23, false))⟩, ⟨(some 25), (.len (.tmp 24)), (some (23, false))⟩, ⟨(some 26), (.bin .gtr (.tmp 25) (.con (.int .i64 30))), (some (23, false))⟩, ⟨(some 27), (.pick (.tmp 23) (.con (.bool true)) (.tmp 26)), none⟩]
def f5_r5 : List AStep := [⟨(some 6), (.mov (.con (.bool true))), none⟩]
def f5_r6 : List AStep := [⟨(some 8), (.mov (.con (.int .i64 0))), none⟩]
def f5_r7 : List AStep := [⟨(some 28), (.mov (.tmp 8)), none⟩, ⟨(some 29), (.mov (.tmp 1)), none⟩, ⟨(some 30), (.len (.tmp 29)), none⟩, ⟨(some 31), (.bin .lss (.tmp 28) (.tmp 30)), none⟩]
def f5_r8 : List AStep := [⟨(some 34), (.mov (.tmp 1)), none⟩, ⟨(some 35), (.mov (.tmp 8)), none⟩, ⟨(some 36), (.indexAddr 1 (.tmp 34) (.tmp 35)), none⟩, ⟨(some 37), (.load false 1 (.tmp 36)), none⟩, ⟨(some 38), (.lenT (.tmp 37)), none⟩, ⟨(some 39), (.bin .gtr (.tmp 38) (.con (.int .i64 400))), none⟩]
def f5_r9 : List AStep := [⟨(some 6), (.mov (.con (.bool true))), none⟩]
def f5_r10 : List AStep := [⟨(some 32), (.mov (.tmp 8)), none⟩, ⟨(some 33), (.bin .add (.tmp 32) (.con (.int .i64 1))), none⟩, ⟨(some 8), (.mov (.tmp 33)), none⟩]
def f5_l11 : ACode := (.seq (.seq (.ops f5_r7) (.cond (.tmp 31) .skip (.exit 0))) (.seq (.block 1 (.seq (.ops f5_r8) (.cond (.tmp 39) (.seq (.ops f5_r9) .ret) .skip))) (.ops f5_r10)))
def f5_r12 : List AStep := [⟨(some 40), (.mov (.tmp 0)), none⟩, ⟨(some 41), (.call (.con (.func 16 [])) [(.tmp 40)]), none⟩, ⟨(some 9), (.mov (.tmp 41)), none⟩]
def f5_r13 : List AStep := [⟨(some 42), (.mov (.tmp 9)), none⟩, ⟨(some 43), (.mov (.tmp 1)), none⟩, ⟨(some 44), (.call (.con (.func 19 [])) [(.tmp 43)]), none⟩, ⟨(some 45), (.append 1 (.tmp 42) (.tmp 44)), none⟩, ⟨(some 9), (.mov (.tmp 45)), none⟩]
def f5_r14 : List AStep := [⟨(some 46), (.mov (.tmp 9)), none⟩, ⟨(some 47), (.len (.tmp 46)), none⟩, ⟨(some 48), (.bin .eql (.tmp 47) (.con (.int .i64 0))), none⟩]
def f5_r15 : List AStep := [⟨(some 6), (.mov (.con (.bool false))), none⟩]
def f5_r16 : List AStep := [⟨(some 49), (.mov (.tmp 9)), none⟩, ⟨(some 50), (.call (.con (.func 21 [])) [(.tmp 49)]), none⟩, ⟨(some 10), (.mov (.tmp 50)), none⟩]
def f5_r17 : List AStep := [⟨(some 11), (.mov (.con (.int .i64 0))), none⟩]
def f5_r18 : List AStep := [⟨(some 51), (.mov (.tmp 11)), none⟩, ⟨(some 52), (.mov (.tmp 0)), none⟩, ⟨(some 53), (.len (.tmp 52)), none⟩, ⟨(some 54), (.bin .lss (.tmp 51) (.tmp 53)), none⟩]
def f5_r19 : List AStep := [⟨(some 57), (.mov (.tmp 10)), none⟩, ⟨(some 58), (.call (.con (.func 22 [])) [(.tmp 57)]), none⟩, ⟨(some 12), (.mov (.tmp 58)), none⟩]
def f5_r20 : List AStep := [⟨(some 59), (.mov (.tmp 12)), none⟩, ⟨(some 60), (.mov (.tmp 0)), none⟩, ⟨(some 61), (.mov (.tmp 11)), none⟩, ⟨(some 62), (.indexAddr 1 (.tmp 60) (.tmp 61)), none⟩, ⟨(some 63), (.load false 1 (.tmp 62)), none⟩, ⟨(some 64), (.bin .neq (.tmp 59) (.tmp 63)), none⟩]
def f5_r21 : List AStep := [⟨(some 6), (.mov (.con (.bool false))), none⟩]
def f5_r22 : List AStep := [⟨(some 55), (.mov (.tmp 11)), none⟩, ⟨(some 56), (.bin .add (.tmp 55) (.con (.int .i64 1))), none⟩, ⟨(some 11), (.mov (.tmp 56)), none⟩]
def f5_l23 : ACode := (.seq (.seq (.ops f5_r18) (.cond (.tmp 54) .skip (.exit 2))) (.seq (.block 3 (.seq (.ops f5_r19) (.seq (.ops f5_r20) (.cond (.tmp 64) (.seq (.ops f5_r21) .ret) .skip)))) (.ops f5_r22)))
def f5_r24 : List AStep := [⟨(some 65), (.mov (.tmp 10)), none⟩, ⟨(some 66), (.mov (.tmp 1)), none⟩, ⟨(some 67), (.len (.tmp 66)), none⟩, ⟨(some 68), (.call (.con (.func 26 [])) [(.tmp 65), (.tmp 67)]), none⟩, ⟨(some 13), (.mov (.tmp 68)), none⟩]
def f5_r25 : List AStep := [⟨(some 69), (.mov (.tmp 13)), none⟩, ⟨(some 70), (.len (.tmp 69)), none⟩, ⟨(some 71), (.mov (.tmp 1)), none⟩, ⟨(some 72), (.len (.tmp 71)), none⟩, ⟨(some 73), (.bin .neq (.tmp 70) (.tmp 72)), none⟩, ⟨(some 74), (.mov (.tmp 73)), none⟩, ⟨(some 75), (.mov (.tmp 10)), (some (74, false))⟩, ⟨(some 76), (.call (.con (.func 30 [])) [(.tmp 75)]), (some (74, false))⟩, ⟨(some 77), (.bin .neq (.tmp 76) (.con (.int .i64 0))), (some (74, false))⟩, ⟨(some 78), (.pick (.tmp 74) (.con (.bool true)) (.tmp 77)), none⟩]
def f5_r26 : List AStep := [⟨(some 6), (.mov (.con (.bool false))), none⟩]
def f5_r27 : List AStep := [⟨(some 14), (.mov (.con (.int .i64 0))), none⟩]
def f5_r28 : List AStep := [⟨(some 79), (.mov (.tmp 14)), none⟩, ⟨(some 80), (.mov (.tmp 1)), none⟩, ⟨(some 81), (.len (.tmp 80)), none⟩, ⟨(some 82), (.bin .lss (.tmp 79) (.tmp 81)), none⟩]
def f5_r29 : List DStep := [⟨0, 0, ⟨(some 85), (.mov (.tmp 13)), none⟩⟩, ⟨1, 0, ⟨(some 86), (.mov (.tmp 14)), none⟩⟩, ⟨2, 3, ⟨(some 87), (.indexAddr 1 (.tmp 85) (.tmp 86)), none⟩⟩, ⟨3, 7, ⟨(some 88), (.load false 1 (.tmp 87)), none⟩⟩, ⟨4, 0, ⟨(some 89), (.mov (.tmp 1)), none⟩⟩, ⟨5, 0, ⟨(some 90), (.mov (.tmp 14)), none⟩⟩, ⟨6, 48, ⟨(some 91), (.indexAddr 1 (.tmp 89) (.tmp 90)), none⟩⟩, ⟨7, 112, ⟨(some 92), (.load false 1 (.tmp 91)), none⟩⟩, ⟨8, 255, ⟨(some 93), (.bin .neq (.tmp 88) (.tmp 92)), none⟩⟩]
def f5_r30 : List AStep := [⟨(some 6), (.mov (.con (.bool false))), none⟩]
def f5_r31 : List AStep := [⟨(some 83), (.mov (.tmp 14)), none⟩, ⟨(some 84), (.bin .add (.tmp 83) (.con (.int .i64 1))), none⟩, ⟨(some 14), (.mov (.tmp 84)), none⟩]
def f5_l32 : ACode := (.seq (.seq (.ops f5_r28) (.cond (.tmp 82) .skip (.exit 4))) (.seq (.block 5 (.seq (.draw f5_r29) (.cond (.tmp 93) (.seq (.ops f5_r30) .ret) .skip))) (.ops f5_r31)))
def f5_r33 : List AStep := [⟨(some 94), (.mov (.tmp 9)), none⟩, ⟨(some 95), (.mov (.tmp 2)), none⟩, ⟨(some 96), (.cvInt .i64 (.tmp 95)), none⟩, ⟨(some 97), (.mov (.tmp 9)), none⟩, ⟨(some 98), (.len (.tmp 97)), none⟩, ⟨(some 99), (.bin .rem (.tmp 96) (.tmp 98)), none⟩, ⟨(some 100), (.sliceS 1 (.tmp 94) none (some (.tmp 99))), none⟩, ⟨(some 101), (.call (.con (.func 21 [])) [(.tmp 100)]), none⟩, ⟨(some 15), (.mov (.tmp 101)), none⟩]
def f5_r34 : List AStep := [⟨(some 16), (.mov (.con (.int .i64 0))), none⟩]
def f5_r35 : List AStep := [⟨(some 102), (.mov (.tmp 16)), none⟩, ⟨(some 103), (.mov (.tmp 0)), none⟩, ⟨(some 104), (.len (.tmp 103)), none⟩, ⟨(some 105), (.bin .lss (.tmp 102) (.tmp 104)), none⟩]
def f5_r36 : List AStep := [⟨(some 108), (.mov (.tmp 15)), none⟩, ⟨(some 109), (.call (.con (.func 22 [])) [(.tmp 108)]), none⟩]
def f5_r37 : List AStep := [⟨(some 106), (.mov (.tmp 16)), none⟩, ⟨(some 107), (.bin .add (.tmp 106) (.con (.int .i64 1))), none⟩, ⟨(some 16), (.mov (.tmp 107)), none⟩]
def f5_l38 : ACode := (.seq (.seq (.ops f5_r35) (.cond (.tmp 105) .skip (.exit 6))) (.seq (.block 7 (.ops f5_r36)) (.ops f5_r37)))
def f5_r39 : List AStep := [⟨(some 110), (.mov (.tmp 15)), none⟩, ⟨(some 111), (.mov (.tmp 1)), none⟩, ⟨(some 112), (.len (.tmp 111)), none⟩, ⟨(some 113), (.call (.con (.func 26 [])) [(.tmp 110), (.tmp 112)]), none⟩]
def f5_r40 : List AStep := [⟨(some 114), (.mov (.tmp 15)), none⟩, ⟨(some 115), (.call (.con (.func 29 [])) [(.tmp 114)]), none⟩, ⟨(some 116), (.bin .eql (.tmp 115) (.con (.int .i64 10))), none⟩, ⟨(some 6), (.mov (.tmp 116)), none⟩]
def f5_c : ACode := (.seq (.ops f5_r0) (.seq (.ops f5_r1) (.seq (.seq (.ops f5_r2) (.cond (.tmp 19) (.seq (.ops f5_r3) .ret) .skip)) (.seq (.seq (.ops f5_r4) (.cond (.tmp 27) (.seq (.ops f5_r5) .ret) .skip)) (.seq (.seq (.ops f5_r6) (.block 0 (.loop f5_l11))) (.seq (.ops f5_r12) (.seq (.ops f5_r13) (.seq (.seq (.ops f5_r14) (.cond (.tmp 48) (.seq (.ops f5_r15) .ret) .skip)) (.seq (.ops f5_r16) (.seq (.seq (.ops f5_r17) (.block 2 (.loop f5_l23))) (.seq (.ops f5_r24) (.seq (.seq (.ops f5_r25) (.cond (.tmp 78) (.seq (.ops f5_r26) .ret) .skip)) (.seq (.seq (.ops f5_r27) (.block 4 (.loop f5_l32))) (.seq (.ops f5_r33) (.seq (.seq (.ops f5_r34) (.block 6 (.loop f5_l38))) (.seq (.ops f5_r39) (.seq (.ops f5_r40) .ret)))))))))))))))))
def f5_a : AFunc := ⟨117, [(.tmp 6)], f5_c⟩

/-! 6 -/
def f6_r0 : List AStep := [⟨(some 8), (.mov (.con (.bool false))), none⟩]
def f6_r1 : List AStep := [⟨(some 19), (.call (.con (.func 12 [])) []), none⟩, ⟨(some 9), (.mov (.tmp 19)), none⟩]
def f6_r2 : List AStep := [⟨(some 20), (.mov (.tmp 9)), none⟩, ⟨(some 21), (.not (.tmp 20)), none⟩]
def f6_r3 : List AStep := [⟨(some 8), (.mov (.con (.bool false))), none⟩]
def f6_r4 : List AStep := [⟨(some 22), (.mov (.tmp 0)), none⟩, ⟨(some 23), (.len (.tmp 22)), none⟩, ⟨(some 24), (.bin .gtr (.tmp 23) (.con (.int .i64 200))), none⟩, ⟨(some 25), (.mov (.tmp 24)), none⟩, ⟨(some 26), (.mov (.tmp 1)), (some (25, false))⟩, ⟨(some 27), (.len (.tmp 26)), (some (25, false))⟩, ⟨(some 28), (.bin .gtr (.tmp 27) (.con (.int .i64 200))), (some (25, false))⟩, ⟨(some 29), (.pick (.tmp 25) (.con (.bool true)) (.tmp 28)), none⟩]
def f6_r5 : List AStep := [⟨(some 8), (.mov (.con (.bool true))), none⟩]
def f6_r6 : List AStep := [⟨(some 31), (.mov (.tmp 0)), none⟩, ⟨(some 32), (.call (.con (.func 14 [])) [(.tmp 31)]), none⟩, ⟨(some 30), (.mov (.tmp 32)), none⟩, ⟨(some 33), (.extract (.tmp 30) 0), none⟩, ⟨(some 34), (.extract (.tmp 30) 1), none⟩, ⟨(some 35), (.extract (.tmp 30) 2), none⟩, ⟨(some 10), (.mov (.tmp 33)), none⟩, ⟨(some 11), (.mov (.tmp 34)), none⟩, ⟨(some 12), (.mov (.tmp 35)), none⟩]
def f6_r7 : List AStep := [⟨(some 36), (.mov (.tmp 12)), none⟩, ⟨(some 37), (.bin .eql (.tmp 36) (.con (.int .i64 0))), none⟩]
def f6_r8 : List AStep := [⟨(some 13), (.mov (.con .nils)), none⟩]
def f6_r9 : List AStep := [⟨(some 38), (.mov (.tmp 13)), none⟩, ⟨(some 39), (.mov (.tmp 0)), none⟩, ⟨(some 40), (.mov (.tmp 11)), none⟩, ⟨(some 41), (.sliceS 1 (.tmp 39) none (some (.tmp 40))), none⟩, ⟨(some 42), (.append 1 (.tmp 38) (.tmp 41)), none⟩, ⟨(some 13), (.mov (.tmp 42)), none⟩]
def f6_r10 : List AStep := [⟨(some 43), (.mov (.tmp 13)), none⟩, ⟨(some 44), (.mov (.tmp 1)), none⟩, ⟨(some 45), (.append 1 (.tmp 43) (.tmp 44)), none⟩, ⟨(some 13), (.mov (.tmp 45)), none⟩]
def f6_r11 : List AStep := [⟨(some 47), (.mov (.tmp 13)), none⟩, ⟨(some 48), (.call (.con (.func 14 [])) [(.tmp 47)]), none⟩, ⟨(some 46), (.mov (.tmp 48)), none⟩, ⟨(some 49), (.extract (.tmp 46) 0), none⟩, ⟨(some 50), (.extract (.tmp 46) 1), none⟩, ⟨(some 51), (.extract (.tmp 46) 2), none⟩, ⟨(some 14), (.mov (.tmp 49)), none⟩, ⟨(some 15), (.mov (.tmp 50)), none⟩, ⟨(some 16), (.mov (.tmp 51)), none⟩]
def f6_r12 : List DStep := [⟨0, 0, ⟨(some 52), (.mov (.tmp 10)), none⟩⟩, ⟨1, 1, ⟨(some 53), (.buildSlice 1 1 [(.int .u64 0)] [(0, (1, (.tmp 52)))]), none⟩⟩, ⟨4, 0, ⟨(some 56), (.mov (.tmp 0)), none⟩⟩, ⟨5, 0, ⟨(some 57), (.mov (.tmp 11)), none⟩⟩, ⟨6, 48, ⟨(some 58), (.sliceS 1 (.tmp 56) none (some (.tmp 57))), none⟩⟩, ⟨7, 112, ⟨(some 59), (.cvB2S (.tmp 58)), none⟩⟩, ⟨2, 3, ⟨(some 54), (.call (.con (.func 16 [])) [(.tmp 53)]), none⟩⟩, ⟨3, 7, ⟨(some 55), (.cvB2S (.tmp 54)), none⟩⟩, ⟨8, 255, ⟨(some 60), (.bin .neq (.tmp 55) (.tmp 59)), none⟩⟩, ⟨9, 511, ⟨(some 61), (.mov (.tmp 60)), none⟩⟩, ⟨10, 1023, ⟨(some 62), (.mov (.tmp 14)), (some (61, false))⟩⟩, ⟨11, 1023, ⟨(some 63), (.mov (.tmp 10)), (some (61, false))⟩⟩, ⟨12, 4095, ⟨(some 64), (.bin .neq (.tmp 62) (.tmp 63)), (some (61, false))⟩⟩, ⟨13, 8191, ⟨(some 65), (.pick (.tmp 61) (.con (.bool true)) (.tmp 64)), none⟩⟩, ⟨14, 16383, ⟨(some 66), (.mov (.tmp 65)), none⟩⟩, ⟨15, 32767, ⟨(some 67), (.mov (.tmp 15)), (some (66, false))⟩⟩, ⟨16, 32767, ⟨(some 68), (.mov (.tmp 11)), (some (66, false))⟩⟩, ⟨17, 131071, ⟨(some 69), (.bin .neq (.tmp 67) (.tmp 68)), (some (66, false))⟩⟩, ⟨18, 262143, ⟨(some 70), (.pick (.tmp 66) (.con (.bool true)) (.tmp 69)), none⟩⟩, ⟨19, 524287, ⟨(some 71), (.mov (.tmp 70)), none⟩⟩, ⟨20, 1048575, ⟨(some 72), (.mov (.tmp 16)), (some (71, false))⟩⟩, ⟨21, 2097151, ⟨(some 73), (.bin .neq (.tmp 72) (.con (.int .i64 0))), (some (71, false))⟩⟩, ⟨22, 4194303, ⟨(some 74), (.pick (.tmp 71) (.con (.bool true)) (.tmp 73)), none⟩⟩]
def f6_r13 : List AStep := [⟨(some 8), (.mov (.con (.bool false))), none⟩]
def f6_r14 : List AStep := [⟨(some 75), (.mov (.tmp 10)), none⟩, ⟨(some 76), (.bin .neq (.tmp 75) (.con (.int .u64 0))), none⟩, ⟨(some 77), (.mov (.tmp 76)), none⟩, ⟨(some 78), (.mov (.tmp 11)), (some (77, false))⟩, ⟨(some 79), (.bin .neq (.tmp 78) (.con (.int .i64 0))), (some (77, false))⟩, ⟨(some 80), (.pick (.tmp 77) (.con (.bool true)) (.tmp 79)), none⟩]
def f6_r15 : List AStep := [⟨(some 8), (.mov (.con (.bool false))), none⟩]
def f6_r16 : List AStep := [⟨(some 81), (.mov (.tmp 2)), none⟩, ⟨(some 82), (.buildSlice 1 1 [(.int .u64 0)] [(0, (1, (.tmp 81)))]), none⟩, ⟨(some 83), (.call (.con (.func 16 [])) [(.tmp 82)]), none⟩, ⟨(some 84), (.cvB2S (.tmp 83)), none⟩, ⟨(some 17), (.mov (.tmp 84)), none⟩]
def f6_r17 : List AStep := [⟨(some 85), (.mov (.tmp 3)), none⟩, ⟨(some 86), (.buildSlice 1 1 [(.int .u64 0)] [(0, (1, (.tmp 85)))]), none⟩, ⟨(some 87), (.call (.con (.func 16 [])) [(.tmp 86)]), none⟩, ⟨(some 88), (.cvB2S (.tmp 87)), none⟩, ⟨(some 18), (.mov (.tmp 88)), none⟩]
def f6_r18 : List AStep := [⟨(some 89), (.mov (.tmp 17)), none⟩, ⟨(some 90), (.mov (.tmp 18)), none⟩, ⟨(some 91), (.bin .lss (.tmp 89) (.tmp 90)), none⟩, ⟨(some 92), (.mov (.tmp 2)), none⟩, ⟨(some 93), (.mov (.tmp 3)), none⟩, ⟨(some 94), (.bin .lss (.tmp 92) (.tmp 93)), none⟩, ⟨(some 95), (.eq .bool false (.tmp 91) (.tmp 94)), none⟩, ⟨(some 96), (.mov (.tmp 95)), none⟩, ⟨(some 97), (.mov (.tmp 17)), (some (96, true))⟩, ⟨(some 98), (.mov (.tmp 18)), (some (96, true))⟩, ⟨(some 99), (.bin .eql (.tmp 97) (.tmp 98)), (some (96, true))⟩, ⟨(some 100), (.mov (.tmp 2)), (some (96, true))⟩, ⟨(some 101), (.mov (.tmp 3)), (some (96, true))⟩, ⟨(some 102), (.bin .eql (.tmp 100) (.tmp 101)), (some (96, true))⟩, ⟨(some 103), (.eq .bool false (.tmp 99) (.tmp 102)), (some (96, true))⟩, ⟨(some 104), (.pick (.tmp 96) (.tmp 103) (.con (.bool false))), none⟩, ⟨(some 8), (.mov (.tmp 104)), none⟩]
def f6_c : ACode := (.seq (.ops f6_r0) (.seq (.ops f6_r1) (.seq (.seq (.ops f6_r2) (.cond (.tmp 21) (.seq (.ops f6_r3) .ret) .skip)) (.seq (.seq (.ops f6_r4) (.cond (.tmp 29) (.seq (.ops f6_r5) .ret) .skip)) (.seq (.ops f6_r6) (.seq (.seq (.ops f6_r7) (.cond (.tmp 37) (.seq (.ops f6_r8) (.seq (.ops f6_r9) (.seq (.ops f6_r10) (.seq (.ops f6_r11) (.seq (.draw f6_r12) (.cond (.tmp 74) (.seq (.ops f6_r13) .ret) .skip)))))) (.seq (.ops f6_r14) (.cond (.tmp 80) (.seq (.ops f6_r15) .ret) .skip)))) (.seq (.ops f6_r16) (.seq (.ops f6_r17) (.seq (.ops f6_r18) .ret)))))))))
def f6_a : AFunc := ⟨105, [(.tmp 8)], f6_c⟩

/-! 7 -/
def f7_r0 : List AStep := [⟨(some 4), (.mov (.con (.bool false))), none⟩]
def f7_r1 : List AStep := [⟨(some 14), (.call (.con (.func 12 [])) []), none⟩, ⟨(some 5), (.mov (.tmp 14)), none⟩]
def f7_r2 : List AStep := [⟨(some 15), (.mov (.tmp 5)), none⟩, ⟨(some 16), (.not (.tmp 15)), none⟩]
def f7_r3 : List AStep := [⟨(some 4), (.mov (.con (.bool false))), none⟩]
def f7_r4 : List AStep := [⟨(some 17), (.mov (.tmp 0)), none⟩, ⟨(some 18), (.len (.tmp 17)), none⟩, ⟨(some 19), (.bin .gtr (.tmp 18) (.con (.int .i64 30))), none⟩]
def f7_r5 : List AStep := [⟨(some 4), (.mov (.con (.bool true))), none⟩]
def f7_r6 : List AStep := [⟨(some 20), (.mov (.tmp 0)), none⟩, ⟨(some 21), (.len (.tmp 20)), none⟩, ⟨(some 22), (.cvInt .u64 (.tmp 21)), none⟩, ⟨(some 23), (.buildSlice 1 1 [(.int .u64 0)] [(0, (1, (.tmp 22)))]), none⟩, ⟨(some 24), (.call (.con (.func 16 [])) [(.tmp 23)]), none⟩, ⟨(some 25), (.cvB2S (.tmp 24)), none⟩, ⟨(some 6), (.mov (.tmp 25)), none⟩]
def f7_r7 : List AStep := [⟨(some 7), (.mov (.con (.int .i64 0))), none⟩]
def f7_r8 : List AStep := [⟨(some 8), (.mov (.con (.int .i64 0))), none⟩]
def f7_r9 : List AStep := [⟨(some 26), (.mov (.tmp 8)), none⟩, ⟨(some 27), (.mov (.tmp 0)), none⟩, ⟨(some 28), (.len (.tmp 27)), none⟩, ⟨(some 29), (.bin .lss (.tmp 26) (.tmp 28)), none⟩]
def f7_r10 : List AStep := [⟨(some 32), (.mov (.tmp 0)), none⟩, ⟨(some 33), (.mov (.tmp 8)), none⟩, ⟨(some 34), (.indexAddr 1 (.tmp 32) (.tmp 33)), none⟩, ⟨(some 35), (.load false 1 (.tmp 34)), none⟩, ⟨(some 36), (.lenT (.tmp 35)), none⟩, ⟨(some 37), (.bin .gtr (.tmp 36) (.con (.int .i64 300))), none⟩]
def f7_r11 : List AStep := [⟨(some 4), (.mov (.con (.bool true))), none⟩]
def f7_r12 : List AStep := [⟨(some 38), (.mov (.tmp 0)), none⟩, ⟨(some 39), (.mov (.tmp 8)), none⟩, ⟨(some 40), (.indexAddr 1 (.tmp 38) (.tmp 39)), none⟩, ⟨(some 41), (.load false 1 (.tmp 40)), none⟩, ⟨(some 42), (.buildSlice 1 1 [(.str [])] [(0, (1, (.tmp 41)))]), none⟩, ⟨(some 43), (.call (.con (.func 17 [])) [(.tmp 42)]), none⟩, ⟨(some 44), (.cvB2S (.tmp 43)), none⟩, ⟨(some 9), (.mov (.tmp 44)), none⟩]
def f7_r13 : List AStep := [⟨(some 45), (.mov (.tmp 6)), none⟩, ⟨(some 46), (.mov (.tmp 9)), none⟩, ⟨(some 47), (.bin .add (.tmp 45) (.tmp 46)), none⟩, ⟨(some 6), (.mov (.tmp 47)), none⟩]
def f7_r14 : List AStep := [⟨(some 48), (.mov (.tmp 7)), none⟩, ⟨(some 49), (.mov (.tmp 9)), none⟩, ⟨(some 50), (.lenT (.tmp 49)), none⟩, ⟨(some 51), (.bin .add (.tmp 48) (.tmp 50)), none⟩, ⟨(some 7), (.mov (.tmp 51)), none⟩]
def f7_r15 : List AStep := [⟨(some 30), (.mov (.tmp 8)), none⟩, ⟨(some 31), (.bin .add (.tmp 30) (.con (.int .i64 1))), none⟩, ⟨(some 8), (.mov (.tmp 31)), none⟩]
def f7_l16 : ACode := (.seq (.seq (.ops f7_r9) (.cond (.tmp 29) .skip (.exit 0))) (.seq (.block 1 (.seq (.seq (.ops f7_r10) (.cond (.tmp 37) (.seq (.ops f7_r11) .ret) .skip)) (.seq (.ops f7_r12) (.seq (.ops f7_r13) (.ops f7_r14))))) (.ops f7_r15)))
def f7_r17 : List AStep := [⟨(some 52), (.mov (.tmp 0)), none⟩, ⟨(some 53), (.call (.con (.func 19 [])) [(.tmp 52)]), none⟩, ⟨(some 10), (.mov (.tmp 53)), none⟩]
def f7_r18 : List AStep := [⟨(some 54), (.mov (.tmp 10)), none⟩, ⟨(some 55), (.call (.con (.func 21 [])) [(.tmp 54)]), none⟩, ⟨(some 11), (.mov (.tmp 55)), none⟩]
def f7_r19 : List AStep := [⟨(some 56), (.mov (.tmp 11)), none⟩, ⟨(some 57), (.mov (.tmp 1)), none⟩, ⟨(some 58), (.cvInt .i64 (.tmp 57)), none⟩, ⟨(some 59), (.call (.con (.func 26 [])) [(.tmp 56), (.tmp 58)]), none⟩, ⟨(some 12), (.mov (.tmp 59)), none⟩]
def f7_r20 : List AStep := [⟨(some 60), (.mov (.tmp 0)), none⟩, ⟨(some 61), (.len (.tmp 60)), none⟩, ⟨(some 62), (.mov (.tmp 1)), none⟩, ⟨(some 63), (.cvInt .i64 (.tmp 62)), none⟩, ⟨(some 64), (.max (.tmp 63) (.con (.int .i64 0))), none⟩, ⟨(some 65), (.bin .leq (.tmp 61) (.tmp 64)), none⟩, ⟨(some 13), (.mov (.tmp 65)), none⟩]
def f7_r21 : List AStep := [⟨(some 66), (.mov (.tmp 10)), none⟩, ⟨(some 67), (.cvB2S (.tmp 66)), none⟩, ⟨(some 68), (.mov (.tmp 6)), none⟩, ⟨(some 69), (.bin .neq (.tmp 67) (.tmp 68)), none⟩, ⟨(some 70), (.mov (.tmp 69)), none⟩, ⟨(some 71), (.mov (.tmp 11)), (some (70, false))⟩, ⟨(some 72), (.call (.con (.func 29 [])) [(.tmp 71)]), (some (70, false))⟩, ⟨(some 73), (.bin .eql (.tmp 72) (.con (.int .i64 0))), (some (70, false))⟩, ⟨(some 74), (.mov (.tmp 13)), (some (70, false))⟩, ⟨(some 75), (.eq .bool true (.tmp 73) (.tmp 74)), (some (70, false))⟩, ⟨(some 76), (.pick (.tmp 70) (.con (.bool true)) (.tmp 75)), none⟩]
def f7_r22 : List AStep := [⟨(some 4), (.mov (.con (.bool false))), none⟩]
def f7_r23 : List AStep := [⟨(some 77), (.mov (.tmp 13)), none⟩, ⟨(some 78), (.not (.tmp 77)), none⟩]
def f7_r24 : List AStep := [⟨(some 79), (.mov (.tmp 11)), none⟩, ⟨(some 80), (.call (.con (.func 29 [])) [(.tmp 79)]), none⟩, ⟨(some 81), (.bin .eql (.tmp 80) (.con (.int .i64 13))), none⟩, ⟨(some 82), (.mov (.tmp 81)), none⟩, ⟨(some 83), (.mov (.tmp 12)), (some (82, true))⟩, ⟨(some 84), (.len (.tmp 83)), (some (82, true))⟩, ⟨(some 85), (.bin .eql (.tmp 84) (.con (.int .i64 0))), (some (82, true))⟩, ⟨(some 86), (.pick (.tmp 82) (.tmp 85) (.con (.bool false))), none⟩, ⟨(some 87), (.mov (.tmp 86)), none⟩, ⟨(some 88), (.mov (.tmp 11)), (some (87, true))⟩, ⟨(some 89), (.call (.con (.func 28 [])) [(.tmp 88)]), (some (87, true))⟩, ⟨(some 90), (.mov (.tmp 7)), (some (87, true))⟩, ⟨(some 91), (.bin .eql (.tmp 89) (.tmp 90)), (some (87, true))⟩, ⟨(some 92), (.pick (.tmp 87) (.tmp 91) (.con (.bool false))), none⟩, ⟨(some 4), (.mov (.tmp 92)), none⟩]
def f7_r25 : List AStep := [⟨(some 93), (.mov (.tmp 12)), none⟩, ⟨(some 94), (.len (.tmp 93)), none⟩, ⟨(some 95), (.mov (.tmp 0)), none⟩, ⟨(some 96), (.len (.tmp 95)), none⟩, ⟨(some 97), (.bin .eql (.tmp 94) (.tmp 96)), none⟩, ⟨(some 98), (.mov (.tmp 97)), none⟩, ⟨(some 99), (.mov (.tmp 11)), (some (98, true))⟩, ⟨(some 100), (.call (.con (.func 28 [])) [(.tmp 99)]), (some (98, true))⟩, ⟨(some 101), (.bin .eql (.tmp 100) (.con (.int .i64 0))), (some (98, true))⟩, ⟨(some 102), (.pick (.tmp 98) (.tmp 101) (.con (.bool false))), none⟩, ⟨(some 4), (.mov (.tmp 102)), none⟩]
def f7_c : ACode := (.seq (.ops f7_r0) (.seq (.ops f7_r1) (.seq (.seq (.ops f7_r2) (.cond (.tmp 16) (.seq (.ops f7_r3) .ret) .skip)) (.seq (.seq (.ops f7_r4) (.cond (.tmp 19) (.seq (.ops f7_r5) .ret) .skip)) (.seq (.ops f7_r6) (.seq (.ops f7_r7) (.seq (.seq (.ops f7_r8) (.block 0 (.loop f7_l16))) (.seq (.ops f7_r17) (.seq (.ops f7_r18) (.seq (.ops f7_r19) (.seq (.ops f7_r20) (.seq (.seq (.ops f7_r21) (.cond (.tmp 76) (.seq (.ops f7_r22) .ret) .skip)) (.seq (.seq (.ops f7_r23) (.cond (.tmp 78) (.seq (.ops f7_r24) .ret) .skip)) (.seq (.ops f7_r25) .ret))))))))))))))
def f7_a : AFunc := ⟨103, [(.tmp 4)], f7_c⟩

/-! 8 -/
def f8_r0 : List AStep := [⟨(some 3), (.box (.tmp 0)), none⟩, ⟨(some 6), (.mov (.con (.bool false))), none⟩]
def f8_r1 : List AStep := [⟨(some 13), (.call (.con (.func 31 [])) []), none⟩, ⟨(some 7), (.mov (.tmp 13)), none⟩]
def f8_r2 : List AStep := [⟨(some 14), (.mov (.tmp 7)), none⟩, ⟨(some 15), (.not (.tmp 14)), none⟩]
def f8_r3 : List AStep := [⟨(some 6), (.mov (.con (.bool false))), none⟩]
def f8_r4 : List AStep := [⟨(some 16), (.load true 6 (.tmp 3)), none⟩, ⟨(some 17), (.call (.con (.func 32 [])) [(.tmp 16)]), none⟩, ⟨(some 8), (.mov (.tmp 17)), none⟩]
def f8_r5 : List AStep := [⟨(some 18), (.mov (.tmp 8)), none⟩, ⟨(some 19), (.not (.tmp 18)), none⟩]
def f8_r6 : List AStep := [⟨(some 6), (.mov (.con (.bool true))), none⟩]
def f8_r7 : List AStep := [⟨(some 20), (.load true 6 (.tmp 3)), none⟩, ⟨(some 21), (.call (.con (.func 33 [])) [(.tmp 20)]), none⟩, ⟨(some 9), (.mov (.tmp 21)), none⟩]
def f8_r8 : List AStep := [⟨(some 22), (.mov (.tmp 1)), none⟩, ⟨(some 23), (.mov (.tmp 2)), none⟩, ⟨(some 24), (.call (.con (.func 34 [])) [(.tmp 22), (.tmp 23)]), none⟩, ⟨(some 10), (.alloc [(.int .i64 0), (.int .i64 0), (.int .i64 0), (.bool false), .nils, .nils]), none⟩, ⟨none, (.store 6 (.tmp 10) (.tmp 24)), none⟩]
def f8_r9 : List DStep := [⟨0, 0, ⟨(some 25), (.mov (.tmp 9)), none⟩⟩, ⟨1, 1, ⟨(some 26), (.cvB2S (.tmp 25)), none⟩⟩, ⟨2, 0, ⟨(some 27), (.load true 6 (.tmp 3)), none⟩⟩, ⟨3, 4, ⟨(some 28), (.call (.con (.func 36 [])) [(.tmp 27)]), none⟩⟩, ⟨4, 12, ⟨(some 29), (.call (.con (.func 35 [])) [(.tmp 28)]), none⟩⟩, ⟨5, 31, ⟨(some 30), (.bin .neq (.tmp 26) (.tmp 29)), none⟩⟩, ⟨6, 63, ⟨(some 31), (.mov (.tmp 30)), none⟩⟩, ⟨7, 127, ⟨(some 32), (.fieldAddr 0 (.tmp 10)), (some (31, false))⟩⟩, ⟨8, 255, ⟨(some 33), (.load false 1 (.tmp 32)), (some (31, false))⟩⟩, ⟨9, 127, ⟨(some 34), (.mov (.tmp 1)), (some (31, false))⟩⟩, ⟨10, 1023, ⟨(some 35), (.bin .neq (.tmp 33) (.tmp 34)), (some (31, false))⟩⟩, ⟨11, 2047, ⟨(some 36), (.pick (.tmp 31) (.con (.bool true)) (.tmp 35)), none⟩⟩, ⟨12, 4095, ⟨(some 37), (.mov (.tmp 36)), none⟩⟩, ⟨13, 8191, ⟨(some 38), (.fieldAddr 2 (.tmp 10)), (some (37, false))⟩⟩, ⟨14, 16383, ⟨(some 39), (.load false 1 (.tmp 38)), (some (37, false))⟩⟩, ⟨15, 8191, ⟨(some 40), (.mov (.tmp 2)), (some (37, false))⟩⟩, ⟨16, 65535, ⟨(some 41), (.bin .neq (.tmp 39) (.tmp 40)), (some (37, false))⟩⟩, ⟨17, 131071, ⟨(some 42), (.pick (.tmp 37) (.con (.bool true)) (.tmp 41)), none⟩⟩, ⟨18, 262143, ⟨(some 43), (.mov (.tmp 42)), none⟩⟩, ⟨19, 524287, ⟨(some 44), (.fieldAddr 1 (.tmp 10)), (some (43, false))⟩⟩, ⟨20, 1048575, ⟨(some 45), (.load false 1 (.tmp 44)), (some (43, false))⟩⟩, ⟨21, 2097151, ⟨(some 46), (.bin .neq (.tmp 45) (.con (.int .i64 0))), (some (43, false))⟩⟩, ⟨22, 4194303, ⟨(some 47), (.pick (.tmp 43) (.con (.bool true)) (.tmp 46)), none⟩⟩, ⟨23, 8388607, ⟨(some 48), (.mov (.tmp 47)), none⟩⟩, ⟨24, 16777215, ⟨(some 49), (.fieldAddr 3 (.tmp 10)), (some (48, false))⟩⟩, ⟨25, 33554431, ⟨(some 50), (.load false 1 (.tmp 49)), (some (48, false))⟩⟩, ⟨26, 67108863, ⟨(some 51), (.pick (.tmp 48) (.con (.bool true)) (.tmp 50)), none⟩⟩, ⟨27, 134217727, ⟨(some 52), (.mov (.tmp 51)), none⟩⟩, ⟨28, 268435455, ⟨(some 53), (.fieldAddr 4 (.tmp 10)), (some (52, false))⟩⟩, ⟨29, 536870911, ⟨(some 54), (.load false 1 (.tmp 53)), (some (52, false))⟩⟩, ⟨30, 1073741823, ⟨(some 55), (.len (.tmp 54)), (some (52, false))⟩⟩, ⟨31, 268435455, ⟨(some 56), (.fieldAddr 5 (.tmp 10)), (some (52, false))⟩⟩, ⟨32, 2415919103, ⟨(some 57), (.load false 1 (.tmp 56)), (some (52, false))⟩⟩, ⟨33, 6710886399, ⟨(some 58), (.len (.tmp 57)), (some (52, false))⟩⟩, ⟨34, 17179869183, ⟨(some 59), (.bin .add (.tmp 55) (.tmp 58)), (some (52, false))⟩⟩, ⟨35, 34359738367, ⟨(some 60), (.bin .neq (.tmp 59) (.con (.int .i64 0))), (some (52, false))⟩⟩, ⟨36, 68719476735, ⟨(some 61), (.pick (.tmp 52) (.con (.bool true)) (.tmp 60)), none⟩⟩]
def f8_r10 : List AStep := [⟨(some 6), (.mov (.con (.bool false))), none⟩]
def f8_r11 : List AStep := [⟨(some 62), (.mov (.tmp 9)), none⟩, ⟨(some 63), (.len (.tmp 62)), none⟩, ⟨(some 64), (.bin .eql (.tmp 63) (.con (.int .i64 0))), none⟩]
def f8_r12 : List AStep := [⟨(some 6), (.mov (.con (.bool true))), none⟩]
def f8_r13 : List AStep := [⟨(some 66), (.mov (.tmp 9)), none⟩, ⟨(some 67), (.call (.con (.func 37 [])) [(.tmp 66)]), none⟩, ⟨(some 65), (.mov (.tmp 67)), none⟩, ⟨(some 68), (.extract (.tmp 65) 0), none⟩, ⟨(some 69), (.extract (.tmp 65) 1), none⟩, ⟨(some 11), (.alloc [(.int .i64 0), (.int .i64 0), (.int .i64 0), (.bool false), .nils, .nils]), none⟩, ⟨none, (.store 6 (.tmp 11) (.tmp 68)), none⟩, ⟨(some 12), (.mov (.tmp 69)), none⟩]
def f8_r14 : List DStep := [⟨0, 0, ⟨(some 70), (.mov (.tmp 12)), none⟩⟩, ⟨1, 1, ⟨(some 71), (.bin .eql (.tmp 70) (.con (.int .i64 0))), none⟩⟩, ⟨2, 3, ⟨(some 72), (.mov (.tmp 71)), none⟩⟩, ⟨3, 7, ⟨(some 73), (.load true 6 (.tmp 11)), (some (72, true))⟩⟩, ⟨6, 7, ⟨(some 76), (.mov (.tmp 9)), (some (72, true))⟩⟩, ⟨7, 71, ⟨(some 77), (.cvB2S (.tmp 76)), (some (72, true))⟩⟩, ⟨4, 15, ⟨(some 74), (.call (.con (.func 36 [])) [(.tmp 73)]), (some (72, true))⟩⟩, ⟨5, 31, ⟨(some 75), (.call (.con (.func 35 [])) [(.tmp 74)]), (some (72, true))⟩⟩, ⟨8, 255, ⟨(some 78), (.bin .eql (.tmp 75) (.tmp 77)), (some (72, true))⟩⟩, ⟨9, 511, ⟨(some 79), (.pick (.tmp 72) (.tmp 78) (.con (.bool false))), none⟩⟩, ⟨10, 1023, ⟨(some 6), (.mov (.tmp 79)), none⟩⟩]
def f8_c : ACode := (.seq (.ops f8_r0) (.seq (.ops f8_r1) (.seq (.seq (.ops f8_r2) (.cond (.tmp 15) (.seq (.ops f8_r3) .ret) .skip)) (.seq (.ops f8_r4) (.seq (.seq (.ops f8_r5) (.cond (.tmp 19) (.seq (.ops f8_r6) .ret) .skip)) (.seq (.ops f8_r7) (.seq (.ops f8_r8) (.seq (.seq (.draw f8_r9) (.cond (.tmp 61) (.seq (.ops f8_r10) .ret) .skip)) (.seq (.seq (.ops f8_r11) (.cond (.tmp 64) (.seq (.ops f8_r12) .ret) .skip)) (.seq (.ops f8_r13) (.seq (.draw f8_r14) .ret)))))))))))
def f8_a : AFunc := ⟨80, [(.tmp 6)], f8_c⟩

/-! 9 -/
def f9_r0 : List AStep := [⟨(some 5), (.box (.tmp 1)), none⟩, ⟨(some 8), (.mov (.con (.bool false))), none⟩]
def f9_r1 : List AStep := [⟨(some 18), (.call (.con (.func 31 [])) []), none⟩, ⟨(some 9), (.mov (.tmp 18)), none⟩]
def f9_r2 : List AStep := [⟨(some 19), (.mov (.tmp 9)), none⟩, ⟨(some 20), (.not (.tmp 19)), none⟩]
def f9_r3 : List AStep := [⟨(some 8), (.mov (.con (.bool false))), none⟩]
def f9_r4 : List AStep := [⟨(some 21), (.load true 6 (.tmp 5)), none⟩, ⟨(some 22), (.call (.con (.func 32 [])) [(.tmp 21)]), none⟩, ⟨(some 10), (.mov (.tmp 22)), none⟩]
def f9_r5 : List AStep := [⟨(some 23), (.mov (.tmp 10)), none⟩, ⟨(some 24), (.not (.tmp 23)), none⟩, ⟨(some 25), (.mov (.tmp 24)), none⟩, ⟨(some 26), (.mov (.tmp 0)), (some (25, false))⟩, ⟨(some 27), (.len (.tmp 26)), (some (25, false))⟩, ⟨(some 28), (.bin .gtr (.tmp 27) (.con (.int .i64 3000))), (some (25, false))⟩, ⟨(some 29), (.pick (.tmp 25) (.con (.bool true)) (.tmp 28)), none⟩, ⟨(some 30), (.mov (.tmp 29)), none⟩, ⟨(some 31), (.mov (.tmp 3)), (some (30, false))⟩, ⟨(some 32), (.len (.tmp 31)), (some (30, false))⟩, ⟨(some 33), (.bin .gtr (.tmp 32) (.con (.int .i64 60))), (some (30, false))⟩, ⟨(some 34), (.pick (.tmp 30) (.con (.bool true)) (.tmp 33)), none⟩, ⟨(some 35), (.mov (.tmp 34)), none⟩, ⟨(some 36), (.mov (.tmp 3)), (some (35, false))⟩, ⟨(some 37), (.len (.tmp 36)), (some (35, false))⟩, ⟨(some 38), (.bin .eql (.tmp 37) (.con (.int .i64 0))), (some (35, false))⟩, ⟨(some 39), (.pick (.tmp 35) (.con (.bool true)) (.tmp 38)), none⟩]
def f9_r6 : List AStep := [⟨(some 8), (.mov (.con (.bool true))), none⟩]
def f9_r7 : List AStep := [⟨(some 41), (.mov (.tmp 0)), none⟩, ⟨(some 42), (.call (.con (.func 37 [])) [(.tmp 41)]), none⟩, ⟨(some 40), (.mov (.tmp 42)), none⟩, ⟨(some 43), (.extract (.tmp 40) 0), none⟩, ⟨(some 44), (.extract (.tmp 40) 1), none⟩, ⟨(some 11), (.alloc [(.int .i64 0), (.int .i64 0), (.int .i64 0), (.bool false), .nils, .nils]), none⟩, ⟨none, (.store 6 (.tmp 11) (.tmp 43)), none⟩, ⟨(some 12), (.mov (.tmp 44)), none⟩]
def f9_r8 : List DStep := [⟨0, 0, ⟨(some 45), (.mov (.tmp 12)), none⟩⟩, ⟨1, 1, ⟨(some 46), (.bin .eql (.tmp 45) (.con (.int .i64 0))), none⟩⟩, ⟨2, 3, ⟨(some 47), (.mov (.tmp 46)), none⟩⟩, ⟨3, 7, ⟨(some 48), (.load true 6 (.tmp 11)), (some (47, true))⟩⟩, ⟨6, 7, ⟨(some 51), (.mov (.tmp 0)), (some (47, true))⟩⟩, ⟨7, 71, ⟨(some 52), (.cvB2S (.tmp 51)), (some (47, true))⟩⟩, ⟨4, 15, ⟨(some 49), (.call (.con (.func 36 [])) [(.tmp 48)]), (some (47, true))⟩⟩, ⟨5, 31, ⟨(some 50), (.call (.con (.func 35 [])) [(.tmp 49)]), (some (47, true))⟩⟩, ⟨8, 255, ⟨(some 53), (.bin .neq (.tmp 50) (.tmp 52)), (some (47, true))⟩⟩, ⟨9, 511, ⟨(some 54), (.pick (.tmp 47) (.tmp 53) (.con (.bool false))), none⟩⟩, ⟨10, 1023, ⟨(some 55), (.mov (.tmp 54)), none⟩⟩, ⟨11, 2047, ⟨(some 56), (.mov (.tmp 12)), (some (55, false))⟩⟩, ⟨12, 4095, ⟨(some 57), (.bin .neq (.tmp 56) (.con (.int .i64 0))), (some (55, false))⟩⟩, ⟨13, 8191, ⟨(some 58), (.mov (.tmp 57)), (some (55, false))⟩⟩, ⟨14, 16383, ⟨(some 59), (.fieldAddr 0 (.tmp 11)), (some (58, true))⟩⟩, ⟨15, 32767, ⟨(some 60), (.load false 1 (.tmp 59)), (some (58, true))⟩⟩, ⟨16, 65535, ⟨(some 61), (.bin .neq (.tmp 60) (.con (.int .i64 0))), (some (58, true))⟩⟩, ⟨17, 131071, ⟨(some 62), (.mov (.tmp 61)), (some (58, true))⟩⟩, ⟨18, 262143, ⟨(some 63), (.fieldAddr 1 (.tmp 11)), (some (62, false))⟩⟩, ⟨19, 524287, ⟨(some 64), (.load false 1 (.tmp 63)), (some (62, false))⟩⟩, ⟨20, 1048575, ⟨(some 65), (.bin .neq (.tmp 64) (.con (.int .i64 0))), (some (62, false))⟩⟩, ⟨21, 2097151, ⟨(some 66), (.pick (.tmp 62) (.con (.bool true)) (.tmp 65)), (some (58, true))⟩⟩, ⟨22, 4194303, ⟨(some 67), (.mov (.tmp 66)), (some (58, true))⟩⟩, ⟨23, 8388607, ⟨(some 68), (.fieldAddr 4 (.tmp 11)), (some (67, false))⟩⟩, ⟨24, 16777215, ⟨(some 69), (.load false 1 (.tmp 68)), (some (67, false))⟩⟩, ⟨25, 33554431, ⟨(some 70), (.len (.tmp 69)), (some (67, false))⟩⟩, ⟨26, 8388607, ⟨(some 71), (.fieldAddr 5 (.tmp 11)), (some (67, false))⟩⟩, ⟨27, 75497471, ⟨(some 72), (.load false 1 (.tmp 71)), (some (67, false))⟩⟩, ⟨28, 209715199, ⟨(some 73), (.len (.tmp 72)), (some (67, false))⟩⟩, ⟨29, 536870911, ⟨(some 74), (.bin .add (.tmp 70) (.tmp 73)), (some (67, false))⟩⟩, ⟨30, 1073741823, ⟨(some 75), (.bin .neq (.tmp 74) (.con (.int .i64 0))), (some (67, false))⟩⟩, ⟨31, 2147483647, ⟨(some 76), (.pick (.tmp 67) (.con (.bool true)) (.tmp 75)), (some (58, true))⟩⟩, ⟨32, 4294967295, ⟨(some 77), (.pick (.tmp 58) (.tmp 76) (.con (.bool false))), (some (55, false))⟩⟩, ⟨33, 8589934591, ⟨(some 78), (.pick (.tmp 55) (.con (.bool true)) (.tmp 77)), none⟩⟩]
def f9_r9 : List AStep := [⟨(some 8), (.mov (.con (.bool false))), none⟩]
def f9_r10 : List AStep := [⟨(some 79), (.load true 6 (.tmp 5)), none⟩, ⟨(some 80), (.call (.con (.func 33 [])) [(.tmp 79)]), none⟩, ⟨(some 13), (.mov (.tmp 80)), none⟩]
def f9_r11 : List AStep := [⟨(some 81), (.mov (.tmp 13)), none⟩, ⟨(some 82), (.len (.tmp 81)), none⟩, ⟨(some 83), (.bin .eql (.tmp 82) (.con (.int .i64 0))), none⟩]
def f9_r12 : List AStep := [⟨(some 8), (.mov (.con (.bool true))), none⟩]
def f9_r13 : List AStep := [⟨(some 85), (.mov (.tmp 13)), none⟩, ⟨(some 86), (.mov (.tmp 2)), none⟩, ⟨(some 87), (.cvInt .i64 (.tmp 86)), none⟩, ⟨(some 88), (.mov (.tmp 13)), none⟩, ⟨(some 89), (.len (.tmp 88)), none⟩, ⟨(some 90), (.bin .rem (.tmp 87) (.tmp 89)), none⟩, ⟨(some 91), (.sliceS 1 (.tmp 85) none (some (.tmp 90))), none⟩, ⟨(some 92), (.call (.con (.func 37 [])) [(.tmp 91)]), none⟩, ⟨(some 84), (.mov (.tmp 92)), none⟩, ⟨(some 93), (.extract (.tmp 84) 0), none⟩, ⟨(some 94), (.extract (.tmp 84) 1), none⟩, ⟨(some 14), (.alloc [(.int .i64 0), (.int .i64 0), (.int .i64 0), (.bool false), .nils, .nils]), none⟩, ⟨none, (.store 6 (.tmp 14) (.tmp 93)), none⟩, ⟨(some 15), (.mov (.tmp 94)), none⟩]
def f9_r14 : List AStep := [⟨(some 96), (.mov (.tmp 13)), none⟩, ⟨(some 97), (.mov (.tmp 3)), none⟩, ⟨(some 98), (.append 1 (.tmp 96) (.tmp 97)), none⟩, ⟨(some 99), (.call (.con (.func 37 [])) [(.tmp 98)]), none⟩, ⟨(some 95), (.mov (.tmp 99)), none⟩, ⟨(some 100), (.extract (.tmp 95) 0), none⟩, ⟨(some 101), (.extract (.tmp 95) 1), none⟩, ⟨(some 16), (.alloc [(.int .i64 0), (.int .i64 0), (.int .i64 0), (.bool false), .nils, .nils]), none⟩, ⟨none, (.store 6 (.tmp 16) (.tmp 100)), none⟩, ⟨(some 17), (.mov (.tmp 101)), none⟩]
def f9_r15 : List AStep := [⟨(some 102), (.mov (.tmp 15)), none⟩, ⟨(some 103), (.bin .neq (.tmp 102) (.con (.int .i64 0))), none⟩, ⟨(some 104), (.mov (.tmp 103)), none⟩, ⟨(some 105), (.mov (.tmp 17)), (some (104, true))⟩, ⟨(some 106), (.bin .neq (.tmp 105) (.con (.int .i64 0))), (some (104, true))⟩, ⟨(some 107), (.pick (.tmp 104) (.tmp 106) (.con (.bool false))), none⟩, ⟨(some 8), (.mov (.tmp 107)), none⟩]
def f9_c : ACode := (.seq (.ops f9_r0) (.seq (.ops f9_r1) (.seq (.seq (.ops f9_r2) (.cond (.tmp 20) (.seq (.ops f9_r3) .ret) .skip)) (.seq (.ops f9_r4) (.seq (.seq (.ops f9_r5) (.cond (.tmp 39) (.seq (.ops f9_r6) .ret) .skip)) (.seq (.ops f9_r7) (.seq (.seq (.draw f9_r8) (.cond (.tmp 78) (.seq (.ops f9_r9) .ret) .skip)) (.seq (.ops f9_r10) (.seq (.seq (.ops f9_r11) (.cond (.tmp 83) (.seq (.ops f9_r12) .ret) .skip)) (.seq (.ops f9_r13) (.seq (.ops f9_r14) (.seq (.ops f9_r15) .ret))))))))))))
def f9_a : AFunc := ⟨108, [(.tmp 8)], f9_c⟩

/-! 10 -/
def f10_r0 : List AStep := [⟨(some 7), (.box (.tmp 3)), none⟩, ⟨(some 8), (.mov (.con (.bool false))), none⟩]
def f10_r1 : List AStep := [⟨(some 14), (.call (.con (.func 31 [])) []), none⟩, ⟨(some 9), (.mov (.tmp 14)), none⟩]
def f10_r2 : List AStep := [⟨(some 15), (.mov (.tmp 9)), none⟩, ⟨(some 16), (.not (.tmp 15)), none⟩]
def f10_r3 : List AStep := [⟨(some 8), (.mov (.con (.bool false))), none⟩]
def f10_r4 : List AStep := [⟨(some 17), (.load true 6 (.tmp 7)), none⟩, ⟨(some 18), (.call (.con (.func 32 [])) [(.tmp 17)]), none⟩, ⟨(some 10), (.mov (.tmp 18)), none⟩]
def f10_r5 : List AStep := [⟨(some 19), (.mov (.tmp 10)), none⟩, ⟨(some 20), (.not (.tmp 19)), none⟩, ⟨(some 21), (.mov (.tmp 20)), none⟩, ⟨(some 22), (.mov (.tmp 0)), (some (21, false))⟩, ⟨(some 23), (.bin .eql (.tmp 22) (.con (.int .u8 0))), (some (21, false))⟩, ⟨(some 24), (.pick (.tmp 21) (.con (.bool true)) (.tmp 23)), none⟩, ⟨(some 25), (.mov (.tmp 24)), none⟩, ⟨(some 26), (.mov (.tmp 1)), (some (25, false))⟩, ⟨(some 27), (.bin .eql (.tmp 26) (.con (.int .u8 0))), (some (25, false))⟩, ⟨(some 28), (.pick (.tmp 25) (.con (.bool true)) (.tmp 27)), none⟩]
def f10_r6 : List AStep := [⟨(some 8), (.mov (.con (.bool true))), none⟩]
def f10_r7 : List AStep := [⟨(some 29), (.mov (.tmp 0)), none⟩, ⟨(some 30), (.cvInt .i64 (.tmp 29)), none⟩, ⟨(some 31), (.mov (.tmp 2)), none⟩, ⟨(some 32), (.cvInt .i64 (.tmp 31)), none⟩, ⟨(some 33), (.call (.con (.func 34 [])) [(.tmp 30), (.tmp 32)]), none⟩, ⟨(some 34), (.call (.con (.func 33 [])) [(.tmp 33)]), none⟩, ⟨(some 11), (.mov (.tmp 34)), none⟩]
def f10_r8 : List AStep := [⟨(some 35), (.mov (.tmp 1)), none⟩, ⟨(some 36), (.cvInt .i64 (.tmp 35)), none⟩, ⟨(some 37), (.mov (.tmp 2)), none⟩, ⟨(some 38), (.cvInt .i64 (.tmp 37)), none⟩, ⟨(some 39), (.call (.con (.func 34 [])) [(.tmp 36), (.tmp 38)]), none⟩, ⟨(some 40), (.call (.con (.func 33 [])) [(.tmp 39)]), none⟩, ⟨(some 12), (.mov (.tmp 40)), none⟩]
def f10_r9 : List DStep := [⟨0, 0, ⟨(some 41), (.mov (.tmp 11)), none⟩⟩, ⟨1, 1, ⟨(some 42), (.len (.tmp 41)), none⟩⟩, ⟨2, 0, ⟨(some 43), (.mov (.tmp 12)), none⟩⟩, ⟨3, 4, ⟨(some 44), (.len (.tmp 43)), none⟩⟩, ⟨4, 15, ⟨(some 45), (.bin .neq (.tmp 42) (.tmp 44)), none⟩⟩, ⟨5, 31, ⟨(some 46), (.mov (.tmp 45)), none⟩⟩, ⟨6, 63, ⟨(some 47), (.mov (.tmp 11)), (some (46, false))⟩⟩, ⟨7, 127, ⟨(some 48), (.len (.tmp 47)), (some (46, false))⟩⟩, ⟨8, 255, ⟨(some 49), (.bin .lss (.tmp 48) (.con (.int .i64 3))), (some (46, false))⟩⟩, ⟨9, 511, ⟨(some 50), (.pick (.tmp 46) (.con (.bool true)) (.tmp 49)), none⟩⟩, ⟨10, 1023, ⟨(some 51), (.mov (.tmp 50)), none⟩⟩, ⟨11, 2047, ⟨(some 52), (.mov (.tmp 11)), (some (51, false))⟩⟩, ⟨12, 4095, ⟨(some 53), (.indexAddr 1 (.tmp 52) (.con (.int .i64 0))), (some (51, false))⟩⟩, ⟨13, 8191, ⟨(some 54), (.load false 1 (.tmp 53)), (some (51, false))⟩⟩, ⟨14, 16383, ⟨(some 55), (.bin .neq (.tmp 54) (.con (.int .u8 1))), (some (51, false))⟩⟩, ⟨15, 32767, ⟨(some 56), (.pick (.tmp 51) (.con (.bool true)) (.tmp 55)), none⟩⟩, ⟨16, 65535, ⟨(some 57), (.mov (.tmp 56)), none⟩⟩, ⟨17, 131071, ⟨(some 58), (.mov (.tmp 11)), (some (57, false))⟩⟩, ⟨18, 262143, ⟨(some 59), (.indexAddr 1 (.tmp 58) (.con (.int .i64 1))), (some (57, false))⟩⟩, ⟨19, 524287, ⟨(some 60), (.load false 1 (.tmp 59)), (some (57, false))⟩⟩, ⟨20, 131071, ⟨(some 61), (.mov (.tmp 0)), (some (57, false))⟩⟩, ⟨21, 2097151, ⟨(some 62), (.bin .neq (.tmp 60) (.tmp 61)), (some (57, false))⟩⟩, ⟨22, 4194303, ⟨(some 63), (.pick (.tmp 57) (.con (.bool true)) (.tmp 62)), none⟩⟩, ⟨23, 8388607, ⟨(some 64), (.mov (.tmp 63)), none⟩⟩, ⟨24, 16777215, ⟨(some 65), (.mov (.tmp 12)), (some (64, false))⟩⟩, ⟨25, 33554431, ⟨(some 66), (.indexAddr 1 (.tmp 65) (.con (.int .i64 1))), (some (64, false))⟩⟩, ⟨26, 67108863, ⟨(some 67), (.load false 1 (.tmp 66)), (some (64, false))⟩⟩, ⟨27, 16777215, ⟨(some 68), (.mov (.tmp 1)), (some (64, false))⟩⟩, ⟨28, 268435455, ⟨(some 69), (.bin .neq (.tmp 67) (.tmp 68)), (some (64, false))⟩⟩, ⟨29, 536870911, ⟨(some 70), (.pick (.tmp 64) (.con (.bool true)) (.tmp 69)), none⟩⟩, ⟨30, 1073741823, ⟨(some 71), (.mov (.tmp 70)), none⟩⟩, ⟨31, 2147483647, ⟨(some 72), (.mov (.tmp 11)), (some (71, false))⟩⟩, ⟨32, 4294967295, ⟨(some 73), (.sliceS 1 (.tmp 72) (some (.con (.int .i64 2))) none), (some (71, false))⟩⟩, ⟨33, 8589934591, ⟨(some 74), (.cvB2S (.tmp 73)), (some (71, false))⟩⟩, ⟨34, 2147483647, ⟨(some 75), (.mov (.tmp 12)), (some (71, false))⟩⟩, ⟨35, 19327352831, ⟨(some 76), (.sliceS 1 (.tmp 75) (some (.con (.int .i64 2))) none), (some (71, false))⟩⟩, ⟨36, 53687091199, ⟨(some 77), (.cvB2S (.tmp 76)), (some (71, false))⟩⟩, ⟨37, 137438953471, ⟨(some 78), (.bin .neq (.tmp 74) (.tmp 77)), (some (71, false))⟩⟩, ⟨38, 274877906943, ⟨(some 79), (.pick (.tmp 71) (.con (.bool true)) (.tmp 78)), none⟩⟩]
def f10_r10 : List AStep := [⟨(some 8), (.mov (.con (.bool false))), none⟩]
def f10_r11 : List AStep := [⟨(some 80), (.fieldAddr 0 (.tmp 7)), none⟩, ⟨(some 81), (.load false 1 (.tmp 80)), none⟩, ⟨(some 82), (.bin .neq (.tmp 81) (.con (.int .i64 0))), none⟩]
def f10_r12 : List AStep := [⟨(some 8), (.mov (.con (.bool true))), none⟩]
def f10_r13 : List AStep := [⟨(some 83), (.load true 6 (.tmp 7)), none⟩, ⟨(some 84), (.call (.con (.func 33 [])) [(.tmp 83)]), none⟩, ⟨(some 13), (.mov (.tmp 84)), none⟩]
def f10_r14 : List AStep := [⟨(some 85), (.mov (.tmp 13)), none⟩, ⟨(some 86), (.cvB2S (.tmp 85)), none⟩, ⟨(some 87), (.mov (.tmp 11)), none⟩, ⟨(some 88), (.cvB2S (.tmp 87)), none⟩, ⟨(some 89), (.bin .neq (.tmp 86) (.tmp 88)), none⟩, ⟨(some 90), (.mov (.tmp 89)), none⟩, ⟨(some 91), (.mov (.tmp 13)), (some (90, true))⟩, ⟨(some 92), (.cvB2S (.tmp 91)), (some (90, true))⟩, ⟨(some 93), (.mov (.tmp 12)), (some (90, true))⟩, ⟨(some 94), (.cvB2S (.tmp 93)), (some (90, true))⟩, ⟨(some 95), (.bin .neq (.tmp 92) (.tmp 94)), (some (90, true))⟩, ⟨(some 96), (.pick (.tmp 90) (.tmp 95) (.con (.bool false))), none⟩, ⟨(some 8), (.mov (.tmp 96)), none⟩]
def f10_c : ACode := (.seq (.ops f10_r0) (.seq (.ops f10_r1) (.seq (.seq (.ops f10_r2) (.cond (.tmp 16) (.seq (.ops f10_r3) .ret) .skip)) (.seq (.ops f10_r4) (.seq (.seq (.ops f10_r5) (.cond (.tmp 28) (.seq (.ops f10_r6) .ret) .skip)) (.seq (.ops f10_r7) (.seq (.ops f10_r8) (.seq (.seq (.draw f10_r9) (.cond (.tmp 79) (.seq (.ops f10_r10) .ret) .skip)) (.seq (.seq (.ops f10_r11) (.cond (.tmp 82) (.seq (.ops f10_r12) .ret) .skip)) (.seq (.ops f10_r13) (.seq (.ops f10_r14) .ret)))))))))))
def f10_a : AFunc := ⟨97, [(.tmp 8)], f10_c⟩

/-! 11 -/
def f11_r0 : List AStep := [⟨(some 8), (.mov (.con (.bool false))), none⟩]
def f11_r1 : List AStep := [⟨(some 17), (.call (.con (.func 31 [])) []), none⟩, ⟨(some 9), (.mov (.tmp 17)), none⟩]
def f11_r2 : List AStep := [⟨(some 18), (.mov (.tmp 9)), none⟩, ⟨(some 19), (.not (.tmp 18)), none⟩]
def f11_r3 : List AStep := [⟨(some 8), (.mov (.con (.bool false))), none⟩]
def f11_r4 : List AStep := [⟨(some 20), (.mov (.tmp 3)), none⟩, ⟨(some 21), (.cvInt .i64 (.tmp 20)), none⟩, ⟨(some 22), (.bin .rem (.tmp 21) (.con (.int .i64 70))), none⟩, ⟨(some 10), (.mov (.tmp 22)), none⟩]
def f11_r5 : List AStep := [⟨(some 23), (.mov (.tmp 1)), none⟩, ⟨(some 24), (.mov (.tmp 2)), none⟩, ⟨(some 25), (.mov (.tmp 10)), none⟩, ⟨(some 26), (.makeSlice 1 16 [(.str [])] (.tmp 25) (.tmp 25)), none⟩, ⟨(some 27), (.build [(.int .i64 0), (.int .i64 0), (.int .i64 0), (.bool false), .nils, .nils] [(1, (1, (.tmp 23))), (2, (1, (.tmp 24))), (4, (1, (.tmp 26)))]), none⟩, ⟨(some 11), (.alloc [(.int .i64 0), (.int .i64 0), (.int .i64 0), (.bool false), .nils, .nils]), none⟩, ⟨none, (.store 6 (.tmp 11) (.tmp 27)), none⟩]
def f11_r6 : List AStep := [⟨(some 28), (.mov (.tmp 1)), none⟩, ⟨(some 29), (.call (.con (.func 38 [])) [(.tmp 28)]), none⟩, ⟨(some 12), (.mov (.tmp 29)), none⟩]
def f11_r7 : List AStep := [⟨(some 30), (.mov (.tmp 2)), none⟩, ⟨(some 31), (.call (.con (.func 38 [])) [(.tmp 30)]), none⟩, ⟨(some 13), (.mov (.tmp 31)), none⟩]
def f11_r8 : List AStep := [⟨(some 32), (.mov (.tmp 0)), none⟩, ⟨(some 33), (.call (.con (.func 38 [])) [(.tmp 32)]), none⟩, ⟨(some 14), (.mov (.tmp 33)), none⟩]
def f11_r9 : List AStep := [⟨(some 34), (.mov (.tmp 12)), none⟩, ⟨(some 35), (.mov (.tmp 34)), none⟩, ⟨(some 36), (.mov (.tmp 13)), (some (35, true))⟩, ⟨(some 37), (.pick (.tmp 35) (.tmp 36) (.con (.bool false))), none⟩, ⟨(some 38), (.mov (.tmp 37)), none⟩, ⟨(some 39), (.mov (.tmp 10)), (some (38, true))⟩, ⟨(some 40), (.bin .leq (.tmp 39) (.con (.int .i64 64))), (some (38, true))⟩, ⟨(some 41), (.pick (.tmp 38) (.tmp 40) (.con (.bool false))), none⟩, ⟨(some 15), (.mov (.tmp 41)), none⟩]
def f11_r10 : List AStep := [⟨(some 42), (.mov (.tmp 0)), none⟩, ⟨(some 43), (.mov (.tmp 2)), none⟩, ⟨(some 44), (.call (.con (.func 34 [])) [(.tmp 42), (.tmp 43)]), none⟩, ⟨(some 16), (.alloc [(.int .i64 0), (.int .i64 0), (.int .i64 0), (.bool false), .nils, .nils]), none⟩, ⟨none, (.store 6 (.tmp 16) (.tmp 44)), none⟩]
def f11_r11 : List AStep := [⟨(some 45), (.load true 6 (.tmp 11)), none⟩, ⟨(some 46), (.call (.con (.func 33 [])) [(.tmp 45)]), none⟩, ⟨(some 47), (.len (.tmp 46)), none⟩, ⟨(some 48), (.bin .gtr (.tmp 47) (.con (.int .i64 0))), none⟩, ⟨(some 49), (.mov (.tmp 15)), none⟩, ⟨(some 50), (.eq .bool false (.tmp 48) (.tmp 49)), none⟩, ⟨(some 51), (.mov (.tmp 50)), none⟩, ⟨(some 52), (.load true 6 (.tmp 16)), (some (51, true))⟩, ⟨(some 53), (.call (.con (.func 33 [])) [(.tmp 52)]), (some (51, true))⟩, ⟨(some 54), (.len (.tmp 53)), (some (51, true))⟩, ⟨(some 55), (.bin .gtr (.tmp 54) (.con (.int .i64 0))), (some (51, true))⟩, ⟨(some 56), (.mov (.tmp 14)), (some (51, true))⟩, ⟨(some 57), (.mov (.tmp 56)), (some (51, true))⟩, ⟨(some 58), (.mov (.tmp 13)), (some (57, true))⟩, ⟨(some 59), (.pick (.tmp 57) (.tmp 58) (.con (.bool false))), (some (51, true))⟩, ⟨(some 60), (.eq .bool false (.tmp 55) (.tmp 59)), (some (51, true))⟩, ⟨(some 61), (.pick (.tmp 51) (.tmp 60) (.con (.bool false))), none⟩, ⟨(some 8), (.mov (.tmp 61)), none⟩]
def f11_c : ACode := (.seq (.ops f11_r0) (.seq (.ops f11_r1) (.seq (.seq (.ops f11_r2) (.cond (.tmp 19) (.seq (.ops f11_r3) .ret) .skip)) (.seq (.ops f11_r4) (.seq (.ops f11_r5) (.seq (.ops f11_r6) (.seq (.ops f11_r7) (.seq (.ops f11_r8) (.seq (.ops f11_r9) (.seq (.ops f11_r10) (.seq (.ops f11_r11) .ret)))))))))))
def f11_a : AFunc := ⟨62, [(.tmp 8)], f11_c⟩

/-! 12 -/
def f12_r0 : List AStep := [⟨(some 0), (.mov (.con (.bool false))), none⟩]
def f12_r1 : List AStep := [⟨(some 10), (.buildSlice 1 4 [(.int .u8 0)] [(0, (1, (.con (.int .u8 2)))), (1, (1, (.con (.int .u8 1)))), (2, (1, (.con (.int .u8 44)))), (3, (1, (.con (.int .u8 9))))]), none⟩, ⟨(some 11), (.call (.con (.func 14 [])) [(.tmp 10)]), none⟩, ⟨(some 9), (.mov (.tmp 11)), none⟩, ⟨(some 12), (.extract (.tmp 9) 0), none⟩, ⟨(some 13), (.extract (.tmp 9) 1), none⟩, ⟨(some 14), (.extract (.tmp 9) 2), none⟩, ⟨(some 1), (.mov (.tmp 12)), none⟩, ⟨(some 2), (.mov (.tmp 13)), none⟩, ⟨(some 3), (.mov (.tmp 14)), none⟩]
def f12_r2 : List AStep := [⟨(some 16), (.buildSlice 1 2 [(.int .u8 0)] [(0, (1, (.con (.int .u8 1)))), (1, (1, (.con (.int .u8 0))))]), none⟩, ⟨(some 17), (.call (.con (.func 14 [])) [(.tmp 16)]), none⟩, ⟨(some 15), (.mov (.tmp 17)), none⟩, ⟨(some 18), (.extract (.tmp 15) 0), none⟩, ⟨(some 19), (.extract (.tmp 15) 1), none⟩, ⟨(some 20), (.extract (.tmp 15) 2), none⟩, ⟨(some 4), (.mov (.tmp 18)), none⟩, ⟨(some 5), (.mov (.tmp 19)), none⟩, ⟨(some 6), (.mov (.tmp 20)), none⟩]
def f12_r3 : List AStep := [⟨(some 21), (.buildSlice 1 2 [(.str [])] [(0, (1, (.con (.str [97, 98])))), (1, (1, (.con (.str []))))]), none⟩, ⟨(some 22), (.call (.con (.func 19 [])) [(.tmp 21)]), none⟩, ⟨(some 23), (.buildSlice 1 1 [(.int .u8 0)] [(0, (1, (.con (.int .u8 7))))]), none⟩, ⟨(some 24), (.append 1 (.tmp 22) (.tmp 23)), none⟩, ⟨(some 25), (.call (.con (.func 21 [])) [(.tmp 24)]), none⟩, ⟨(some 7), (.mov (.tmp 25)), none⟩]
def f12_r4 : List AStep := [⟨(some 26), (.mov (.tmp 7)), none⟩, ⟨(some 27), (.call (.con (.func 26 [])) [(.tmp 26), (.con (.int .i64 5))]), none⟩, ⟨(some 8), (.mov (.tmp 27)), none⟩]
def f12_r5 : List AStep := [⟨(some 28), (.buildSlice 1 2 [(.int .u64 0)] [(0, (1, (.con (.int .u64 300)))), (1, (1, (.con (.int .u64 0))))]), none⟩, ⟨(some 29), (.call (.con (.func 16 [])) [(.tmp 28)]), none⟩, ⟨(some 30), (.cvB2S (.tmp 29)), none⟩, ⟨(some 31), (.bin .eql (.tmp 30) (.con (.str [2, 1, 44, 0]))), none⟩, ⟨(some 32), (.mov (.tmp 31)), none⟩, ⟨(some 33), (.mov (.tmp 1)), (some (32, true))⟩, ⟨(some 34), (.bin .eql (.tmp 33) (.con (.int .u64 300))), (some (32, true))⟩, ⟨(some 35), (.pick (.tmp 32) (.tmp 34) (.con (.bool false))), none⟩, ⟨(some 36), (.mov (.tmp 35)), none⟩, ⟨(some 37), (.mov (.tmp 2)), (some (36, true))⟩, ⟨(some 38), (.bin .eql (.tmp 37) (.con (.int .i64 3))), (some (36, true))⟩, ⟨(some 39), (.pick (.tmp 36) (.tmp 38) (.con (.bool false))), none⟩, ⟨(some 40), (.mov (.tmp 39)), none⟩, ⟨(some 41), (.mov (.tmp 3)), (some (40, true))⟩, ⟨(some 42), (.bin .eql (.tmp 41) (.con (.int .i64 0))), (some (40, true))⟩, ⟨(some 43), (.pick (.tmp 40) (.tmp 42) (.con (.bool false))), none⟩, ⟨(some 44), (.mov (.tmp 43)), none⟩, ⟨(some 45), (.mov (.tmp 6)), (some (44, true))⟩, ⟨(some 46), (.bin .eql (.tmp 45) (.con (.int .i64 11))), (some (44, true))⟩, ⟨(some 47), (.pick (.tmp 44) (.tmp 46) (.con (.bool false))), none⟩, ⟨(some 48), (.mov (.tmp 47)), none⟩, ⟨(some 49), (.mov (.tmp 8)), (some (48, true))⟩, ⟨(some 50), (.len (.tmp 49)), (some (48, true))⟩, ⟨(some 51), (.bin .eql (.tmp 50) (.con (.int .i64 2))), (some (48, true))⟩, ⟨(some 52), (.pick (.tmp 48) (.tmp 51) (.con (.bool false))), none⟩, ⟨(some 53), (.mov (.tmp 52)), none⟩, ⟨(some 54), (.mov (.tmp 8)), (some (53, true))⟩, ⟨(some 55), (.indexAddr 1 (.tmp 54) (.con (.int .i64 0))), (some (53, true))⟩, ⟨(some 56), (.load false 1 (.tmp 55)), (some (53, true))⟩, ⟨(some 57), (.bin .eql (.tmp 56) (.con (.str [97, 98]))), (some (53, true))⟩, ⟨(some 58), (.pick (.tmp 53) (.tmp 57) (.con (.bool false))), none⟩, ⟨(some 59), (.mov (.tmp 58)), none⟩, ⟨(some 60), (.mov (.tmp 7)), (some (59, true))⟩, ⟨(some 61), (.call (.con (.func 28 [])) [(.tmp 60)]), (some (59, true))⟩, ⟨(some 62), (.bin .eql (.tmp 61) (.con (.int .i64 1))), (some (59, true))⟩, ⟨(some 63), (.pick (.tmp 59) (.tmp 62) (.con (.bool false))), none⟩, ⟨(some 64), (.mov (.tmp 63)), none⟩, ⟨(some 65), (.mov (.tmp 7)), (some (64, true))⟩, ⟨(some 66), (.call (.con (.func 30 [])) [(.tmp 65)]), (some (64, true))⟩, ⟨(some 67), (.bin .eql (.tmp 66) (.con (.int .i64 12))), (some (64, true))⟩, ⟨(some 68), (.pick (.tmp 64) (.tmp 67) (.con (.bool false))), none⟩, ⟨(some 69), (.mov (.tmp 68)), none⟩, ⟨(some 70), (.buildSlice 1 1 [(.str [])] [(0, (1, (.con (.str [97, 98]))))]), (some (69, true))⟩, ⟨(some 71), (.call (.con (.func 17 [])) [(.tmp 70)]), (some (69, true))⟩, ⟨(some 72), (.cvB2S (.tmp 71)), (some (69, true))⟩, ⟨(some 73), (.bin .eql (.tmp 72) (.con (.str [1, 2, 97, 98]))), (some (69, true))⟩, ⟨(some 74), (.pick (.tmp 69) (.tmp 73) (.con (.bool false))), none⟩, ⟨(some 0), (.mov (.tmp 74)), none⟩]
def f12_c : ACode := (.seq (.ops f12_r0) (.seq (.ops f12_r1) (.seq (.ops f12_r2) (.seq (.ops f12_r3) (.seq (.ops f12_r4) (.seq (.ops f12_r5) .ret))))))
def f12_a : AFunc := ⟨75, [(.tmp 0)], f12_c⟩

/-! 13 -/
def f13_r0 : List AStep := [⟨(some 2), (.mov (.con (.str []))), none⟩]
def f13_r1 : List AStep := [⟨(some 3), (.mov (.con (.str []))), none⟩]
def f13_r2 : List AStep := [⟨(some 5), (.mov (.tmp 0)), none⟩, ⟨(some 4), (.mov (.tmp 5)), none⟩]
def f13_r3 : List AStep := [⟨(some 6), (.mov (.tmp 4)), none⟩, ⟨(some 7), (.bin .gtr (.tmp 6) (.con (.int .u64 0))), none⟩]
def f13_r4 : List AStep := [⟨(some 10), (.mov (.tmp 4)), none⟩, ⟨(some 11), (.bin .rem (.tmp 10) (.con (.int .u64 256))), none⟩, ⟨(some 12), (.cvInt .u8 (.tmp 11)), none⟩, ⟨(some 13), (.buildSlice 1 1 [(.int .u8 0)] [(0, (1, (.tmp 12)))]), none⟩, ⟨(some 14), (.cvB2S (.tmp 13)), none⟩, ⟨(some 15), (.mov (.tmp 3)), none⟩, ⟨(some 16), (.bin .add (.tmp 14) (.tmp 15)), none⟩, ⟨(some 3), (.mov (.tmp 16)), none⟩]
def f13_r5 : List AStep := [⟨(some 8), (.mov (.tmp 4)), none⟩, ⟨(some 9), (.bin .quo (.tmp 8) (.con (.int .u64 256))), none⟩, ⟨(some 4), (.mov (.tmp 9)), none⟩]
def f13_l6 : ACode := (.seq (.seq (.ops f13_r3) (.cond (.tmp 7) .skip (.exit 0))) (.seq (.block 1 (.ops f13_r4)) (.ops f13_r5)))
def f13_r7 : List AStep := [⟨(some 17), (.mov (.tmp 3)), none⟩, ⟨(some 18), (.lenT (.tmp 17)), none⟩, ⟨(some 19), (.cvInt .u8 (.tmp 18)), none⟩, ⟨(some 20), (.buildSlice 1 1 [(.int .u8 0)] [(0, (1, (.tmp 19)))]), none⟩, ⟨(some 21), (.cvB2S (.tmp 20)), none⟩, ⟨(some 22), (.mov (.tmp 3)), none⟩, ⟨(some 23), (.bin .add (.tmp 21) (.tmp 22)), none⟩, ⟨(some 2), (.mov (.tmp 23)), none⟩]
def f13_c : ACode := (.seq (.ops f13_r0) (.seq (.ops f13_r1) (.seq (.seq (.ops f13_r2) (.block 0 (.loop f13_l6))) (.seq (.ops f13_r7) .ret))))
def f13_a : AFunc := ⟨24, [(.tmp 2)], f13_c⟩

/-! 14 -/
def f14_r0 : List AStep := [⟨(some 2), (.mov (.con (.int .u64 0))), none⟩, ⟨(some 3), (.mov (.con (.int .i64 0))), none⟩, ⟨(some 4), (.mov (.con (.int .i64 0))), none⟩]
def f14_r1 : List AStep := [⟨(some 9), (.mov (.tmp 0)), none⟩, ⟨(some 10), (.len (.tmp 9)), none⟩, ⟨(some 11), (.bin .eql (.tmp 10) (.con (.int .i64 0))), none⟩, ⟨(some 8), (.mov (.tmp 11)), none⟩]
def f14_r2 : List AStep := [⟨(some 2), (.mov (.con (.int .u64 0))), none⟩, ⟨(some 3), (.mov (.con (.int .i64 0))), none⟩, ⟨(some 4), (.mov (.con (.int .i64 10))), none⟩]
def f14_r3 : List AStep := [⟨(some 13), (.mov (.tmp 0)), none⟩, ⟨(some 14), (.indexAddr 1 (.tmp 13) (.con (.int .i64 0))), none⟩, ⟨(some 15), (.load false 1 (.tmp 14)), none⟩, ⟨(some 16), (.bin .gtr (.tmp 15) (.con (.int .u8 8))), none⟩, ⟨(some 12), (.mov (.tmp 16)), none⟩]
def f14_r4 : List AStep := [⟨(some 2), (.mov (.con (.int .u64 0))), none⟩, ⟨(some 3), (.mov (.con (.int .i64 0))), none⟩, ⟨(some 4), (.mov (.con (.int .i64 11))), none⟩]
def f14_r5 : List AStep := [⟨(some 18), (.mov (.tmp 0)), none⟩, ⟨(some 19), (.len (.tmp 18)), none⟩, ⟨(some 20), (.bin .sub (.tmp 19) (.con (.int .i64 1))), none⟩, ⟨(some 21), (.mov (.tmp 0)), none⟩, ⟨(some 22), (.indexAddr 1 (.tmp 21) (.con (.int .i64 0))), none⟩, ⟨(some 23), (.load false 1 (.tmp 22)), none⟩, ⟨(some 24), (.cvInt .i64 (.tmp 23)), none⟩, ⟨(some 25), (.bin .lss (.tmp 20) (.tmp 24)), none⟩, ⟨(some 17), (.mov (.tmp 25)), none⟩]
def f14_r6 : List AStep := [⟨(some 2), (.mov (.con (.int .u64 0))), none⟩, ⟨(some 3), (.mov (.con (.int .i64 0))), none⟩, ⟨(some 4), (.mov (.con (.int .i64 10))), none⟩]
def f14_r7 : List AStep := [⟨(some 27), (.mov (.tmp 0)), none⟩, ⟨(some 28), (.indexAddr 1 (.tmp 27) (.con (.int .i64 0))), none⟩, ⟨(some 29), (.load false 1 (.tmp 28)), none⟩, ⟨(some 30), (.bin .gtr (.tmp 29) (.con (.int .u8 0))), none⟩, ⟨(some 31), (.mov (.tmp 30)), none⟩, ⟨(some 32), (.mov (.tmp 0)), (some (31, true))⟩, ⟨(some 33), (.indexAddr 1 (.tmp 32) (.con (.int .i64 1))), (some (31, true))⟩, ⟨(some 34), (.load false 1 (.tmp 33)), (some (31, true))⟩, ⟨(some 35), (.bin .eql (.tmp 34) (.con (.int .u8 0))), (some (31, true))⟩, ⟨(some 36), (.pick (.tmp 31) (.tmp 35) (.con (.bool false))), none⟩, ⟨(some 26), (.mov (.tmp 36)), none⟩]
def f14_r8 : List AStep := [⟨(some 2), (.mov (.con (.int .u64 0))), none⟩, ⟨(some 3), (.mov (.con (.int .i64 0))), none⟩, ⟨(some 4), (.mov (.con (.int .i64 11))), none⟩]
def f14_r9 : List AStep := [⟨(some 5), (.mov (.con (.int .u64 0))), none⟩]
def f14_r10 : List AStep := [⟨(some 37), (.mov (.tmp 0)), none⟩, ⟨(some 38), (.mov (.tmp 0)), none⟩, ⟨(some 39), (.indexAddr 1 (.tmp 38) (.con (.int .i64 0))), none⟩, ⟨(some 40), (.load false 1 (.tmp 39)), none⟩, ⟨(some 41), (.bin .add (.con (.int .u8 1)) (.tmp 40)), none⟩, ⟨(some 42), (.sliceS 1 (.tmp 37) (some (.con (.int .i64 1))) (some (.tmp 41))), none⟩, ⟨(some 43), (.len (.tmp 42)), none⟩, ⟨(some 44), (.mov (.con (.int .i64 0))), none⟩]
def f14_r11 : List AStep := [⟨(some 45), (.bin .lss (.tmp 44) (.tmp 43)), none⟩]
def f14_r12 : List AStep := [⟨(some 46), (.indexAddr 1 (.tmp 42) (.tmp 44)), none⟩, ⟨(some 47), (.load false 1 (.tmp 46)), none⟩, ⟨(some 7), (.mov (.tmp 47)), none⟩]
def f14_r13 : List AStep := [⟨(some 48), (.mov (.tmp 5)), none⟩, ⟨(some 49), (.bin .shl (.tmp 48) (.con (.int .u64 8))), none⟩, ⟨(some 50), (.mov (.tmp 7)), none⟩, ⟨(some 51), (.cvInt .u64 (.tmp 50)), none⟩, ⟨(some 52), (.bin .or (.tmp 49) (.tmp 51)), none⟩, ⟨(some 5), (.mov (.tmp 52)), none⟩]
def f14_r14 : List AStep := [⟨(some 53), (.bin .add (.tmp 44) (.con (.int .i64 1))), none⟩, ⟨(some 44), (.mov (.tmp 53)), none⟩]
def f14_l15 : ACode := (.seq (.ops f14_r11) (.seq (.cond (.tmp 45) .skip (.exit 1)) (.seq (.block 2 (.seq (.ops f14_r12) (.ops f14_r13))) (.ops f14_r14))))
def f14_r16 : List DStep := [⟨0, 0, ⟨(some 54), (.mov (.tmp 5)), none⟩⟩, ⟨1, 0, ⟨(some 55), (.mov (.tmp 0)), none⟩⟩, ⟨2, 2, ⟨(some 56), (.indexAddr 1 (.tmp 55) (.con (.int .i64 0))), none⟩⟩, ⟨3, 6, ⟨(some 57), (.load false 1 (.tmp 56)), none⟩⟩, ⟨4, 14, ⟨(some 58), (.cvInt .i64 (.tmp 57)), none⟩⟩, ⟨5, 30, ⟨(some 59), (.bin .add (.con (.int .i64 1)) (.tmp 58)), none⟩⟩, ⟨6, 1, ⟨(some 2), (.mov (.tmp 54)), none⟩⟩, ⟨7, 127, ⟨(some 3), (.mov (.tmp 59)), none⟩⟩, ⟨8, 255, ⟨(some 4), (.mov (.con (.int .i64 0))), none⟩⟩]
def f14_c : ACode := (.seq (.ops f14_r0) (.seq (.block 0 (.seq (.ops f14_r1) (.cond (.tmp 8) (.seq (.ops f14_r2) .ret) (.seq (.ops f14_r3) (.cond (.tmp 12) (.seq (.ops f14_r4) .ret) (.seq (.ops f14_r5) (.cond (.tmp 17) (.seq (.ops f14_r6) .ret) (.seq (.ops f14_r7) (.cond (.tmp 26) (.seq (.ops f14_r8) .ret) .skip))))))))) (.seq (.ops f14_r9) (.seq (.seq (.ops f14_r10) (.block 1 (.loop f14_l15))) (.seq (.draw f14_r16) .ret)))))
def f14_a : AFunc := ⟨60, [(.tmp 2), (.tmp 3), (.tmp 4)], f14_c⟩

/-! 15 -/
def f15_r0 : List AStep := [⟨(some 2), (.mov (.con (.int .u64 0))), none⟩, ⟨(some 3), (.mov (.con (.int .i64 0))), none⟩, ⟨(some 4), (.mov (.con (.int .i64 0))), none⟩]
def f15_r1 : List AStep := [⟨(some 8), (.mov (.tmp 0)), none⟩, ⟨(some 9), (.bin .eql (.tmp 8) (.con (.str []))), none⟩]
def f15_r2 : List AStep := [⟨(some 2), (.mov (.con (.int .u64 0))), none⟩, ⟨(some 3), (.mov (.con (.int .i64 0))), none⟩, ⟨(some 4), (.mov (.con (.int .i64 10))), none⟩]
def f15_r3 : List AStep := [⟨(some 10), (.mov (.tmp 0)), none⟩, ⟨(some 11), (.indexStr (.tmp 10) (.con (.int .i64 0))), none⟩, ⟨(some 12), (.cvInt .i64 (.tmp 11)), none⟩, ⟨(some 5), (.mov (.tmp 12)), none⟩]
def f15_r4 : List AStep := [⟨(some 13), (.mov (.tmp 5)), none⟩, ⟨(some 14), (.bin .gtr (.tmp 13) (.con (.int .i64 8))), none⟩]
def f15_r5 : List AStep := [⟨(some 2), (.mov (.con (.int .u64 0))), none⟩, ⟨(some 3), (.mov (.con (.int .i64 0))), none⟩, ⟨(some 4), (.mov (.con (.int .i64 11))), none⟩]
def f15_r6 : List AStep := [⟨(some 15), (.mov (.tmp 0)), none⟩, ⟨(some 16), (.lenT (.tmp 15)), none⟩, ⟨(some 17), (.mov (.tmp 5)), none⟩, ⟨(some 18), (.bin .add (.tmp 17) (.con (.int .i64 1))), none⟩, ⟨(some 19), (.bin .lss (.tmp 16) (.tmp 18)), none⟩]
def f15_r7 : List AStep := [⟨(some 2), (.mov (.con (.int .u64 0))), none⟩, ⟨(some 3), (.mov (.con (.int .i64 0))), none⟩, ⟨(some 4), (.mov (.con (.int .i64 10))), none⟩]
def f15_r8 : List AStep := [⟨(some 20), (.mov (.tmp 5)), none⟩, ⟨(some 21), (.bin .gtr (.tmp 20) (.con (.int .i64 0))), none⟩, ⟨(some 22), (.mov (.tmp 21)), none⟩, ⟨(some 23), (.mov (.tmp 0)), (some (22, true))⟩, ⟨(some 24), (.indexStr (.tmp 23) (.con (.int .i64 1))), (some (22, true))⟩, ⟨(some 25), (.bin .eql (.tmp 24) (.con (.int .u8 0))), (some (22, true))⟩, ⟨(some 26), (.pick (.tmp 22) (.tmp 25) (.con (.bool false))), none⟩]
def f15_r9 : List AStep := [⟨(some 2), (.mov (.con (.int .u64 0))), none⟩, ⟨(some 3), (.mov (.con (.int .i64 0))), none⟩, ⟨(some 4), (.mov (.con (.int .i64 11))), none⟩]
def f15_r10 : List AStep := [⟨(some 6), (.mov (.con (.int .u64 0))), none⟩]
def f15_r11 : List AStep := [⟨(some 7), (.mov (.con (.int .i64 1))), none⟩]
def f15_r12 : List AStep := [⟨(some 27), (.mov (.tmp 7)), none⟩, ⟨(some 28), (.mov (.tmp 5)), none⟩, ⟨(some 29), (.bin .leq (.tmp 27) (.tmp 28)), none⟩]
def f15_r13 : List AStep := [⟨(some 32), (.mov (.tmp 6)), none⟩, ⟨(some 33), (.bin .mul (.tmp 32) (.con (.int .u64 256))), none⟩, ⟨(some 34), (.mov (.tmp 0)), none⟩, ⟨(some 35), (.mov (.tmp 7)), none⟩, ⟨(some 36), (.indexStr (.tmp 34) (.tmp 35)), none⟩, ⟨(some 37), (.cvInt .u64 (.tmp 36)), none⟩, ⟨(some 38), (.bin .add (.tmp 33) (.tmp 37)), none⟩, ⟨(some 6), (.mov (.tmp 38)), none⟩]
def f15_r14 : List AStep := [⟨(some 30), (.mov (.tmp 7)), none⟩, ⟨(some 31), (.bin .add (.tmp 30) (.con (.int .i64 1))), none⟩, ⟨(some 7), (.mov (.tmp 31)), none⟩]
def f15_l15 : ACode := (.seq (.seq (.ops f15_r12) (.cond (.tmp 29) .skip (.exit 0))) (.seq (.block 1 (.ops f15_r13)) (.ops f15_r14)))
def f15_r16 : List AStep := [⟨(some 39), (.mov (.tmp 6)), none⟩, ⟨(some 40), (.mov (.tmp 5)), none⟩, ⟨(some 41), (.bin .add (.tmp 40) (.con (.int .i64 1))), none⟩, ⟨(some 2), (.mov (.tmp 39)), none⟩, ⟨(some 3), (.mov (.tmp 41)), none⟩, ⟨(some 4), (.mov (.con (.int .i64 0))), none⟩]
def f15_c : ACode := (.seq (.ops f15_r0) (.seq (.seq (.ops f15_r1) (.cond (.tmp 9) (.seq (.ops f15_r2) .ret) .skip)) (.seq (.ops f15_r3) (.seq (.seq (.ops f15_r4) (.cond (.tmp 14) (.seq (.ops f15_r5) .ret) .skip)) (.seq (.seq (.ops f15_r6) (.cond (.tmp 19) (.seq (.ops f15_r7) .ret) .skip)) (.seq (.seq (.ops f15_r8) (.cond (.tmp 26) (.seq (.ops f15_r9) .ret) .skip)) (.seq (.ops f15_r10) (.seq (.seq (.ops f15_r11) (.block 0 (.loop f15_l15))) (.seq (.ops f15_r16) .ret)))))))))
def f15_a : AFunc := ⟨42, [(.tmp 2), (.tmp 3), (.tmp 4)], f15_c⟩

/-! 16 -/
def f16_r0 : List AStep := [⟨(some 2), (.mov (.con .nils)), none⟩]
def f16_r1 : List AStep := [⟨(some 3), (.mov (.con .nils)), none⟩]
def f16_r2 : List AStep := [⟨(some 8), (.mov (.tmp 0)), none⟩, ⟨(some 9), (.len (.tmp 8)), none⟩, ⟨(some 10), (.mov (.con (.int .i64 0))), none⟩]
def f16_r3 : List AStep := [⟨(some 11), (.bin .lss (.tmp 10) (.tmp 9)), none⟩]
def f16_r4 : List AStep := [⟨(some 12), (.indexAddr 1 (.tmp 8) (.tmp 10)), none⟩, ⟨(some 13), (.load false 1 (.tmp 12)), none⟩, ⟨(some 5), (.mov (.tmp 13)), none⟩]
def f16_r5 : List AStep := [⟨(some 14), (.mov (.tmp 5)), none⟩, ⟨(some 15), (.call (.con (.func 39 [])) [(.tmp 14)]), none⟩, ⟨(some 16), (.bin .add (.tmp 15) (.con (.int .i64 8))), none⟩, ⟨(some 17), (.bin .sub (.tmp 16) (.con (.int .i64 1))), none⟩, ⟨(some 18), (.bin .quo (.tmp 17) (.con (.int .i64 8))), none⟩, ⟨(some 6), (.mov (.tmp 18)), none⟩]
def f16_r6 : List AStep := [⟨(some 19), (.mov (.tmp 3)), none⟩, ⟨(some 20), (.mov (.tmp 6)), none⟩, ⟨(some 21), (.cvInt .u8 (.tmp 20)), none⟩, ⟨(some 22), (.buildSlice 1 1 [(.int .u8 0)] [(0, (1, (.tmp 21)))]), none⟩, ⟨(some 23), (.append 1 (.tmp 19) (.tmp 22)), none⟩, ⟨(some 3), (.mov (.tmp 23)), none⟩]
def f16_r7 : List AStep := [⟨(some 24), (.mov (.tmp 6)), none⟩, ⟨(some 25), (.mov (.con (.int .i64 0))), none⟩]
def f16_r8 : List AStep := [⟨(some 26), (.bin .lss (.tmp 25) (.tmp 24)), none⟩]
def f16_r9 : List AStep := [⟨(some 27), (.mov (.tmp 25)), none⟩, ⟨(some 7), (.mov (.tmp 27)), none⟩]
def f16_r10 : List AStep := [⟨(some 28), (.mov (.tmp 3)), none⟩, ⟨(some 29), (.mov (.tmp 5)), none⟩, ⟨(some 30), (.mov (.tmp 6)), none⟩, ⟨(some 31), (.bin .sub (.tmp 30) (.con (.int .i64 1))), none⟩, ⟨(some 32), (.mov (.tmp 7)), none⟩, ⟨(some 33), (.bin .sub (.tmp 31) (.tmp 32)), none⟩, ⟨(some 34), (.bin .mul (.con (.int .i64 8)) (.tmp 33)), none⟩, ⟨(some 35), (.bin .shr (.tmp 29) (.tmp 34)), none⟩, ⟨(some 36), (.cvInt .u8 (.tmp 35)), none⟩, ⟨(some 37), (.buildSlice 1 1 [(.int .u8 0)] [(0, (1, (.tmp 36)))]), none⟩, ⟨(some 38), (.append 1 (.tmp 28) (.tmp 37)), none⟩, ⟨(some 3), (.mov (.tmp 38)), none⟩]
def f16_r11 : List AStep := [⟨(some 39), (.bin .add (.tmp 25) (.con (.int .i64 1))), none⟩, ⟨(some 25), (.mov (.tmp 39)), none⟩]
def f16_l12 : ACode := (.seq (.ops f16_r8) (.seq (.cond (.tmp 26) .skip (.exit 2)) (.seq (.block 3 (.seq (.ops f16_r9) (.ops f16_r10))) (.ops f16_r11))))
def f16_r13 : List AStep := [⟨(some 40), (.bin .add (.tmp 10) (.con (.int .i64 1))), none⟩, ⟨(some 10), (.mov (.tmp 40)), none⟩]
def f16_l14 : ACode := (.seq (.ops f16_r3) (.seq (.cond (.tmp 11) .skip (.exit 0)) (.seq (.block 1 (.seq (.ops f16_r4) (.seq (.ops f16_r5) (.seq (.ops f16_r6) (.seq (.ops f16_r7) (.block 2 (.loop f16_l12))))))) (.ops f16_r13))))
def f16_r15 : List AStep := [⟨(some 41), (.mov (.tmp 3)), none⟩, ⟨(some 2), (.mov (.tmp 41)), none⟩]
def f16_c : ACode := (.seq (.ops f16_r0) (.seq (.ops f16_r1) (.seq (.seq (.ops f16_r2) (.block 0 (.loop f16_l14))) (.seq (.ops f16_r15) .ret))))
def f16_a : AFunc := ⟨42, [(.tmp 2)], f16_c⟩

/-! 17 -/
def f17_r0 : List AStep := [⟨(some 2), (.mov (.con .nils)), none⟩]
def f17_r1 : List AStep := [⟨(some 3), (.mov (.con .nils)), none⟩]
def f17_r2 : List AStep := [⟨(some 6), (.mov (.tmp 0)), none⟩, ⟨(some 7), (.len (.tmp 6)), none⟩, ⟨(some 8), (.mov (.con (.int .i64 0))), none⟩]
def f17_r3 : List AStep := [⟨(some 9), (.bin .lss (.tmp 8) (.tmp 7)), none⟩]
def f17_r4 : List AStep := [⟨(some 10), (.indexAddr 1 (.tmp 6) (.tmp 8)), none⟩, ⟨(some 11), (.load false 1 (.tmp 10)), none⟩, ⟨(some 5), (.mov (.tmp 11)), none⟩]
def f17_r5 : List AStep := [⟨(some 12), (.mov (.tmp 3)), none⟩, ⟨(some 13), (.mov (.tmp 5)), none⟩, ⟨(some 14), (.lenT (.tmp 13)), none⟩, ⟨(some 15), (.cvInt .u64 (.tmp 14)), none⟩, ⟨(some 16), (.buildSlice 1 1 [(.int .u64 0)] [(0, (1, (.tmp 15)))]), none⟩, ⟨(some 17), (.call (.con (.func 16 [])) [(.tmp 16)]), none⟩, ⟨(some 18), (.append 1 (.tmp 12) (.tmp 17)), none⟩, ⟨(some 19), (.mov (.tmp 5)), none⟩, ⟨(some 20), (.append 1 (.tmp 18) (.tmp 19)), none⟩, ⟨(some 3), (.mov (.tmp 20)), none⟩]
def f17_r6 : List AStep := [⟨(some 21), (.bin .add (.tmp 8) (.con (.int .i64 1))), none⟩, ⟨(some 8), (.mov (.tmp 21)), none⟩]
def f17_l7 : ACode := (.seq (.ops f17_r3) (.seq (.cond (.tmp 9) .skip (.exit 0)) (.seq (.block 1 (.seq (.ops f17_r4) (.ops f17_r5))) (.ops f17_r6))))
def f17_r8 : List AStep := [⟨(some 22), (.mov (.tmp 3)), none⟩, ⟨(some 2), (.mov (.tmp 22)), none⟩]
def f17_c : ACode := (.seq (.ops f17_r0) (.seq (.ops f17_r1) (.seq (.seq (.ops f17_r2) (.block 0 (.loop f17_l7))) (.seq (.ops f17_r8) .ret))))
def f17_a : AFunc := ⟨23, [(.tmp 2)], f17_c⟩

/-! 18 -/
def f18_r0 : List AStep := [⟨(some 2), (.mov (.con (.str []))), none⟩]
def f18_r1 : List AStep := [⟨(some 3), (.mov (.con (.str []))), none⟩]
def f18_r2 : List AStep := [⟨(some 4), (.mov (.con (.int .i64 0))), none⟩]
def f18_r3 : List AStep := [⟨(some 5), (.mov (.tmp 4)), none⟩, ⟨(some 6), (.mov (.tmp 0)), none⟩, ⟨(some 7), (.len (.tmp 6)), none⟩, ⟨(some 8), (.bin .lss (.tmp 5) (.tmp 7)), none⟩]
def f18_r4 : List AStep := [⟨(some 11), (.mov (.tmp 3)), none⟩, ⟨(some 12), (.mov (.tmp 0)), none⟩, ⟨(some 13), (.mov (.tmp 4)), none⟩, ⟨(some 14), (.indexAddr 1 (.tmp 12) (.tmp 13)), none⟩, ⟨(some 15), (.load false 1 (.tmp 14)), none⟩, ⟨(some 16), (.call (.con (.func 40 [])) [(.tmp 15)]), none⟩, ⟨(some 17), (.bin .add (.tmp 11) (.tmp 16)), none⟩, ⟨(some 3), (.mov (.tmp 17)), none⟩]
def f18_r5 : List AStep := [⟨(some 9), (.mov (.tmp 4)), none⟩, ⟨(some 10), (.bin .add (.tmp 9) (.con (.int .i64 1))), none⟩, ⟨(some 4), (.mov (.tmp 10)), none⟩]
def f18_l6 : ACode := (.seq (.seq (.ops f18_r3) (.cond (.tmp 8) .skip (.exit 0))) (.seq (.block 1 (.ops f18_r4)) (.ops f18_r5)))
def f18_r7 : List AStep := [⟨(some 18), (.mov (.tmp 3)), none⟩, ⟨(some 2), (.mov (.tmp 18)), none⟩]
def f18_c : ACode := (.seq (.ops f18_r0) (.seq (.ops f18_r1) (.seq (.seq (.ops f18_r2) (.block 0 (.loop f18_l6))) (.seq (.ops f18_r7) .ret))))
def f18_a : AFunc := ⟨19, [(.tmp 2)], f18_c⟩

/-! 19 -/
def f19_r0 : List AStep := [⟨(some 2), (.mov (.con .nils)), none⟩]
def f19_r1 : List AStep := [⟨(some 3), (.mov (.tmp 0)), none⟩, ⟨(some 4), (.len (.tmp 3)), none⟩, ⟨(some 5), (.cvInt .u64 (.tmp 4)), none⟩, ⟨(some 6), (.buildSlice 1 1 [(.int .u64 0)] [(0, (1, (.tmp 5)))]), none⟩, ⟨(some 7), (.call (.con (.func 16 [])) [(.tmp 6)]), none⟩, ⟨(some 8), (.mov (.tmp 0)), none⟩, ⟨(some 9), (.call (.con (.func 17 [])) [(.tmp 8)]), none⟩, ⟨(some 10), (.append 1 (.tmp 7) (.tmp 9)), none⟩, ⟨(some 2), (.mov (.tmp 10)), none⟩]
def f19_c : ACode := (.seq (.ops f19_r0) (.seq (.ops f19_r1) .ret))
def f19_a : AFunc := ⟨11, [(.tmp 2)], f19_c⟩

/-! 20 -/
def f20_r0 : List AStep := [⟨(some 2), (.mov (.con (.str []))), none⟩]
def f20_r1 : List AStep := [⟨(some 3), (.mov (.tmp 0)), none⟩, ⟨(some 4), (.len (.tmp 3)), none⟩, ⟨(some 5), (.cvInt .u64 (.tmp 4)), none⟩, ⟨(some 6), (.call (.con (.func 13 [])) [(.tmp 5)]), none⟩, ⟨(some 7), (.mov (.tmp 0)), none⟩, ⟨(some 8), (.call (.con (.func 18 [])) [(.tmp 7)]), none⟩, ⟨(some 9), (.bin .add (.tmp 6) (.tmp 8)), none⟩, ⟨(some 2), (.mov (.tmp 9)), none⟩]
def f20_c : ACode := (.seq (.ops f20_r0) (.seq (.ops f20_r1) .ret))
def f20_a : AFunc := ⟨10, [(.tmp 2)], f20_c⟩

/-! 21 -/
def f21_r0 : List AStep := [⟨(some 2), (.mov (.con .nilp)), none⟩]
def f21_r1 : List AStep := [⟨(some 3), (.mov (.tmp 0)), none⟩, ⟨(some 4), (.call (.con (.func 41 [])) [(.tmp 3)]), none⟩, ⟨(some 5), (.build [.nils, (.int .i64 0)] [(0, (1, (.tmp 4)))]), none⟩, ⟨(some 6), (.box (.tmp 5)), none⟩, ⟨(some 2), (.mov (.tmp 6)), none⟩]
def f21_c : ACode := (.seq (.ops f21_r0) (.seq (.ops f21_r1) .ret))
def f21_a : AFunc := ⟨7, [(.tmp 2)], f21_c⟩

/-! 22 -/
def f22_r0 : List AStep := [⟨(some 2), (.mov (.con (.int .u64 0))), none⟩]
def f22_r1 : List AStep := [⟨(some 6), (.mov (.tmp 0)), none⟩, ⟨(some 7), (.call (.con (.func 29 [])) [(.tmp 6)]), none⟩, ⟨(some 8), (.bin .neq (.tmp 7) (.con (.int .i64 0))), none⟩]
def f22_r2 : List AStep := [⟨(some 2), (.mov (.con (.int .u64 0))), none⟩]
def f22_r3 : List AStep := [⟨(some 10), (.mov (.tmp 0)), none⟩, ⟨(some 11), (.nilCheck (.tmp 10)), none⟩, ⟨(some 12), (.fieldAddr 0 (.tmp 11)), none⟩, ⟨(some 13), (.load false 1 (.tmp 12)), none⟩, ⟨(some 14), (.call (.con (.func 14 [])) [(.tmp 13)]), none⟩, ⟨(some 9), (.mov (.tmp 14)), none⟩, ⟨(some 15), (.extract (.tmp 9) 0), none⟩, ⟨(some 16), (.extract (.tmp 9) 1), none⟩, ⟨(some 17), (.extract (.tmp 9) 2), none⟩, ⟨(some 3), (.mov (.tmp 15)), none⟩, ⟨(some 4), (.mov (.tmp 16)), none⟩, ⟨(some 5), (.mov (.tmp 17)), none⟩]
def f22_r4 : List AStep := [⟨(some 18), (.mov (.tmp 0)), none⟩, ⟨(some 19), (.mov (.tmp 5)), none⟩, ⟨(some 20), (.bin .neq (.tmp 19) (.con (.int .i64 0))), none⟩, ⟨(some 21), (.mov (.tmp 5)), none⟩, ⟨(some 22), (.call (.con (.func 42 [])) [(.tmp 18), (.tmp 20), (.tmp 21)]), none⟩]
def f22_r5 : List AStep := [⟨(some 2), (.mov (.con (.int .u64 0))), none⟩]
def f22_r6 : List AStep := [⟨(some 23), (.mov (.tmp 0)), none⟩, ⟨(some 24), (.mov (.tmp 0)), none⟩, ⟨(some 25), (.nilCheck (.tmp 24)), none⟩, ⟨(some 26), (.fieldAddr 0 (.tmp 25)), none⟩, ⟨(some 27), (.load false 1 (.tmp 26)), none⟩, ⟨(some 28), (.mov (.tmp 4)), none⟩, ⟨(some 29), (.sliceS 1 (.tmp 27) (some (.tmp 28)) none), none⟩, ⟨(some 30), (.nilCheck (.tmp 23)), none⟩, ⟨(some 31), (.fieldAddr 0 (.tmp 30)), none⟩, ⟨none, (.store 1 (.tmp 31) (.tmp 29)), none⟩]
def f22_r7 : List AStep := [⟨(some 32), (.mov (.tmp 3)), none⟩, ⟨(some 2), (.mov (.tmp 32)), none⟩]
def f22_c : ACode := (.seq (.ops f22_r0) (.seq (.seq (.ops f22_r1) (.cond (.tmp 8) (.seq (.ops f22_r2) .ret) .skip)) (.seq (.ops f22_r3) (.seq (.seq (.ops f22_r4) (.cond (.tmp 22) (.seq (.ops f22_r5) .ret) .skip)) (.seq (.ops f22_r6) (.seq (.ops f22_r7) .ret))))))
def f22_a : AFunc := ⟨33, [(.tmp 2)], f22_c⟩

/-! 23 -/
def f23_r0 : List AStep := [⟨(some 1), (.box (.tmp 0)), none⟩, ⟨(some 2), (.mov (.con (.int .u64 0))), none⟩, ⟨(some 3), (.alloc [(.str []), (.int .i64 0)]), none⟩]
def f23_r1 : List AStep := [⟨(some 7), (.fieldAddr 1 (.tmp 1)), none⟩, ⟨(some 8), (.load false 1 (.tmp 7)), none⟩, ⟨(some 9), (.bin .neq (.tmp 8) (.con (.int .i64 0))), none⟩]
def f23_r2 : List DStep := [⟨0, 0, ⟨(some 10), (.load true 2 (.tmp 1)), none⟩⟩, ⟨1, 0, ⟨(some 2), (.mov (.con (.int .u64 0))), none⟩⟩, ⟨2, 3, ⟨none, (.store 2 (.tmp 3) (.tmp 10)), none⟩⟩]
def f23_r3 : List AStep := [⟨(some 12), (.fieldAddr 0 (.tmp 1)), none⟩, ⟨(some 13), (.load false 1 (.tmp 12)), none⟩, ⟨(some 14), (.call (.con (.func 15 [])) [(.tmp 13)]), none⟩, ⟨(some 11), (.mov (.tmp 14)), none⟩, ⟨(some 15), (.extract (.tmp 11) 0), none⟩, ⟨(some 16), (.extract (.tmp 11) 1), none⟩, ⟨(some 17), (.extract (.tmp 11) 2), none⟩, ⟨(some 4), (.mov (.tmp 15)), none⟩, ⟨(some 5), (.mov (.tmp 16)), none⟩, ⟨(some 6), (.mov (.tmp 17)), none⟩]
def f23_r4 : List AStep := [⟨(some 18), (.mov (.tmp 6)), none⟩, ⟨(some 19), (.bin .neq (.tmp 18) (.con (.int .i64 0))), none⟩]
def f23_r5 : List DStep := [⟨0, 0, ⟨(some 20), (.fieldAddr 0 (.tmp 1)), none⟩⟩, ⟨1, 1, ⟨(some 21), (.load false 1 (.tmp 20)), none⟩⟩, ⟨2, 0, ⟨(some 22), (.mov (.tmp 6)), none⟩⟩, ⟨3, 7, ⟨(some 23), (.build [(.str []), (.int .i64 0)] [(0, (1, (.tmp 21))), (1, (1, (.tmp 22)))]), none⟩⟩, ⟨4, 0, ⟨(some 2), (.mov (.con (.int .u64 0))), none⟩⟩, ⟨5, 31, ⟨none, (.store 2 (.tmp 3) (.tmp 23)), none⟩⟩]
def f23_r6 : List DStep := [⟨0, 0, ⟨(some 24), (.mov (.tmp 4)), none⟩⟩, ⟨1, 0, ⟨(some 25), (.fieldAddr 0 (.tmp 1)), none⟩⟩, ⟨2, 2, ⟨(some 26), (.load false 1 (.tmp 25)), none⟩⟩, ⟨3, 0, ⟨(some 27), (.mov (.tmp 5)), none⟩⟩, ⟨4, 14, ⟨(some 28), (.sliceT (.tmp 26) (some (.tmp 27)) none), none⟩⟩, ⟨5, 30, ⟨(some 29), (.build [(.str []), (.int .i64 0)] [(0, (1, (.tmp 28)))]), none⟩⟩, ⟨6, 1, ⟨(some 2), (.mov (.tmp 24)), none⟩⟩, ⟨7, 127, ⟨none, (.store 2 (.tmp 3) (.tmp 29)), none⟩⟩]
def f23_c : ACode := (.seq (.ops f23_r0) (.seq (.seq (.ops f23_r1) (.cond (.tmp 9) (.seq (.draw f23_r2) .ret) .skip)) (.seq (.ops f23_r3) (.seq (.seq (.ops f23_r4) (.cond (.tmp 19) (.seq (.draw f23_r5) .ret) .skip)) (.seq (.draw f23_r6) .ret)))))
def f23_a : AFunc := ⟨30, [(.tmp 2), (.cell 3 true 2)], f23_c⟩

/-! 24 -/
def f24_r0 : List AStep := [⟨(some 2), (.mov (.con (.str []))), none⟩]
def f24_r1 : List AStep := [⟨(some 5), (.mov (.tmp 0)), none⟩, ⟨(some 6), (.call (.con (.func 22 [])) [(.tmp 5)]), none⟩, ⟨(some 3), (.mov (.tmp 6)), none⟩]
def f24_r2 : List AStep := [⟨(some 7), (.mov (.tmp 0)), none⟩, ⟨(some 8), (.call (.con (.func 29 [])) [(.tmp 7)]), none⟩, ⟨(some 9), (.bin .neq (.tmp 8) (.con (.int .i64 0))), none⟩, ⟨(some 10), (.mov (.tmp 9)), none⟩, ⟨(some 11), (.mov (.tmp 0)), (some (10, false))⟩, ⟨(some 12), (.mov (.tmp 3)), (some (10, false))⟩, ⟨(some 13), (.mov (.tmp 0)), (some (10, false))⟩, ⟨(some 14), (.nilCheck (.tmp 13)), (some (10, false))⟩, ⟨(some 15), (.fieldAddr 0 (.tmp 14)), (some (10, false))⟩, ⟨(some 16), (.load false 1 (.tmp 15)), (some (10, false))⟩, ⟨(some 17), (.len (.tmp 16)), (some (10, false))⟩, ⟨(some 18), (.cvInt .u64 (.tmp 17)), (some (10, false))⟩, ⟨(some 19), (.bin .gtr (.tmp 12) (.tmp 18)), (some (10, false))⟩, ⟨(some 20), (.call (.con (.func 42 [])) [(.tmp 11), (.tmp 19), (.con (.int .i64 10))]), (some (10, false))⟩, ⟨(some 21), (.pick (.tmp 10) (.con (.bool true)) (.tmp 20)), none⟩]
def f24_r3 : List AStep := [⟨(some 2), (.mov (.con (.str []))), none⟩]
def f24_r4 : List AStep := [⟨(some 22), (.mov (.tmp 0)), none⟩, ⟨(some 23), (.nilCheck (.tmp 22)), none⟩, ⟨(some 24), (.fieldAddr 0 (.tmp 23)), none⟩, ⟨(some 25), (.load false 1 (.tmp 24)), none⟩, ⟨(some 26), (.mov (.tmp 3)), none⟩, ⟨(some 27), (.sliceS 1 (.tmp 25) none (some (.tmp 26))), none⟩, ⟨(some 28), (.cvB2S (.tmp 27)), none⟩, ⟨(some 4), (.mov (.tmp 28)), none⟩]
def f24_r5 : List AStep := [⟨(some 29), (.mov (.tmp 0)), none⟩, ⟨(some 30), (.mov (.tmp 0)), none⟩, ⟨(some 31), (.nilCheck (.tmp 30)), none⟩, ⟨(some 32), (.fieldAddr 0 (.tmp 31)), none⟩, ⟨(some 33), (.load false 1 (.tmp 32)), none⟩, ⟨(some 34), (.mov (.tmp 3)), none⟩, ⟨(some 35), (.sliceS 1 (.tmp 33) (some (.tmp 34)) none), none⟩, ⟨(some 36), (.nilCheck (.tmp 29)), none⟩, ⟨(some 37), (.fieldAddr 0 (.tmp 36)), none⟩, ⟨none, (.store 1 (.tmp 37) (.tmp 35)), none⟩]
def f24_r6 : List AStep := [⟨(some 38), (.mov (.tmp 4)), none⟩, ⟨(some 2), (.mov (.tmp 38)), none⟩]
def f24_c : ACode := (.seq (.ops f24_r0) (.seq (.ops f24_r1) (.seq (.seq (.ops f24_r2) (.cond (.tmp 21) (.seq (.ops f24_r3) .ret) .skip)) (.seq (.ops f24_r4) (.seq (.ops f24_r5) (.seq (.ops f24_r6) .ret))))))
def f24_a : AFunc := ⟨39, [(.tmp 2)], f24_c⟩

/-! 25 -/
def f25_r0 : List AStep := [⟨(some 1), (.box (.tmp 0)), none⟩, ⟨(some 2), (.mov (.con (.str []))), none⟩, ⟨(some 3), (.alloc [(.str []), (.int .i64 0)]), none⟩]
def f25_r1 : List AStep := [⟨(some 7), (.load true 2 (.tmp 1)), none⟩, ⟨(some 8), (.call (.con (.func 23 [])) [(.tmp 7)]), none⟩, ⟨(some 6), (.mov (.tmp 8)), none⟩, ⟨(some 9), (.extract (.tmp 6) 0), none⟩, ⟨(some 10), (.extract (.tmp 6) 1), none⟩, ⟨(some 5), (.alloc [(.str []), (.int .i64 0)]), none⟩, ⟨(some 4), (.mov (.tmp 9)), none⟩, ⟨none, (.store 2 (.tmp 5) (.tmp 10)), none⟩]
def f25_r2 : List AStep := [⟨(some 11), (.fieldAddr 1 (.tmp 5)), none⟩, ⟨(some 12), (.load false 1 (.tmp 11)), none⟩, ⟨(some 13), (.bin .neq (.tmp 12) (.con (.int .i64 0))), none⟩]
def f25_r3 : List DStep := [⟨0, 0, ⟨(some 14), (.load true 2 (.tmp 5)), none⟩⟩, ⟨1, 0, ⟨(some 2), (.mov (.con (.str []))), none⟩⟩, ⟨2, 3, ⟨none, (.store 2 (.tmp 3) (.tmp 14)), none⟩⟩]
def f25_r4 : List AStep := [⟨(some 15), (.mov (.tmp 4)), none⟩, ⟨(some 16), (.fieldAddr 0 (.tmp 5)), none⟩, ⟨(some 17), (.load false 1 (.tmp 16)), none⟩, ⟨(some 18), (.lenT (.tmp 17)), none⟩, ⟨(some 19), (.cvInt .u64 (.tmp 18)), none⟩, ⟨(some 20), (.bin .gtr (.tmp 15) (.tmp 19)), none⟩]
def f25_r5 : List DStep := [⟨0, 0, ⟨(some 21), (.fieldAddr 0 (.tmp 5)), none⟩⟩, ⟨1, 1, ⟨(some 22), (.load false 1 (.tmp 21)), none⟩⟩, ⟨2, 3, ⟨(some 23), (.build [(.str []), (.int .i64 0)] [(0, (1, (.tmp 22))), (1, (1, (.con (.int .i64 10))))]), none⟩⟩, ⟨3, 0, ⟨(some 2), (.mov (.con (.str []))), none⟩⟩, ⟨4, 15, ⟨none, (.store 2 (.tmp 3) (.tmp 23)), none⟩⟩]
def f25_r6 : List DStep := [⟨0, 0, ⟨(some 24), (.fieldAddr 0 (.tmp 5)), none⟩⟩, ⟨1, 1, ⟨(some 25), (.load false 1 (.tmp 24)), none⟩⟩, ⟨2, 0, ⟨(some 26), (.mov (.tmp 4)), none⟩⟩, ⟨3, 7, ⟨(some 27), (.sliceT (.tmp 25) none (some (.tmp 26))), none⟩⟩, ⟨4, 0, ⟨(some 28), (.fieldAddr 0 (.tmp 5)), none⟩⟩, ⟨5, 16, ⟨(some 29), (.load false 1 (.tmp 28)), none⟩⟩, ⟨6, 0, ⟨(some 30), (.mov (.tmp 4)), none⟩⟩, ⟨7, 112, ⟨(some 31), (.sliceT (.tmp 29) (some (.tmp 30)) none), none⟩⟩, ⟨8, 240, ⟨(some 32), (.build [(.str []), (.int .i64 0)] [(0, (1, (.tmp 31)))]), none⟩⟩, ⟨9, 15, ⟨(some 2), (.mov (.tmp 27)), none⟩⟩, ⟨10, 1023, ⟨none, (.store 2 (.tmp 3) (.tmp 32)), none⟩⟩]
def f25_c : ACode := (.seq (.ops f25_r0) (.seq (.ops f25_r1) (.seq (.seq (.ops f25_r2) (.cond (.tmp 13) (.seq (.draw f25_r3) .ret) .skip)) (.seq (.seq (.ops f25_r4) (.cond (.tmp 20) (.seq (.draw f25_r5) .ret) .skip)) (.seq (.draw f25_r6) .ret)))))
def f25_a : AFunc := ⟨33, [(.tmp 2), (.cell 3 true 2)], f25_c⟩

/-! 26 -/
def f26_r0 : List AStep := [⟨(some 4), (.mov (.con .nils)), none⟩]
def f26_r1 : List AStep := [⟨(some 7), (.mov (.tmp 0)), none⟩, ⟨(some 8), (.call (.con (.func 22 [])) [(.tmp 7)]), none⟩, ⟨(some 5), (.mov (.tmp 8)), none⟩]
def f26_r2 : List AStep := [⟨(some 9), (.mov (.tmp 0)), none⟩, ⟨(some 10), (.call (.con (.func 29 [])) [(.tmp 9)]), none⟩, ⟨(some 11), (.bin .neq (.tmp 10) (.con (.int .i64 0))), none⟩, ⟨(some 12), (.mov (.tmp 11)), none⟩, ⟨(some 13), (.mov (.tmp 0)), (some (12, false))⟩, ⟨(some 14), (.mov (.tmp 5)), (some (12, false))⟩, ⟨(some 15), (.mov (.tmp 1)), (some (12, false))⟩, ⟨(some 16), (.max (.tmp 15) (.con (.int .i64 0))), (some (12, false))⟩, ⟨(some 17), (.cvInt .u64 (.tmp 16)), (some (12, false))⟩, ⟨(some 18), (.bin .gtr (.tmp 14) (.tmp 17)), (some (12, false))⟩, ⟨(some 19), (.call (.con (.func 42 [])) [(.tmp 13), (.tmp 18), (.con (.int .i64 13))]), (some (12, false))⟩, ⟨(some 20), (.pick (.tmp 12) (.con (.bool true)) (.tmp 19)), none⟩]
def f26_r3 : List AStep := [⟨(some 4), (.mov (.con .nils)), none⟩]
def f26_r4 : List AStep := [⟨(some 6), (.mov (.con .nils)), none⟩]
def f26_r5 : List AStep := [⟨(some 21), (.mov (.tmp 5)), none⟩, ⟨(some 22), (.mov (.con (.int .u64 0))), none⟩]
def f26_r6 : List AStep := [⟨(some 23), (.bin .lss (.tmp 22) (.tmp 21)), none⟩]
def f26_r7 : List AStep := [⟨(some 24), (.mov (.tmp 6)), none⟩, ⟨(some 25), (.mov (.tmp 0)), none⟩, ⟨(some 26), (.call (.con (.func 24 [])) [(.tmp 25)]), none⟩, ⟨(some 27), (.buildSlice 1 1 [(.str [])] [(0, (1, (.tmp 26)))]), none⟩, ⟨(some 28), (.append 1 (.tmp 24) (.tmp 27)), none⟩, ⟨(some 6), (.mov (.tmp 28)), none⟩]
def f26_r8 : List AStep := [⟨(some 29), (.mov (.tmp 0)), none⟩, ⟨(some 30), (.nilCheck (.tmp 29)), none⟩, ⟨(some 31), (.fieldAddr 1 (.tmp 30)), none⟩, ⟨(some 32), (.load false 1 (.tmp 31)), none⟩, ⟨(some 33), (.bin .neq (.tmp 32) (.con (.int .i64 0))), none⟩]
def f26_r9 : List AStep := [⟨(some 4), (.mov (.con .nils)), none⟩]
def f26_r10 : List AStep := [⟨(some 34), (.bin .add (.tmp 22) (.con (.int .u64 1))), none⟩, ⟨(some 22), (.mov (.tmp 34)), none⟩]
def f26_l11 : ACode := (.seq (.ops f26_r6) (.seq (.cond (.tmp 23) .skip (.exit 0)) (.seq (.block 1 (.seq (.ops f26_r7) (.seq (.ops f26_r8) (.cond (.tmp 33) (.seq (.ops f26_r9) .ret) .skip)))) (.ops f26_r10))))
def f26_r12 : List AStep := [⟨(some 35), (.mov (.tmp 6)), none⟩, ⟨(some 4), (.mov (.tmp 35)), none⟩]
def f26_c : ACode := (.seq (.ops f26_r0) (.seq (.ops f26_r1) (.seq (.seq (.ops f26_r2) (.cond (.tmp 20) (.seq (.ops f26_r3) .ret) .skip)) (.seq (.ops f26_r4) (.seq (.seq (.ops f26_r5) (.block 0 (.loop f26_l11))) (.seq (.ops f26_r12) .ret))))))
def f26_a : AFunc := ⟨36, [(.tmp 4)], f26_c⟩

/-! 27 -/
def f27_r0 : List AStep := [⟨(some 2), (.box (.tmp 0)), none⟩, ⟨(some 4), (.mov (.con .nils)), none⟩, ⟨(some 5), (.alloc [(.str []), (.int .i64 0)]), none⟩]
def f27_r1 : List AStep := [⟨(some 13), (.load true 2 (.tmp 2)), none⟩, ⟨(some 14), (.call (.con (.func 23 [])) [(.tmp 13)]), none⟩, ⟨(some 12), (.mov (.tmp 14)), none⟩, ⟨(some 15), (.extract (.tmp 12) 0), none⟩, ⟨(some 16), (.extract (.tmp 12) 1), none⟩, ⟨(some 7), (.alloc [(.str []), (.int .i64 0)]), none⟩, ⟨(some 6), (.mov (.tmp 15)), none⟩, ⟨none, (.store 2 (.tmp 7) (.tmp 16)), none⟩]
def f27_r2 : List AStep := [⟨(some 17), (.fieldAddr 1 (.tmp 7)), none⟩, ⟨(some 18), (.load false 1 (.tmp 17)), none⟩, ⟨(some 19), (.bin .neq (.tmp 18) (.con (.int .i64 0))), none⟩]
def f27_r3 : List DStep := [⟨0, 0, ⟨(some 20), (.load true 2 (.tmp 7)), none⟩⟩, ⟨1, 0, ⟨(some 4), (.mov (.con .nils)), none⟩⟩, ⟨2, 3, ⟨none, (.store 2 (.tmp 5) (.tmp 20)), none⟩⟩]
def f27_r4 : List AStep := [⟨(some 21), (.mov (.tmp 1)), none⟩, ⟨(some 22), (.bin .lss (.tmp 21) (.con (.int .i64 0))), none⟩, ⟨(some 23), (.mov (.tmp 22)), none⟩, ⟨(some 24), (.mov (.tmp 6)), (some (23, false))⟩, ⟨(some 25), (.mov (.tmp 1)), (some (23, false))⟩, ⟨(some 26), (.cvInt .u64 (.tmp 25)), (some (23, false))⟩, ⟨(some 27), (.bin .gtr (.tmp 24) (.tmp 26)), (some (23, false))⟩, ⟨(some 28), (.pick (.tmp 23) (.con (.bool true)) (.tmp 27)), none⟩]
def f27_r5 : List AStep := [⟨(some 29), (.mov (.tmp 6)), none⟩, ⟨(some 30), (.bin .gtr (.tmp 29) (.con (.int .u64 0))), none⟩]
def f27_r6 : List DStep := [⟨0, 0, ⟨(some 31), (.fieldAddr 0 (.tmp 7)), none⟩⟩, ⟨1, 1, ⟨(some 32), (.load false 1 (.tmp 31)), none⟩⟩, ⟨2, 3, ⟨(some 33), (.build [(.str []), (.int .i64 0)] [(0, (1, (.tmp 32))), (1, (1, (.con (.int .i64 13))))]), none⟩⟩, ⟨3, 0, ⟨(some 4), (.mov (.con .nils)), none⟩⟩, ⟨4, 15, ⟨none, (.store 2 (.tmp 5) (.tmp 33)), none⟩⟩]
def f27_r7 : List AStep := [⟨(some 8), (.mov (.con .nils)), none⟩]
def f27_r8 : List AStep := [⟨(some 9), (.mov (.con (.int .u64 0))), none⟩]
def f27_r9 : List AStep := [⟨(some 34), (.mov (.tmp 9)), none⟩, ⟨(some 35), (.mov (.tmp 6)), none⟩, ⟨(some 36), (.bin .lss (.tmp 34) (.tmp 35)), none⟩]
def f27_r10 : List AStep := [⟨(some 40), (.load true 2 (.tmp 7)), none⟩, ⟨(some 41), (.call (.con (.func 25 [])) [(.tmp 40)]), none⟩, ⟨(some 39), (.mov (.tmp 41)), none⟩, ⟨(some 42), (.extract (.tmp 39) 0), none⟩, ⟨(some 43), (.extract (.tmp 39) 1), none⟩, ⟨(some 11), (.alloc [(.str []), (.int .i64 0)]), none⟩, ⟨(some 10), (.mov (.tmp 42)), none⟩, ⟨none, (.store 2 (.tmp 11) (.tmp 43)), none⟩]
def f27_r11 : List AStep := [⟨(some 44), (.fieldAddr 1 (.tmp 11)), none⟩, ⟨(some 45), (.load false 1 (.tmp 44)), none⟩, ⟨(some 46), (.bin .neq (.tmp 45) (.con (.int .i64 0))), none⟩]
def f27_r12 : List DStep := [⟨0, 0, ⟨(some 47), (.load true 2 (.tmp 11)), none⟩⟩, ⟨1, 0, ⟨(some 4), (.mov (.con .nils)), none⟩⟩, ⟨2, 3, ⟨none, (.store 2 (.tmp 5) (.tmp 47)), none⟩⟩]
def f27_r13 : List AStep := [⟨(some 48), (.load true 2 (.tmp 11)), none⟩, ⟨none, (.store 2 (.tmp 7) (.tmp 48)), none⟩]
def f27_r14 : List AStep := [⟨(some 49), (.mov (.tmp 8)), none⟩, ⟨(some 50), (.mov (.tmp 10)), none⟩, ⟨(some 51), (.buildSlice 1 1 [(.str [])] [(0, (1, (.tmp 50)))]), none⟩, ⟨(some 52), (.append 1 (.tmp 49) (.tmp 51)), none⟩, ⟨(some 8), (.mov (.tmp 52)), none⟩]
def f27_r15 : List AStep := [⟨(some 37), (.mov (.tmp 9)), none⟩, ⟨(some 38), (.bin .add (.tmp 37) (.con (.int .u64 1))), none⟩, ⟨(some 9), (.mov (.tmp 38)), none⟩]
def f27_l16 : ACode := (.seq (.seq (.ops f27_r9) (.cond (.tmp 36) .skip (.exit 0))) (.seq (.block 1 (.seq (.ops f27_r10) (.seq (.seq (.ops f27_r11) (.cond (.tmp 46) (.seq (.draw f27_r12) .ret) .skip)) (.seq (.ops f27_r13) (.ops f27_r14))))) (.ops f27_r15)))
def f27_r17 : List DStep := [⟨0, 0, ⟨(some 53), (.mov (.tmp 8)), none⟩⟩, ⟨1, 0, ⟨(some 54), (.load true 2 (.tmp 7)), none⟩⟩, ⟨2, 1, ⟨(some 4), (.mov (.tmp 53)), none⟩⟩, ⟨3, 7, ⟨none, (.store 2 (.tmp 5) (.tmp 54)), none⟩⟩]
def f27_c : ACode := (.seq (.ops f27_r0) (.seq (.ops f27_r1) (.seq (.seq (.ops f27_r2) (.cond (.tmp 19) (.seq (.draw f27_r3) .ret) .skip)) (.seq (.seq (.ops f27_r4) (.cond (.tmp 28) (.seq (.ops f27_r5) (.cond (.tmp 30) (.seq (.draw f27_r6) .ret) .skip)) .skip)) (.seq (.ops f27_r7) (.seq (.seq (.ops f27_r8) (.block 0 (.loop f27_l16))) (.seq (.draw f27_r17) .ret)))))))
def f27_a : AFunc := ⟨55, [(.tmp 4), (.cell 5 true 2)], f27_c⟩

/-! 28 -/
def f28_r0 : List AStep := [⟨(some 2), (.mov (.con (.int .i64 0))), none⟩]
def f28_r1 : List AStep := [⟨(some 3), (.mov (.tmp 0)), none⟩, ⟨(some 4), (.eq .ptr false (.tmp 3) (.con .nilp)), none⟩]
def f28_r2 : List AStep := [⟨(some 2), (.mov (.con (.int .i64 0))), none⟩]
def f28_r3 : List AStep := [⟨(some 5), (.mov (.tmp 0)), none⟩, ⟨(some 6), (.nilCheck (.tmp 5)), none⟩, ⟨(some 7), (.fieldAddr 0 (.tmp 6)), none⟩, ⟨(some 8), (.load false 1 (.tmp 7)), none⟩, ⟨(some 9), (.len (.tmp 8)), none⟩, ⟨(some 2), (.mov (.tmp 9)), none⟩]
def f28_c : ACode := (.seq (.ops f28_r0) (.seq (.seq (.ops f28_r1) (.cond (.tmp 4) (.seq (.ops f28_r2) .ret) .skip)) (.seq (.ops f28_r3) .ret)))
def f28_a : AFunc := ⟨10, [(.tmp 2)], f28_c⟩

/-! 29 -/
def f29_r0 : List AStep := [⟨(some 2), (.mov (.con (.int .i64 0))), none⟩]
def f29_r1 : List AStep := [⟨(some 3), (.mov (.tmp 0)), none⟩, ⟨(some 4), (.eq .ptr false (.tmp 3) (.con .nilp)), none⟩]
def f29_r2 : List AStep := [⟨(some 2), (.mov (.con (.int .i64 10))), none⟩]
def f29_r3 : List AStep := [⟨(some 5), (.mov (.tmp 0)), none⟩, ⟨(some 6), (.nilCheck (.tmp 5)), none⟩, ⟨(some 7), (.fieldAddr 1 (.tmp 6)), none⟩, ⟨(some 8), (.load false 1 (.tmp 7)), none⟩, ⟨(some 2), (.mov (.tmp 8)), none⟩]
def f29_c : ACode := (.seq (.ops f29_r0) (.seq (.seq (.ops f29_r1) (.cond (.tmp 4) (.seq (.ops f29_r2) .ret) .skip)) (.seq (.ops f29_r3) .ret)))
def f29_a : AFunc := ⟨9, [(.tmp 2)], f29_c⟩

/-! 30 -/
def f30_r0 : List AStep := [⟨(some 2), (.mov (.con (.int .i64 0))), none⟩]
def f30_r1 : List AStep := [⟨(some 4), (.mov (.tmp 0)), none⟩, ⟨(some 5), (.call (.con (.func 29 [])) [(.tmp 4)]), none⟩, ⟨(some 3), (.mov (.tmp 5)), none⟩]
def f30_r2 : List AStep := [⟨(some 6), (.mov (.tmp 3)), none⟩, ⟨(some 7), (.bin .neq (.tmp 6) (.con (.int .i64 0))), none⟩, ⟨(some 8), (.mov (.tmp 7)), none⟩, ⟨(some 9), (.mov (.tmp 0)), (some (8, false))⟩, ⟨(some 10), (.call (.con (.func 28 [])) [(.tmp 9)]), (some (8, false))⟩, ⟨(some 11), (.bin .eql (.tmp 10) (.con (.int .i64 0))), (some (8, false))⟩, ⟨(some 12), (.pick (.tmp 8) (.con (.bool true)) (.tmp 11)), none⟩]
def f30_r3 : List AStep := [⟨(some 13), (.mov (.tmp 3)), none⟩, ⟨(some 2), (.mov (.tmp 13)), none⟩]
def f30_r4 : List AStep := [⟨(some 2), (.mov (.con (.int .i64 12))), none⟩]
def f30_c : ACode := (.seq (.ops f30_r0) (.seq (.seq (.ops f30_r1) (.seq (.ops f30_r2) (.cond (.tmp 12) (.seq (.ops f30_r3) .ret) .skip))) (.seq (.ops f30_r4) .ret)))
def f30_a : AFunc := ⟨14, [(.tmp 2)], f30_c⟩

/-! 31 -/
def f31_r0 : List AStep := [⟨(some 0), (.mov (.con (.bool false))), none⟩]
def f31_r1 : List AStep := [⟨(some 4), (.buildSlice 1 1 [(.str [])] [(0, (1, (.con (.str [97]))))]), none⟩, ⟨(some 5), (.buildSlice 1 1 [(.int .u8 0)] [(0, (1, (.con (.int .u8 109))))]), none⟩, ⟨(some 6), (.cvB2B (.tmp 5)), none⟩, ⟨(some 7), (.build [(.int .i64 0), (.int .i64 0), (.int .i64 0), (.bool false), .nils, .nils] [(1, (1, (.con (.int .i64 3)))), (2, (1, (.con (.int .i64 2)))), (3, (1, (.con (.bool true)))), (4, (1, (.tmp 4))), (5, (1, (.tmp 6)))]), none⟩, ⟨(some 8), (.call (.con (.func 33 [])) [(.tmp 7)]), none⟩, ⟨(some 9), (.call (.con (.func 37 [])) [(.tmp 8)]), none⟩, ⟨(some 3), (.mov (.tmp 9)), none⟩, ⟨(some 10), (.extract (.tmp 3) 0), none⟩, ⟨(some 11), (.extract (.tmp 3) 1), none⟩, ⟨(some 1), (.alloc [(.int .i64 0), (.int .i64 0), (.int .i64 0), (.bool false), .nils, .nils]), none⟩, ⟨none, (.store 6 (.tmp 1) (.tmp 10)), none⟩, ⟨(some 2), (.mov (.tmp 11)), none⟩]
def f31_r2 : List AStep := [⟨(some 12), (.call (.con (.func 34 [])) [(.con (.int .i64 50)), (.con (.int .i64 1))]), none⟩, ⟨(some 13), (.call (.con (.func 33 [])) [(.tmp 12)]), none⟩, ⟨(some 14), (.cvB2S (.tmp 13)), none⟩, ⟨(some 15), (.bin .eql (.tmp 14) (.con (.str [1, 50, 0, 1, 1, 0, 0, 0]))), none⟩, ⟨(some 16), (.mov (.tmp 15)), none⟩, ⟨(some 17), (.mov (.tmp 2)), (some (16, true))⟩, ⟨(some 18), (.bin .eql (.tmp 17) (.con (.int .i64 0))), (some (16, true))⟩, ⟨(some 19), (.pick (.tmp 16) (.tmp 18) (.con (.bool false))), none⟩, ⟨(some 20), (.mov (.tmp 19)), none⟩, ⟨(some 21), (.fieldAddr 1 (.tmp 1)), (some (20, true))⟩, ⟨(some 22), (.load false 1 (.tmp 21)), (some (20, true))⟩, ⟨(some 23), (.bin .eql (.tmp 22) (.con (.int .i64 3))), (some (20, true))⟩, ⟨(some 24), (.pick (.tmp 20) (.tmp 23) (.con (.bool false))), none⟩, ⟨(some 25), (.mov (.tmp 24)), none⟩, ⟨(some 26), (.fieldAddr 3 (.tmp 1)), (some (25, true))⟩, ⟨(some 27), (.load false 1 (.tmp 26)), (some (25, true))⟩, ⟨(some 28), (.pick (.tmp 25) (.tmp 27) (.con (.bool false))), none⟩, ⟨(some 29), (.mov (.tmp 28)), none⟩, ⟨(some 30), (.fieldAddr 4 (.tmp 1)), (some (29, true))⟩, ⟨(some 31), (.load false 1 (.tmp 30)), (some (29, true))⟩, ⟨(some 32), (.len (.tmp 31)), (some (29, true))⟩, ⟨(some 33), (.bin .eql (.tmp 32) (.con (.int .i64 1))), (some (29, true))⟩, ⟨(some 34), (.pick (.tmp 29) (.tmp 33) (.con (.bool false))), none⟩, ⟨(some 35), (.mov (.tmp 34)), none⟩, ⟨(some 36), (.fieldAddr 5 (.tmp 1)), (some (35, true))⟩, ⟨(some 37), (.load false 1 (.tmp 36)), (some (35, true))⟩, ⟨(some 38), (.cvB2S (.tmp 37)), (some (35, true))⟩, ⟨(some 39), (.bin .eql (.tmp 38) (.con (.str [109]))), (some (35, true))⟩, ⟨(some 40), (.pick (.tmp 35) (.tmp 39) (.con (.bool false))), none⟩, ⟨(some 41), (.mov (.tmp 40)), none⟩, ⟨(some 42), (.build [(.int .i64 0), (.int .i64 0), (.int .i64 0), (.bool false), .nils, .nils] [(0, (1, (.con (.int .i64 1)))), (1, (1, (.con (.int .i64 1))))]), (some (41, true))⟩, ⟨(some 43), (.call (.con (.func 33 [])) [(.tmp 42)]), (some (41, true))⟩, ⟨(some 44), (.len (.tmp 43)), (some (41, true))⟩, ⟨(some 45), (.bin .eql (.tmp 44) (.con (.int .i64 0))), (some (41, true))⟩, ⟨(some 46), (.pick (.tmp 41) (.tmp 45) (.con (.bool false))), none⟩, ⟨(some 0), (.mov (.tmp 46)), none⟩]
def f31_c : ACode := (.seq (.ops f31_r0) (.seq (.ops f31_r1) (.seq (.ops f31_r2) .ret)))
def f31_a : AFunc := ⟨47, [(.tmp 0)], f31_c⟩

/-! 32 -/
def f32_r0 : List AStep := [⟨(some 1), (.box (.tmp 0)), none⟩, ⟨(some 2), (.mov (.con (.bool false))), none⟩]
def f32_r1 : List AStep := [⟨(some 3), (.mov (.con (.int .i64 0))), none⟩]
def f32_r2 : List AStep := [⟨(some 4), (.mov (.tmp 3)), none⟩, ⟨(some 5), (.fieldAddr 4 (.tmp 1)), none⟩, ⟨(some 6), (.load false 1 (.tmp 5)), none⟩, ⟨(some 7), (.len (.tmp 6)), none⟩, ⟨(some 8), (.bin .lss (.tmp 4) (.tmp 7)), none⟩]
def f32_r3 : List AStep := [⟨(some 11), (.fieldAddr 4 (.tmp 1)), none⟩, ⟨(some 12), (.load false 1 (.tmp 11)), none⟩, ⟨(some 13), (.mov (.tmp 3)), none⟩, ⟨(some 14), (.indexAddr 1 (.tmp 12) (.tmp 13)), none⟩, ⟨(some 15), (.load false 1 (.tmp 14)), none⟩, ⟨(some 16), (.lenT (.tmp 15)), none⟩, ⟨(some 17), (.bin .gtr (.tmp 16) (.con (.int .i64 200))), none⟩]
def f32_r4 : List AStep := [⟨(some 2), (.mov (.con (.bool false))), none⟩]
def f32_r5 : List AStep := [⟨(some 9), (.mov (.tmp 3)), none⟩, ⟨(some 10), (.bin .add (.tmp 9) (.con (.int .i64 1))), none⟩, ⟨(some 3), (.mov (.tmp 10)), none⟩]
def f32_l6 : ACode := (.seq (.seq (.ops f32_r2) (.cond (.tmp 8) .skip (.exit 0))) (.seq (.block 1 (.seq (.ops f32_r3) (.cond (.tmp 17) (.seq (.ops f32_r4) .ret) .skip))) (.ops f32_r5)))
def f32_r7 : List AStep := [⟨(some 18), (.fieldAddr 4 (.tmp 1)), none⟩, ⟨(some 19), (.load false 1 (.tmp 18)), none⟩, ⟨(some 20), (.len (.tmp 19)), none⟩, ⟨(some 21), (.bin .leq (.tmp 20) (.con (.int .i64 80))), none⟩, ⟨(some 22), (.mov (.tmp 21)), none⟩, ⟨(some 23), (.fieldAddr 5 (.tmp 1)), (some (22, true))⟩, ⟨(some 24), (.load false 1 (.tmp 23)), (some (22, true))⟩, ⟨(some 25), (.len (.tmp 24)), (some (22, true))⟩, ⟨(some 26), (.bin .leq (.tmp 25) (.con (.int .i64 1000))), (some (22, true))⟩, ⟨(some 27), (.pick (.tmp 22) (.tmp 26) (.con (.bool false))), none⟩, ⟨(some 2), (.mov (.tmp 27)), none⟩]
def f32_c : ACode := (.seq (.ops f32_r0) (.seq (.seq (.ops f32_r1) (.block 0 (.loop f32_l6))) (.seq (.ops f32_r7) .ret)))
def f32_a : AFunc := ⟨28, [(.tmp 2)], f32_c⟩

/-! 33 -/
def f33_r0 : List AStep := [⟨(some 1), (.box (.tmp 0)), none⟩, ⟨(some 2), (.mov (.con .nils)), none⟩]
def f33_r1 : List AStep := [⟨(some 5), (.load true 6 (.tmp 1)), none⟩, ⟨(some 6), (.call (.con (.func 43 [])) [(.tmp 5)]), none⟩, ⟨(some 7), (.not (.tmp 6)), none⟩]
def f33_r2 : List AStep := [⟨(some 2), (.mov (.con .nils)), none⟩]
def f33_r3 : List AStep := [⟨(some 3), (.mov (.con (.int .u64 0))), none⟩]
def f33_r4 : List AStep := [⟨(some 8), (.fieldAddr 3 (.tmp 1)), none⟩, ⟨(some 9), (.load false 1 (.tmp 8)), none⟩]
def f33_r5 : List AStep := [⟨(some 10), (.mov (.tmp 3)), none⟩, ⟨(some 11), (.bin .add (.tmp 10) (.con (.int .u64 1))), none⟩, ⟨(some 3), (.mov (.tmp 11)), none⟩]
def f33_r6 : List AStep := [⟨(some 12), (.fieldAddr 0 (.tmp 1)), none⟩, ⟨(some 13), (.load false 1 (.tmp 12)), none⟩, ⟨(some 14), (.cvInt .u64 (.tmp 13)), none⟩, ⟨(some 15), (.fieldAddr 1 (.tmp 1)), none⟩, ⟨(some 16), (.load false 1 (.tmp 15)), none⟩, ⟨(some 17), (.cvInt .u64 (.tmp 16)), none⟩, ⟨(some 18), (.fieldAddr 2 (.tmp 1)), none⟩, ⟨(some 19), (.load false 1 (.tmp 18)), none⟩, ⟨(some 20), (.cvInt .u64 (.tmp 19)), none⟩, ⟨(some 21), (.mov (.tmp 3)), none⟩, ⟨(some 22), (.buildSlice 1 4 [(.int .u64 0)] [(0, (1, (.tmp 14))), (1, (1, (.tmp 17))), (2, (1, (.tmp 20))), (3, (1, (.tmp 21)))]), none⟩, ⟨(some 23), (.call (.con (.func 16 [])) [(.tmp 22)]), none⟩, ⟨(some 4), (.mov (.tmp 23)), none⟩]
def f33_r7 : List DStep := [⟨0, 0, ⟨(some 24), (.mov (.tmp 4)), none⟩⟩, ⟨1, 0, ⟨(some 25), (.fieldAddr 4 (.tmp 1)), none⟩⟩, ⟨2, 2, ⟨(some 26), (.load false 1 (.tmp 25)), none⟩⟩, ⟨5, 0, ⟨(some 29), (.fieldAddr 5 (.tmp 1)), none⟩⟩, ⟨6, 32, ⟨(some 30), (.load false 1 (.tmp 29)), none⟩⟩, ⟨7, 96, ⟨(some 31), (.cvB2S (.tmp 30)), none⟩⟩, ⟨8, 224, ⟨(some 32), (.buildSlice 1 1 [(.str [])] [(0, (1, (.tmp 31)))]), none⟩⟩, ⟨3, 6, ⟨(some 27), (.call (.con (.func 19 [])) [(.tmp 26)]), none⟩⟩, ⟨4, 15, ⟨(some 28), (.append 1 (.tmp 24) (.tmp 27)), none⟩⟩, ⟨9, 511, ⟨(some 33), (.call (.con (.func 17 [])) [(.tmp 32)]), none⟩⟩, ⟨10, 1023, ⟨(some 34), (.append 1 (.tmp 28) (.tmp 33)), none⟩⟩, ⟨11, 2047, ⟨(some 2), (.mov (.tmp 34)), none⟩⟩]
def f33_c : ACode := (.seq (.ops f33_r0) (.seq (.seq (.ops f33_r1) (.cond (.tmp 7) (.seq (.ops f33_r2) .ret) .skip)) (.seq (.ops f33_r3) (.seq (.seq (.ops f33_r4) (.cond (.tmp 9) (.ops f33_r5) .skip)) (.seq (.ops f33_r6) (.seq (.draw f33_r7) .ret))))))
def f33_a : AFunc := ⟨35, [(.tmp 2)], f33_c⟩

/-! 34 -/
def f34_r0 : List AStep := [⟨(some 4), (.alloc [(.int .i64 0), (.int .i64 0), (.int .i64 0), (.bool false), .nils, .nils]), none⟩]
def f34_r1 : List AStep := [⟨(some 5), (.mov (.tmp 0)), none⟩, ⟨(some 6), (.mov (.tmp 1)), none⟩, ⟨(some 7), (.build [(.int .i64 0), (.int .i64 0), (.int .i64 0), (.bool false), .nils, .nils] [(0, (1, (.tmp 5))), (2, (1, (.tmp 6)))]), none⟩, ⟨none, (.store 6 (.tmp 4) (.tmp 7)), none⟩]
def f34_c : ACode := (.seq (.ops f34_r0) (.seq (.ops f34_r1) .ret))
def f34_a : AFunc := ⟨8, [(.cell 4 true 6)], f34_c⟩

/-! 35 -/
def f35_r0 : List AStep := [⟨(some 1), (.box (.tmp 0)), none⟩, ⟨(some 2), (.mov (.con (.str []))), none⟩]
def f35_r1 : List AStep := [⟨(some 7), (.fieldAddr 0 (.tmp 1)), none⟩, ⟨(some 8), (.load false 1 (.tmp 7)), none⟩, ⟨(some 9), (.call (.con (.func 44 [])) [(.tmp 8)]), none⟩, ⟨(some 3), (.mov (.tmp 9)), none⟩]
def f35_r2 : List AStep := [⟨(some 10), (.fieldAddr 1 (.tmp 1)), none⟩, ⟨(some 11), (.load false 1 (.tmp 10)), none⟩, ⟨(some 12), (.call (.con (.func 44 [])) [(.tmp 11)]), none⟩, ⟨(some 4), (.mov (.tmp 12)), none⟩]
def f35_r3 : List AStep := [⟨(some 13), (.fieldAddr 2 (.tmp 1)), none⟩, ⟨(some 14), (.load false 1 (.tmp 13)), none⟩, ⟨(some 15), (.call (.con (.func 44 [])) [(.tmp 14)]), none⟩, ⟨(some 5), (.mov (.tmp 15)), none⟩]
def f35_r4 : List AStep := [⟨(some 16), (.mov (.tmp 3)), none⟩, ⟨(some 17), (.not (.tmp 16)), none⟩, ⟨(some 18), (.mov (.tmp 17)), none⟩, ⟨(some 19), (.mov (.tmp 4)), (some (18, false))⟩, ⟨(some 20), (.not (.tmp 19)), (some (18, false))⟩, ⟨(some 21), (.pick (.tmp 18) (.con (.bool true)) (.tmp 20)), none⟩, ⟨(some 22), (.mov (.tmp 21)), none⟩, ⟨(some 23), (.mov (.tmp 5)), (some (22, false))⟩, ⟨(some 24), (.not (.tmp 23)), (some (22, false))⟩, ⟨(some 25), (.pick (.tmp 22) (.con (.bool true)) (.tmp 24)), none⟩, ⟨(some 26), (.mov (.tmp 25)), none⟩, ⟨(some 27), (.fieldAddr 4 (.tmp 1)), (some (26, false))⟩, ⟨(some 28), (.load false 1 (.tmp 27)), (some (26, false))⟩, ⟨(some 29), (.len (.tmp 28)), (some (26, false))⟩, ⟨(some 30), (.bin .gtr (.tmp 29) (.con (.int .i64 64))), (some (26, false))⟩, ⟨(some 31), (.pick (.tmp 26) (.con (.bool true)) (.tmp 30)), none⟩, ⟨(some 32), (.mov (.tmp 31)), none⟩, ⟨(some 33), (.fieldAddr 0 (.tmp 1)), (some (32, false))⟩, ⟨(some 34), (.load false 1 (.tmp 33)), (some (32, false))⟩, ⟨(some 35), (.bin .gtr (.tmp 34) (.con (.int .i64 0))), (some (32, false))⟩, ⟨(some 36), (.mov (.tmp 35)), (some (32, false))⟩, ⟨(some 37), (.fieldAddr 1 (.tmp 1)), (some (36, true))⟩, ⟨(some 38), (.load false 1 (.tmp 37)), (some (36, true))⟩, ⟨(some 39), (.bin .gtr (.tmp 38) (.con (.int .i64 0))), (some (36, true))⟩, ⟨(some 40), (.mov (.tmp 39)), (some (36, true))⟩, ⟨(some 41), (.fieldAddr 3 (.tmp 1)), (some (40, false))⟩, ⟨(some 42), (.load false 1 (.tmp 41)), (some (40, false))⟩, ⟨(some 43), (.pick (.tmp 40) (.con (.bool true)) (.tmp 42)), (some (36, true))⟩, ⟨(some 44), (.mov (.tmp 43)), (some (36, true))⟩, ⟨(some 45), (.fieldAddr 4 (.tmp 1)), (some (44, false))⟩, ⟨(some 46), (.load false 1 (.tmp 45)), (some (44, false))⟩, ⟨(some 47), (.len (.tmp 46)), (some (44, false))⟩, ⟨(some 48), (.bin .gtr (.tmp 47) (.con (.int .i64 0))), (some (44, false))⟩, ⟨(some 49), (.pick (.tmp 44) (.con (.bool true)) (.tmp 48)), (some (36, true))⟩, ⟨(some 50), (.mov (.tmp 49)), (some (36, true))⟩, ⟨(some 51), (.fieldAddr 5 (.tmp 1)), (some (50, false))⟩, ⟨(some 52), (.load false 1 (.tmp 51)), (some (50, false))⟩, ⟨(some 53), (.bin .neq (.tmp 52) (.con (.str []))), (some (50, false))⟩, ⟨(some 54), (.pick (.tmp 50) (.con (.bool true)) (.tmp 53)), (some (36, true))⟩, ⟨(some 55), (.pick (.tmp 36) (.tmp 54) (.con (.bool false))), (some (32, false))⟩, ⟨(some 56), (.pick (.tmp 32) (.con (.bool true)) (.tmp 55)), none⟩]
def f35_r5 : List AStep := [⟨(some 2), (.mov (.con (.str []))), none⟩]
def f35_r6 : List AStep := [⟨(some 6), (.mov (.con (.int .u64 0))), none⟩]
def f35_r7 : List AStep := [⟨(some 57), (.fieldAddr 3 (.tmp 1)), none⟩, ⟨(some 58), (.load false 1 (.tmp 57)), none⟩]
def f35_r8 : List AStep := [⟨(some 6), (.mov (.con (.int .u64 1))), none⟩]
def f35_r9 : List DStep := [⟨0, 0, ⟨(some 59), (.fieldAddr 0 (.tmp 1)), none⟩⟩, ⟨1, 1, ⟨(some 60), (.load false 1 (.tmp 59)), none⟩⟩, ⟨2, 3, ⟨(some 61), (.cvInt .u64 (.tmp 60)), none⟩⟩, ⟨4, 0, ⟨(some 63), (.fieldAddr 1 (.tmp 1)), none⟩⟩, ⟨5, 16, ⟨(some 64), (.load false 1 (.tmp 63)), none⟩⟩, ⟨6, 48, ⟨(some 65), (.cvInt .u64 (.tmp 64)), none⟩⟩, ⟨9, 0, ⟨(some 68), (.fieldAddr 2 (.tmp 1)), none⟩⟩, ⟨10, 512, ⟨(some 69), (.load false 1 (.tmp 68)), none⟩⟩, ⟨11, 1536, ⟨(some 70), (.cvInt .u64 (.tmp 69)), none⟩⟩, ⟨14, 0, ⟨(some 73), (.mov (.tmp 6)), none⟩⟩, ⟨17, 0, ⟨(some 76), (.fieldAddr 4 (.tmp 1)), none⟩⟩, ⟨18, 131072, ⟨(some 77), (.load false 1 (.tmp 76)), none⟩⟩, ⟨21, 0, ⟨(some 80), (.fieldAddr 5 (.tmp 1)), none⟩⟩, ⟨22, 2097152, ⟨(some 81), (.load false 1 (.tmp 80)), none⟩⟩, ⟨3, 7, ⟨(some 62), (.call (.con (.func 13 [])) [(.tmp 61)]), none⟩⟩, ⟨7, 127, ⟨(some 66), (.call (.con (.func 13 [])) [(.tmp 65)]), none⟩⟩, ⟨8, 255, ⟨(some 67), (.bin .add (.tmp 62) (.tmp 66)), none⟩⟩, ⟨12, 3839, ⟨(some 71), (.call (.con (.func 13 [])) [(.tmp 70)]), none⟩⟩, ⟨13, 8191, ⟨(some 72), (.bin .add (.tmp 67) (.tmp 71)), none⟩⟩, ⟨15, 24319, ⟨(some 74), (.call (.con (.func 13 [])) [(.tmp 73)]), none⟩⟩, ⟨16, 65535, ⟨(some 75), (.bin .add (.tmp 72) (.tmp 74)), none⟩⟩, ⟨19, 450303, ⟨(some 78), (.call (.con (.func 20 [])) [(.tmp 77)]), none⟩⟩, ⟨20, 1048575, ⟨(some 79), (.bin .add (.tmp 75) (.tmp 78)), none⟩⟩, ⟨23, 7266047, ⟨(some 82), (.call (.con (.func 40 [])) [(.tmp 81)]), none⟩⟩, ⟨24, 16777215, ⟨(some 83), (.bin .add (.tmp 79) (.tmp 82)), none⟩⟩, ⟨25, 33554431, ⟨(some 2), (.mov (.tmp 83)), none⟩⟩]
def f35_c : ACode := (.seq (.ops f35_r0) (.seq (.ops f35_r1) (.seq (.ops f35_r2) (.seq (.ops f35_r3) (.seq (.seq (.ops f35_r4) (.cond (.tmp 56) (.seq (.ops f35_r5) .ret) .skip)) (.seq (.ops f35_r6) (.seq (.seq (.ops f35_r7) (.cond (.tmp 58) (.ops f35_r8) .skip)) (.seq (.draw f35_r9) .ret))))))))
def f35_a : AFunc := ⟨84, [(.tmp 2)], f35_c⟩

/-! 36 -/
def f36_r0 : List AStep := [⟨(some 1), (.box (.tmp 0)), none⟩, ⟨(some 2), (.alloc [(.int .i64 0), (.int .i64 0), (.int .i64 0), (.bool false), .nils, (.str [])]), none⟩]
def f36_r1 : List AStep := [⟨(some 3), (.fieldAddr 0 (.tmp 1)), none⟩, ⟨(some 4), (.load false 1 (.tmp 3)), none⟩, ⟨(some 5), (.fieldAddr 1 (.tmp 1)), none⟩, ⟨(some 6), (.load false 1 (.tmp 5)), none⟩, ⟨(some 7), (.fieldAddr 2 (.tmp 1)), none⟩, ⟨(some 8), (.load false 1 (.tmp 7)), none⟩, ⟨(some 9), (.fieldAddr 3 (.tmp 1)), none⟩, ⟨(some 10), (.load false 1 (.tmp 9)), none⟩, ⟨(some 11), (.fieldAddr 4 (.tmp 1)), none⟩, ⟨(some 12), (.load false 1 (.tmp 11)), none⟩, ⟨(some 13), (.fieldAddr 5 (.tmp 1)), none⟩, ⟨(some 14), (.load false 1 (.tmp 13)), none⟩, ⟨(some 15), (.cvB2S (.tmp 14)), none⟩, ⟨(some 16), (.build [(.int .i64 0), (.int .i64 0), (.int .i64 0), (.bool false), .nils, (.str [])] [(0, (1, (.tmp 4))), (1, (1, (.tmp 6))), (2, (1, (.tmp 8))), (3, (1, (.tmp 10))), (4, (1, (.tmp 12))), (5, (1, (.tmp 15)))]), none⟩, ⟨none, (.store 6 (.tmp 2) (.tmp 16)), none⟩]
def f36_c : ACode := (.seq (.ops f36_r0) (.seq (.ops f36_r1) .ret))
def f36_a : AFunc := ⟨17, [(.cell 2 true 6)], f36_c⟩

/-! 37 -/
def f37_r0 : List AStep := [⟨(some 2), (.alloc [(.int .i64 0), (.int .i64 0), (.int .i64 0), (.bool false), .nils, .nils]), none⟩, ⟨(some 3), (.mov (.con (.int .i64 0))), none⟩]
def f37_r1 : List AStep := [⟨(some 8), (.mov (.tmp 0)), none⟩, ⟨(some 9), (.call (.con (.func 21 [])) [(.tmp 8)]), none⟩, ⟨(some 4), (.alloc [.nilp]), none⟩, ⟨none, (.store 1 (.tmp 4) (.tmp 9)), none⟩]
def f37_r2 : List AStep := [⟨(some 10), (.makeFunc 45 [(.tmp 4)]), none⟩, ⟨(some 5), (.mov (.tmp 10)), none⟩]
def f37_r3 : List DStep := [⟨0, 0, ⟨(some 11), (.mov (.tmp 5)), none⟩⟩, ⟨2, 0, ⟨(some 13), (.mov (.tmp 5)), none⟩⟩, ⟨4, 0, ⟨(some 15), (.mov (.tmp 5)), none⟩⟩, ⟨6, 0, ⟨(some 17), (.load false 1 (.tmp 4)), none⟩⟩, ⟨9, 0, ⟨(some 20), (.load false 1 (.tmp 4)), none⟩⟩, ⟨12, 0, ⟨(some 6), (.alloc [(.int .i64 0), (.int .i64 0), (.int .i64 0), (.bool false), .nils, .nils]), none⟩⟩, ⟨1, 1, ⟨(some 12), (.call (.tmp 11) []), none⟩⟩, ⟨3, 7, ⟨(some 14), (.call (.tmp 13) []), none⟩⟩, ⟨5, 31, ⟨(some 16), (.call (.tmp 15) []), none⟩⟩, ⟨7, 127, ⟨(some 18), (.call (.con (.func 22 [])) [(.tmp 17)]), none⟩⟩, ⟨8, 255, ⟨(some 19), (.bin .eql (.tmp 18) (.con (.int .u64 1))), none⟩⟩, ⟨10, 767, ⟨(some 21), (.call (.con (.func 26 [])) [(.tmp 20), (.con (.int .i64 64))]), none⟩⟩, ⟨11, 2047, ⟨(some 22), (.build [(.int .i64 0), (.int .i64 0), (.int .i64 0), (.bool false), .nils, .nils] [(0, (1, (.tmp 12))), (1, (1, (.tmp 14))), (2, (1, (.tmp 16))), (3, (1, (.tmp 19))), (4, (1, (.tmp 21)))]), none⟩⟩, ⟨13, 8191, ⟨none, (.store 6 (.tmp 6) (.tmp 22)), none⟩⟩]
def f37_r4 : List AStep := [⟨(some 23), (.load false 1 (.tmp 4)), none⟩, ⟨(some 24), (.call (.con (.func 24 [])) [(.tmp 23)]), none⟩, ⟨(some 7), (.mov (.tmp 24)), none⟩]
def f37_r5 : List AStep := [⟨(some 25), (.mov (.tmp 7)), none⟩, ⟨(some 26), (.bin .neq (.tmp 25) (.con (.str []))), none⟩]
def f37_r6 : List AStep := [⟨(some 27), (.mov (.tmp 7)), none⟩, ⟨(some 28), (.cvS2B (.tmp 27)), none⟩, ⟨(some 29), (.fieldAddr 5 (.tmp 6)), none⟩, ⟨none, (.store 1 (.tmp 29) (.tmp 28)), none⟩]
def f37_r7 : List AStep := [⟨(some 31), (.load false 1 (.tmp 4)), none⟩, ⟨(some 32), (.call (.con (.func 30 [])) [(.tmp 31)]), none⟩, ⟨(some 33), (.bin .neq (.tmp 32) (.con (.int .i64 0))), none⟩, ⟨(some 30), (.mov (.tmp 33)), none⟩]
def f37_r8 : List AStep := [⟨(some 34), (.build [(.int .i64 0), (.int .i64 0), (.int .i64 0), (.bool false), .nils, .nils] []), none⟩, ⟨(some 35), (.load false 1 (.tmp 4)), none⟩, ⟨(some 36), (.call (.con (.func 30 [])) [(.tmp 35)]), none⟩, ⟨none, (.store 6 (.tmp 2) (.tmp 34)), none⟩, ⟨(some 3), (.mov (.tmp 36)), none⟩]
def f37_r9 : List AStep := [⟨(some 38), (.load true 6 (.tmp 6)), none⟩, ⟨(some 39), (.call (.con (.func 43 [])) [(.tmp 38)]), none⟩, ⟨(some 40), (.not (.tmp 39)), none⟩, ⟨(some 41), (.mov (.tmp 40)), none⟩, ⟨(some 42), (.load true 6 (.tmp 6)), (some (41, false))⟩, ⟨(some 43), (.call (.con (.func 33 [])) [(.tmp 42)]), (some (41, false))⟩, ⟨(some 44), (.mov (.tmp 0)), (some (41, false))⟩, ⟨(some 45), (.call (.con (.func 46 [])) [(.tmp 43), (.tmp 44)]), (some (41, false))⟩, ⟨(some 46), (.not (.tmp 45)), (some (41, false))⟩, ⟨(some 47), (.pick (.tmp 41) (.con (.bool true)) (.tmp 46)), none⟩, ⟨(some 37), (.mov (.tmp 47)), none⟩]
def f37_r10 : List AStep := [⟨(some 48), (.build [(.int .i64 0), (.int .i64 0), (.int .i64 0), (.bool false), .nils, .nils] []), none⟩, ⟨none, (.store 6 (.tmp 2) (.tmp 48)), none⟩, ⟨(some 3), (.mov (.con (.int .i64 11))), none⟩]
def f37_r11 : List AStep := [⟨(some 49), (.load true 6 (.tmp 6)), none⟩, ⟨none, (.store 6 (.tmp 2) (.tmp 49)), none⟩, ⟨(some 3), (.mov (.con (.int .i64 0))), none⟩]
def f37_c : ACode := (.seq (.ops f37_r0) (.seq (.ops f37_r1) (.seq (.ops f37_r2) (.seq (.draw f37_r3) (.seq (.seq (.ops f37_r4) (.seq (.ops f37_r5) (.cond (.tmp 26) (.ops f37_r6) .skip))) (.seq (.block 0 (.seq (.ops f37_r7) (.cond (.tmp 30) (.seq (.ops f37_r8) .ret) (.seq (.ops f37_r9) (.cond (.tmp 37) (.seq (.ops f37_r10) .ret) .skip))))) (.seq (.ops f37_r11) .ret)))))))
def f37_a : AFunc := ⟨50, [(.cell 2 true 6), (.tmp 3)], f37_c⟩

/-! 38 -/
def f38_r0 : List AStep := [⟨(some 2), (.mov (.con (.bool false))), none⟩]
def f38_r1 : List AStep := [⟨(some 3), (.mov (.tmp 0)), none⟩, ⟨(some 4), (.bin .geq (.tmp 3) (.con (.int .i64 0))), none⟩, ⟨(some 5), (.mov (.tmp 4)), none⟩, ⟨(some 6), (.mov (.tmp 0)), (some (5, true))⟩, ⟨(some 7), (.bin .leq (.tmp 6) (.con (.int .i64 2147483648))), (some (5, true))⟩, ⟨(some 8), (.pick (.tmp 5) (.tmp 7) (.con (.bool false))), none⟩, ⟨(some 2), (.mov (.tmp 8)), none⟩]
def f38_c : ACode := (.seq (.ops f38_r0) (.seq (.ops f38_r1) .ret))
def f38_a : AFunc := ⟨9, [(.tmp 2)], f38_c⟩

/-! 39 -/
def f39_r0 : List AStep := [⟨(some 2), (.mov (.con (.int .i64 0))), none⟩]
def f39_r1 : List AStep := [⟨(some 3), (.mov (.tmp 0)), none⟩, ⟨(some 4), (.bin .geq (.tmp 3) (.con (.int .u64 4294967296))), none⟩]
def f39_r2 : List AStep := [⟨(some 5), (.mov (.tmp 0)), none⟩, ⟨(some 6), (.bin .shr (.tmp 5) (.con (.int .u64 32))), none⟩, ⟨(some 0), (.mov (.tmp 6)), none⟩]
def f39_r3 : List AStep := [⟨(some 2), (.mov (.con (.int .i64 32))), none⟩]
def f39_r4 : List AStep := [⟨(some 7), (.mov (.tmp 0)), none⟩, ⟨(some 8), (.bin .geq (.tmp 7) (.con (.int .u64 65536))), none⟩]
def f39_r5 : List AStep := [⟨(some 9), (.mov (.tmp 0)), none⟩, ⟨(some 10), (.bin .shr (.tmp 9) (.con (.int .u64 16))), none⟩, ⟨(some 0), (.mov (.tmp 10)), none⟩]
def f39_r6 : List AStep := [⟨(some 11), (.mov (.tmp 2)), none⟩, ⟨(some 12), (.bin .add (.tmp 11) (.con (.int .i64 16))), none⟩, ⟨(some 2), (.mov (.tmp 12)), none⟩]
def f39_r7 : List AStep := [⟨(some 13), (.mov (.tmp 0)), none⟩, ⟨(some 14), (.bin .geq (.tmp 13) (.con (.int .u64 256))), none⟩]
def f39_r8 : List AStep := [⟨(some 15), (.mov (.tmp 0)), none⟩, ⟨(some 16), (.bin .shr (.tmp 15) (.con (.int .u64 8))), none⟩, ⟨(some 0), (.mov (.tmp 16)), none⟩]
def f39_r9 : List AStep := [⟨(some 17), (.mov (.tmp 2)), none⟩, ⟨(some 18), (.bin .add (.tmp 17) (.con (.int .i64 8))), none⟩, ⟨(some 2), (.mov (.tmp 18)), none⟩]
def f39_r10 : List AStep := [⟨(some 19), (.mov (.tmp 2)), none⟩, ⟨(some 20), (.mov (.tmp 0)), none⟩, ⟨(some 21), (.cvInt .u8 (.tmp 20)), none⟩, ⟨(some 22), (.indexStr (.con (.str [0, 1, 2, 2, 3, 3, 3, 3, 4, 4, 4, 4, 4, 4, 4, 4, 5, 5, 5, 5, 5, 5, 5, 5, 5, 5, 5, 5, 5, 5, 5, 5, 6, 6, 6, 6, 6, 6, 6, 6, 6, 6, 6, 6, 6, 6, 6, 6, 6, 6, 6, 6, 6, 6, 6, 6, 6, 6, 6, 6, 6, 6, 6, 6, 7, 7, 7, 7, 7, 7, 7, 7, 7, 7, 7, 7, 7, 7, 7, 7, 7, 7, 7, 7, 7, 7, 7, 7, 7, 7, 7, 7, 7, 7, 7, 7, 7, 7, 7, 7, 7, 7, 7, 7, 7, 7, 7, 7, 7, 7, 7, 7, 7, 7, 7, 7, 7, 7, 7, 7, 7, 7, 7, 7, 7, 7, 7, 7, 8, 8, 8, 8, 8, 8, 8, 8, 8, 8, 8, 8, 8, 8, 8, 8, 8, 8, 8, 8, 8, 8, 8, 8, 8, 8, 8, 8, 8, 8, 8, 8, 8, 8, 8, 8, 8, 8, 8, 8, 8, 8, 8, 8, 8, 8, 8, 8, 8, 8, 8, 8, 8, 8, 8, 8, 8, 8, 8, 8, 8, 8, 8, 8, 8, 8, 8, 8, 8, 8, 8, 8, 8, 8, 8, 8, 8, 8, 8, 8, 8, 8, 8, 8, 8, 8, 8, 8, 8, 8, 8, 8, 8, 8, 8, 8, 8, 8, 8, 8, 8, 8, 8, 8, 8, 8, 8, 8, 8, 8, 8, 8, 8, 8, 8, 8, 8, 8, 8, 8, 8, 8, 8, 8, 8, 8, 8, 8])) (.tmp 21)), none⟩, ⟨(some 23), (.cvInt .i64 (.tmp 22)), none⟩, ⟨(some 24), (.bin .add (.tmp 19) (.tmp 23)), none⟩, ⟨(some 2), (.mov (.tmp 24)), none⟩]
def f39_c : ACode := (.seq (.ops f39_r0) (.seq (.seq (.ops f39_r1) (.cond (.tmp 4) (.seq (.ops f39_r2) (.ops f39_r3)) .skip)) (.seq (.seq (.ops f39_r4) (.cond (.tmp 8) (.seq (.ops f39_r5) (.ops f39_r6)) .skip)) (.seq (.seq (.ops f39_r7) (.cond (.tmp 14) (.seq (.ops f39_r8) (.ops f39_r9)) .skip)) (.seq (.ops f39_r10) .ret)))))
def f39_a : AFunc := ⟨25, [(.tmp 2)], f39_c⟩

/-! 40 -/
def f40_r0 : List AStep := [⟨(some 2), (.mov (.con (.str []))), none⟩]
def f40_r1 : List AStep := [⟨(some 3), (.mov (.tmp 0)), none⟩, ⟨(some 4), (.lenT (.tmp 3)), none⟩, ⟨(some 5), (.cvInt .u64 (.tmp 4)), none⟩, ⟨(some 6), (.call (.con (.func 13 [])) [(.tmp 5)]), none⟩, ⟨(some 7), (.mov (.tmp 0)), none⟩, ⟨(some 8), (.bin .add (.tmp 6) (.tmp 7)), none⟩, ⟨(some 2), (.mov (.tmp 8)), none⟩]
def f40_c : ACode := (.seq (.ops f40_r0) (.seq (.ops f40_r1) .ret))
def f40_a : AFunc := ⟨9, [(.tmp 2)], f40_c⟩

/-! 41 -/
def f41_r0 : List AStep := [⟨(some 2), (.mov (.con .nils)), none⟩]
def f41_r1 : List AStep := [⟨(some 3), (.mov (.tmp 0)), none⟩, ⟨(some 4), (.eq .slice false (.tmp 3) (.con .nils)), none⟩]
def f41_r2 : List AStep := [⟨(some 2), (.mov (.con .nils)), none⟩]
def f41_r3 : List AStep := [⟨(some 5), (.buildSlice 1 0 [(.int .u8 0)] []), none⟩, ⟨(some 6), (.mov (.tmp 0)), none⟩, ⟨(some 7), (.append 1 (.tmp 5) (.tmp 6)), none⟩, ⟨(some 2), (.mov (.tmp 7)), none⟩]
def f41_c : ACode := (.seq (.ops f41_r0) (.seq (.seq (.ops f41_r1) (.cond (.tmp 4) (.seq (.ops f41_r2) .ret) .skip)) (.seq (.ops f41_r3) .ret)))
def f41_a : AFunc := ⟨8, [(.tmp 2)], f41_c⟩

/-! 42 -/
def f42_r0 : List AStep := [⟨(some 6), (.mov (.con (.bool false))), none⟩]
def f42_r1 : List AStep := [⟨(some 7), (.mov (.tmp 1)), none⟩, ⟨(some 8), (.mov (.tmp 7)), none⟩, ⟨(some 9), (.mov (.tmp 0)), (some (8, true))⟩, ⟨(some 10), (.nilCheck (.tmp 9)), (some (8, true))⟩, ⟨(some 11), (.fieldAddr 1 (.tmp 10)), (some (8, true))⟩, ⟨(some 12), (.load false 1 (.tmp 11)), (some (8, true))⟩, ⟨(some 13), (.bin .eql (.tmp 12) (.con (.int .i64 0))), (some (8, true))⟩, ⟨(some 14), (.pick (.tmp 8) (.tmp 13) (.con (.bool false))), none⟩]
def f42_r2 : List AStep := [⟨(some 15), (.mov (.tmp 0)), none⟩, ⟨(some 16), (.mov (.tmp 2)), none⟩, ⟨(some 17), (.nilCheck (.tmp 15)), none⟩, ⟨(some 18), (.fieldAddr 1 (.tmp 17)), none⟩, ⟨none, (.store 1 (.tmp 18) (.tmp 16)), none⟩]
def f42_r3 : List AStep := [⟨(some 19), (.mov (.tmp 0)), none⟩, ⟨(some 20), (.nilCheck (.tmp 19)), none⟩, ⟨(some 21), (.fieldAddr 1 (.tmp 20)), none⟩, ⟨(some 22), (.load false 1 (.tmp 21)), none⟩, ⟨(some 23), (.bin .neq (.tmp 22) (.con (.int .i64 0))), none⟩, ⟨(some 6), (.mov (.tmp 23)), none⟩]
def f42_c : ACode := (.seq (.ops f42_r0) (.seq (.seq (.ops f42_r1) (.cond (.tmp 14) (.ops f42_r2) .skip)) (.seq (.ops f42_r3) .ret)))
def f42_a : AFunc := ⟨24, [(.tmp 6)], f42_c⟩

/-! 43 -/
def f43_r0 : List AStep := [⟨(some 1), (.box (.tmp 0)), none⟩, ⟨(some 2), (.mov (.con (.bool false))), none⟩]
def f43_r1 : List AStep := [⟨(some 3), (.mov (.con (.func 47 []))), none⟩]
def f43_r2 : List AStep := [⟨(some 5), (.fieldAddr 1 (.tmp 1)), none⟩, ⟨(some 6), (.load false 1 (.tmp 5)), none⟩, ⟨(some 7), (.bin .eql (.tmp 6) (.con (.int .i64 0))), none⟩, ⟨(some 8), (.mov (.tmp 7)), none⟩, ⟨(some 9), (.fieldAddr 3 (.tmp 1)), (some (8, true))⟩, ⟨(some 10), (.load false 1 (.tmp 9)), (some (8, true))⟩, ⟨(some 11), (.not (.tmp 10)), (some (8, true))⟩, ⟨(some 12), (.pick (.tmp 8) (.tmp 11) (.con (.bool false))), none⟩, ⟨(some 13), (.mov (.tmp 12)), none⟩, ⟨(some 14), (.fieldAddr 4 (.tmp 1)), (some (13, true))⟩, ⟨(some 15), (.load false 1 (.tmp 14)), (some (13, true))⟩, ⟨(some 16), (.len (.tmp 15)), (some (13, true))⟩, ⟨(some 17), (.fieldAddr 5 (.tmp 1)), (some (13, true))⟩, ⟨(some 18), (.load false 1 (.tmp 17)), (some (13, true))⟩, ⟨(some 19), (.len (.tmp 18)), (some (13, true))⟩, ⟨(some 20), (.bin .add (.tmp 16) (.tmp 19)), (some (13, true))⟩, ⟨(some 21), (.bin .eql (.tmp 20) (.con (.int .i64 0))), (some (13, true))⟩, ⟨(some 22), (.pick (.tmp 13) (.tmp 21) (.con (.bool false))), none⟩, ⟨(some 4), (.mov (.tmp 22)), none⟩]
def f43_r3 : List AStep := [⟨(some 23), (.mov (.tmp 3)), none⟩, ⟨(some 24), (.fieldAddr 0 (.tmp 1)), none⟩, ⟨(some 25), (.load false 1 (.tmp 24)), none⟩, ⟨(some 26), (.call (.tmp 23) [(.tmp 25)]), none⟩, ⟨(some 27), (.mov (.tmp 26)), none⟩, ⟨(some 28), (.mov (.tmp 3)), (some (27, true))⟩, ⟨(some 29), (.fieldAddr 1 (.tmp 1)), (some (27, true))⟩, ⟨(some 30), (.load false 1 (.tmp 29)), (some (27, true))⟩, ⟨(some 31), (.call (.tmp 28) [(.tmp 30)]), (some (27, true))⟩, ⟨(some 32), (.pick (.tmp 27) (.tmp 31) (.con (.bool false))), none⟩, ⟨(some 33), (.mov (.tmp 32)), none⟩, ⟨(some 34), (.mov (.tmp 3)), (some (33, true))⟩, ⟨(some 35), (.fieldAddr 2 (.tmp 1)), (some (33, true))⟩, ⟨(some 36), (.load false 1 (.tmp 35)), (some (33, true))⟩, ⟨(some 37), (.call (.tmp 34) [(.tmp 36)]), (some (33, true))⟩, ⟨(some 38), (.pick (.tmp 33) (.tmp 37) (.con (.bool false))), none⟩, ⟨(some 39), (.mov (.tmp 38)), none⟩, ⟨(some 40), (.fieldAddr 4 (.tmp 1)), (some (39, true))⟩, ⟨(some 41), (.load false 1 (.tmp 40)), (some (39, true))⟩, ⟨(some 42), (.len (.tmp 41)), (some (39, true))⟩, ⟨(some 43), (.bin .leq (.tmp 42) (.con (.int .i64 64))), (some (39, true))⟩, ⟨(some 44), (.pick (.tmp 39) (.tmp 43) (.con (.bool false))), none⟩, ⟨(some 45), (.mov (.tmp 44)), none⟩, ⟨(some 46), (.fieldAddr 0 (.tmp 1)), (some (45, true))⟩, ⟨(some 47), (.load false 1 (.tmp 46)), (some (45, true))⟩, ⟨(some 48), (.bin .eql (.tmp 47) (.con (.int .i64 0))), (some (45, true))⟩, ⟨(some 49), (.mov (.tmp 48)), (some (45, true))⟩, ⟨(some 50), (.mov (.tmp 4)), (some (49, false))⟩, ⟨(some 51), (.pick (.tmp 49) (.con (.bool true)) (.tmp 50)), (some (45, true))⟩, ⟨(some 52), (.pick (.tmp 45) (.tmp 51) (.con (.bool false))), none⟩, ⟨(some 2), (.mov (.tmp 52)), none⟩]
def f43_c : ACode := (.seq (.ops f43_r0) (.seq (.ops f43_r1) (.seq (.ops f43_r2) (.seq (.ops f43_r3) .ret))))
def f43_a : AFunc := ⟨53, [(.tmp 2)], f43_c⟩

/-! 44 -/
def f44_r0 : List AStep := [⟨(some 2), (.mov (.con (.bool false))), none⟩]
def f44_r1 : List AStep := [⟨(some 3), (.mov (.tmp 0)), none⟩, ⟨(some 4), (.bin .geq (.tmp 3) (.con (.int .i64 0))), none⟩, ⟨(some 5), (.mov (.tmp 4)), none⟩, ⟨(some 6), (.mov (.tmp 0)), (some (5, true))⟩, ⟨(some 7), (.bin .leq (.tmp 6) (.con (.int .i64 2147483648))), (some (5, true))⟩, ⟨(some 8), (.pick (.tmp 5) (.tmp 7) (.con (.bool false))), none⟩, ⟨(some 2), (.mov (.tmp 8)), none⟩]
def f44_c : ACode := (.seq (.ops f44_r0) (.seq (.ops f44_r1) .ret))
def f44_a : AFunc := ⟨9, [(.tmp 2)], f44_c⟩

/-! 45 -/
def f45_r0 : List AStep := [⟨(some 1), (.mov (.con (.int .i64 0))), none⟩]
def f45_r1 : List AStep := [⟨(some 2), (.load false 1 (.tmp 0)), none⟩, ⟨(some 3), (.call (.con (.func 22 [])) [(.tmp 2)]), none⟩, ⟨(some 4), (.min (.tmp 3) (.con (.int .u64 2147483649))), none⟩, ⟨(some 5), (.cvInt .i64 (.tmp 4)), none⟩, ⟨(some 1), (.mov (.tmp 5)), none⟩]
def f45_c : ACode := (.seq (.ops f45_r0) (.seq (.ops f45_r1) .ret))
def f45_a : AFunc := ⟨6, [(.tmp 1)], f45_c⟩

/-! 46 -/
def f46_r0 : List AStep := [⟨(some 4), (.mov (.con (.bool false))), none⟩]
def f46_r1 : List AStep := [⟨(some 5), (.mov (.tmp 0)), none⟩, ⟨(some 6), (.cvB2S (.tmp 5)), none⟩, ⟨(some 7), (.mov (.tmp 1)), none⟩, ⟨(some 8), (.cvB2S (.tmp 7)), none⟩, ⟨(some 9), (.bin .eql (.tmp 6) (.tmp 8)), none⟩, ⟨(some 4), (.mov (.tmp 9)), none⟩]
def f46_c : ACode := (.seq (.ops f46_r0) (.seq (.ops f46_r1) .ret))
def f46_a : AFunc := ⟨10, [(.tmp 4)], f46_c⟩

/-! 47 -/
def f47_r0 : List AStep := [⟨(some 2), (.mov (.con (.bool false))), none⟩]
def f47_r1 : List AStep := [⟨(some 3), (.mov (.tmp 0)), none⟩, ⟨(some 4), (.bin .geq (.tmp 3) (.con (.int .i64 0))), none⟩, ⟨(some 5), (.mov (.tmp 4)), none⟩, ⟨(some 6), (.mov (.tmp 0)), (some (5, true))⟩, ⟨(some 7), (.bin .leq (.tmp 6) (.con (.int .i64 2147483648))), (some (5, true))⟩, ⟨(some 8), (.pick (.tmp 5) (.tmp 7) (.con (.bool false))), none⟩, ⟨(some 2), (.mov (.tmp 8)), none⟩]
def f47_c : ACode := (.seq (.ops f47_r0) (.seq (.ops f47_r1) .ret))
def f47_a : AFunc := ⟨9, [(.tmp 2)], f47_c⟩

set_option maxRecDepth 100000 in
theorem T3 : TT 3 = some f3_a := by kernel_rfl
set_option maxRecDepth 100000 in
theorem T4 : TT 4 = some f4_a := by kernel_rfl
set_option maxRecDepth 100000 in
theorem T5 : TT 5 = some f5_a := by kernel_rfl
set_option maxRecDepth 100000 in
theorem T6 : TT 6 = some f6_a := by kernel_rfl
set_option maxRecDepth 100000 in
theorem T7 : TT 7 = some f7_a := by kernel_rfl
set_option maxRecDepth 100000 in
theorem T8 : TT 8 = some f8_a := by kernel_rfl
set_option maxRecDepth 100000 in
theorem T9 : TT 9 = some f9_a := by kernel_rfl
set_option maxRecDepth 100000 in
theorem T10 : TT 10 = some f10_a := by kernel_rfl
set_option maxRecDepth 100000 in
theorem T11 : TT 11 = some f11_a := by kernel_rfl
set_option maxRecDepth 100000 in
theorem T12 : TT 12 = some f12_a := by kernel_rfl
set_option maxRecDepth 100000 in
theorem T13 : TT 13 = some f13_a := by kernel_rfl
set_option maxRecDepth 100000 in
theorem T14 : TT 14 = some f14_a := by kernel_rfl
set_option maxRecDepth 100000 in
theorem T15 : TT 15 = some f15_a := by kernel_rfl
set_option maxRecDepth 100000 in
theorem T16 : TT 16 = some f16_a := by kernel_rfl
set_option maxRecDepth 100000 in
theorem T17 : TT 17 = some f17_a := by kernel_rfl
set_option maxRecDepth 100000 in
theorem T18 : TT 18 = some f18_a := by kernel_rfl
set_option maxRecDepth 100000 in
theorem T19 : TT 19 = some f19_a := by kernel_rfl
set_option maxRecDepth 100000 in
theorem T20 : TT 20 = some f20_a := by kernel_rfl
set_option maxRecDepth 100000 in
theorem T21 : TT 21 = some f21_a := by kernel_rfl
set_option maxRecDepth 100000 in
theorem T22 : TT 22 = some f22_a := by kernel_rfl
set_option maxRecDepth 100000 in
theorem T23 : TT 23 = some f23_a := by kernel_rfl
set_option maxRecDepth 100000 in
theorem T24 : TT 24 = some f24_a := by kernel_rfl
set_option maxRecDepth 100000 in
theorem T25 : TT 25 = some f25_a := by kernel_rfl
set_option maxRecDepth 100000 in
theorem T26 : TT 26 = some f26_a := by kernel_rfl
set_option maxRecDepth 100000 in
theorem T27 : TT 27 = some f27_a := by kernel_rfl
set_option maxRecDepth 100000 in
theorem T28 : TT 28 = some f28_a := by kernel_rfl
set_option maxRecDepth 100000 in
theorem T29 : TT 29 = some f29_a := by kernel_rfl
set_option maxRecDepth 100000 in
theorem T30 : TT 30 = some f30_a := by kernel_rfl
set_option maxRecDepth 100000 in
theorem T31 : TT 31 = some f31_a := by kernel_rfl
set_option maxRecDepth 100000 in
theorem T32 : TT 32 = some f32_a := by kernel_rfl
set_option maxRecDepth 100000 in
theorem T33 : TT 33 = some f33_a := by kernel_rfl
set_option maxRecDepth 100000 in
theorem T34 : TT 34 = some f34_a := by kernel_rfl
set_option maxRecDepth 100000 in
theorem T35 : TT 35 = some f35_a := by kernel_rfl
set_option maxRecDepth 100000 in
theorem T36 : TT 36 = some f36_a := by kernel_rfl
set_option maxRecDepth 100000 in
theorem T37 : TT 37 = some f37_a := by kernel_rfl
set_option maxRecDepth 100000 in
theorem T38 : TT 38 = some f38_a := by kernel_rfl
set_option maxRecDepth 100000 in
theorem T39 : TT 39 = some f39_a := by kernel_rfl
set_option maxRecDepth 100000 in
theorem T40 : TT 40 = some f40_a := by kernel_rfl
set_option maxRecDepth 100000 in
theorem T41 : TT 41 = some f41_a := by kernel_rfl
set_option maxRecDepth 100000 in
theorem T42 : TT 42 = some f42_a := by kernel_rfl
set_option maxRecDepth 100000 in
theorem T43 : TT 43 = some f43_a := by kernel_rfl
set_option maxRecDepth 100000 in
theorem T44 : TT 44 = some f44_a := by kernel_rfl
set_option maxRecDepth 100000 in
theorem T45 : TT 45 = some f45_a := by kernel_rfl
set_option maxRecDepth 100000 in
theorem T46 : TT 46 = some f46_a := by kernel_rfl
set_option maxRecDepth 100000 in
theorem T47 : TT 47 = some f47_a := by kernel_rfl
end Go.Proofs.Ythhibhhpcjggnab.Ev.C
