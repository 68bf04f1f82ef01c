/- The functions of the program as the interpreter has them, printed by a program of ours. -/
import Derived.Test.YtlbaphapjclkdaaGreatDoorProg
import Derived.Test.YtlbaphapjclkdaaGreatDoorEv24
namespace Go.Proofs.YtlbaphapjclkdaaGreatDoor.Ev.C
open Go Go.Proofs.YtlbaphapjclkdaaGreatDoor.Ev
noncomputable abbrev PP : Program := Go.Proofs.Tryz.prog
def n_batch_New : Nat := 5
def n_batch_Store_Define : Nat := 6
def n_batch_Store_Live : Nat := 10
def n_batch_Store_Rev : Nat := 7
def n_batch_Store_Trim : Nat := 8
def n_batch_Store_Write : Nat := 9
def n_bytealg_CountString : Nat := 199
def n_bytealg_IndexByteString : Nat := 222
def n_doormanlaw15_BatchRoom : Nat := 3
def n_doormanlaw15_awake : Nat := 4
def n_parse_reader_is : Nat := 165
def n_parse_reader_pass : Nat := 128
def n_parse_reader_sign : Nat := 205
def n_print_Show : Nat := 50
def n_print_rel : Nat := 94
def n_slices_Contains_string_string : Nat := 193
def n_slices_Index_string_string : Nat := 212
def n_strings_ContainsRune : Nat := 161
def n_strings_Join : Nat := 64
def n_table_Compile : Nat := 16
def n_token_Key : Nat := 166
def g_token_keys : Nat := 0
def g_bytealg_MaxLen : Nat := 1
def g_utf8_first : Nat := 2
def g_utf8_acceptRanges : Nat := 3
/-! doormanlaw15_BatchRoom -/
def doormanlaw15_BatchRoom_r0 : List AStep := [⟨(some 4), (.mov (.con (.bool false))), none⟩]
def doormanlaw15_BatchRoom_r1 : List AStep := [⟨(some 15), (.call (.con (.func n_doormanlaw15_awake [])) []), none⟩, ⟨(some 5), (.mov (.tmp 15)), none⟩]
def doormanlaw15_BatchRoom_r2 : List AStep := [⟨(some 16), (.mov (.tmp 5)), none⟩, ⟨(some 17), (.not (.tmp 16)), none⟩]
def doormanlaw15_BatchRoom_r3 : List AStep := [⟨(some 4), (.mov (.con (.bool false))), none⟩]
def doormanlaw15_BatchRoom_r4 : List AStep := [⟨(some 18), (.mov (.tmp 1)), none⟩, ⟨(some 19), (.cvInt .i64 (.tmp 18)), none⟩, ⟨(some 20), (.bin .rem (.tmp 19) (.con (.int .i64 7))), none⟩, ⟨(some 21), (.call (.con (.func n_batch_New [])) [(.tmp 20)]), none⟩, ⟨(some 6), (.mov (.tmp 21)), none⟩]
def doormanlaw15_BatchRoom_r5 : List AStep := [⟨(some 22), (.build [(.str []), (.str []), (.str [])] [(0, (1, (.con (.str [117, 115, 101, 114])))), (1, (1, (.con (.str [97]))))]), none⟩, ⟨(some 7), (.alloc [(.str []), (.str []), (.str [])]), none⟩, ⟨none, (.store 3 (.tmp 7) (.tmp 22)), none⟩]
def doormanlaw15_BatchRoom_r6 : List AStep := [⟨(some 23), (.mov (.tmp 6)), none⟩, ⟨(some 24), (.load true 3 (.tmp 7)), none⟩, ⟨(some 25), (.call (.con (.func n_batch_Store_Define [])) [(.tmp 23), (.tmp 24), (.con (.str [116, 121, 112, 101, 32, 117, 115, 101, 114, 32, 123, 125, 32, 116, 121, 112, 101, 32, 100, 111, 99, 32, 123, 32, 114, 101, 108, 32, 111, 119, 110, 32, 40, 111, 119, 110, 44, 32, 111, 119, 110, 44, 32, 111, 119, 110, 41, 58, 32, 117, 115, 101, 114, 59, 32, 125]))]), none⟩, ⟨(some 26), (.bin .neq (.tmp 25) (.con (.int .i64 0))), none⟩]
def doormanlaw15_BatchRoom_r7 : List AStep := [⟨(some 4), (.mov (.con (.bool false))), none⟩]
def doormanlaw15_BatchRoom_r8 : List AStep := [⟨(some 27), (.mov (.tmp 0)), none⟩, ⟨(some 28), (.cvInt .i64 (.tmp 27)), none⟩, ⟨(some 29), (.bin .rem (.tmp 28) (.con (.int .i64 70))), none⟩, ⟨(some 8), (.mov (.tmp 29)), none⟩]
def doormanlaw15_BatchRoom_r9 : List AStep := [⟨(some 9), (.mov (.con (.int .i64 1))), none⟩]
def doormanlaw15_BatchRoom_r10 : List AStep := [⟨(some 30), (.mov (.tmp 9)), none⟩, ⟨(some 31), (.mov (.tmp 8)), none⟩, ⟨(some 32), (.bin .lss (.tmp 30) (.tmp 31)), none⟩]
def doormanlaw15_BatchRoom_r11 : List AStep := [⟨(some 35), (.mov (.tmp 6)), none⟩, ⟨(some 36), (.load true 3 (.tmp 7)), none⟩, ⟨(some 37), (.call (.con (.func n_batch_Store_Define [])) [(.tmp 35), (.tmp 36), (.con (.str [116, 121, 112, 101, 32, 117, 115, 101, 114, 32, 123, 125, 32, 116, 121, 112, 101, 32, 100, 111, 99, 32, 123, 32, 114, 101, 108, 32, 111, 119, 110, 32, 40, 111, 119, 110, 44, 32, 111, 119, 110, 44, 32, 111, 119, 110, 41, 58, 32, 117, 115, 101, 114, 59, 32, 125]))]), none⟩, ⟨(some 10), (.mov (.tmp 37)), none⟩]
def doormanlaw15_BatchRoom_r12 : List AStep := [⟨(some 38), (.mov (.tmp 10)), none⟩, ⟨(some 39), (.bin .eql (.tmp 38) (.con (.int .i64 0))), none⟩, ⟨(some 40), (.mov (.tmp 9)), none⟩, ⟨(some 41), (.bin .lss (.tmp 40) (.con (.int .i64 63))), none⟩, ⟨(some 42), (.eq .bool true (.tmp 39) (.tmp 41)), none⟩, ⟨(some 43), (.mov (.tmp 42)), none⟩, ⟨(some 44), (.mov (.tmp 10)), (some (43, false))⟩, ⟨(some 45), (.bin .neq (.tmp 44) (.con (.int .i64 0))), (some (43, false))⟩, ⟨(some 46), (.mov (.tmp 45)), (some (43, false))⟩, ⟨(some 47), (.mov (.tmp 10)), (some (46, true))⟩, ⟨(some 48), (.bin .neq (.tmp 47) (.con (.int .i64 42))), (some (46, true))⟩, ⟨(some 49), (.pick (.tmp 46) (.tmp 48) (.con (.bool false))), (some (43, false))⟩, ⟨(some 50), (.pick (.tmp 43) (.con (.bool true)) (.tmp 49)), none⟩]
def doormanlaw15_BatchRoom_r13 : List AStep := [⟨(some 4), (.mov (.con (.bool false))), none⟩]
def doormanlaw15_BatchRoom_r14 : List AStep := [⟨(some 33), (.mov (.tmp 9)), none⟩, ⟨(some 34), (.bin .add (.tmp 33) (.con (.int .i64 1))), none⟩, ⟨(some 9), (.mov (.tmp 34)), none⟩]
def doormanlaw15_BatchRoom_l15 : ACode := (.seq (.seq (.ops doormanlaw15_BatchRoom_r10) (.cond (.tmp 32) .skip (.exit 0))) (.seq (.block 1 (.seq (.ops doormanlaw15_BatchRoom_r11) (.seq (.ops doormanlaw15_BatchRoom_r12) (.cond (.tmp 50) (.seq (.ops doormanlaw15_BatchRoom_r13) .ret) .skip)))) (.ops doormanlaw15_BatchRoom_r14)))
def doormanlaw15_BatchRoom_r16 : List AStep := [⟨(some 51), (.mov (.tmp 6)), none⟩, ⟨(some 52), (.call (.con (.func n_batch_Store_Rev [])) [(.tmp 51)]), none⟩, ⟨(some 53), (.mov (.tmp 8)), none⟩, ⟨(some 54), (.max (.tmp 53) (.con (.int .i64 1))), none⟩, ⟨(some 55), (.min (.tmp 54) (.con (.int .i64 63))), none⟩, ⟨(some 56), (.bin .neq (.tmp 52) (.tmp 55)), none⟩, ⟨(some 57), (.mov (.tmp 56)), none⟩, ⟨(some 58), (.mov (.tmp 6)), (some (57, false))⟩, ⟨(some 59), (.mov (.tmp 6)), (some (57, false))⟩, ⟨(some 60), (.call (.con (.func n_batch_Store_Rev [])) [(.tmp 59)]), (some (57, false))⟩, ⟨(some 61), (.call (.con (.func n_batch_Store_Trim [])) [(.tmp 58), (.tmp 60)]), (some (57, false))⟩, ⟨(some 62), (.bin .neq (.tmp 61) (.con (.int .i64 0))), (some (57, false))⟩, ⟨(some 63), (.pick (.tmp 57) (.con (.bool true)) (.tmp 62)), none⟩]
def doormanlaw15_BatchRoom_r17 : List AStep := [⟨(some 4), (.mov (.con (.bool false))), none⟩]
def doormanlaw15_BatchRoom_r18 : List AStep := [⟨(some 11), (.mov (.con (.int .i64 0))), none⟩]
def doormanlaw15_BatchRoom_r19 : List AStep := [⟨(some 64), (.mov (.tmp 11)), none⟩, ⟨(some 65), (.bin .lss (.tmp 64) (.con (.int .i64 9))), none⟩]
def doormanlaw15_BatchRoom_r20 : List AStep := [⟨(some 68), (.mov (.tmp 11)), none⟩, ⟨(some 69), (.bin .add (.con (.int .i64 97)) (.tmp 68)), none⟩, ⟨(some 70), (.cvInt .u8 (.tmp 69)), none⟩, ⟨(some 71), (.buildSlice 1 1 [(.int .u8 0)] [(0, (1, (.tmp 70)))]), none⟩, ⟨(some 72), (.cvB2S (.tmp 71)), none⟩, ⟨(some 73), (.build [(.str []), (.str []), (.str [])] [(0, (1, (.con (.str [100, 111, 99])))), (1, (1, (.tmp 72))), (2, (1, (.con (.str [111, 119, 110]))))]), none⟩, ⟨(some 74), (.load true 3 (.tmp 7)), none⟩, ⟨(some 75), (.build [(.str []), (.str []), (.str []), (.str []), (.str []), (.str [])] [(0, (3, (.tmp 73))), (3, (3, (.tmp 74)))]), none⟩, ⟨(some 12), (.alloc [(.str []), (.str []), (.str []), (.str []), (.str []), (.str [])]), none⟩, ⟨none, (.store 6 (.tmp 12) (.tmp 75)), none⟩]
def doormanlaw15_BatchRoom_r21 : List AStep := [⟨(some 77), (.mov (.tmp 6)), none⟩, ⟨(some 78), (.load true 3 (.tmp 7)), none⟩, ⟨(some 79), (.load true 6 (.tmp 12)), none⟩, ⟨(some 80), (.build [(.str []), (.str []), (.str []), (.str []), (.str []), (.str []), (.bool false)] [(0, (6, (.tmp 79))), (6, (1, (.con (.bool true))))]), none⟩, ⟨(some 81), (.buildSlice 7 1 [(.str []), (.str []), (.str []), (.str []), (.str []), (.str []), (.bool false)] [(0, (7, (.tmp 80)))]), none⟩, ⟨(some 82), (.call (.con (.func n_batch_Store_Write [])) [(.tmp 77), (.tmp 78), (.con .nils), (.tmp 81)]), none⟩, ⟨(some 76), (.mov (.tmp 82)), none⟩, ⟨(some 83), (.extract (.tmp 76) 0), none⟩, ⟨(some 84), (.extract (.tmp 76) 1), none⟩, ⟨(some 13), (.mov (.tmp 83)), none⟩, ⟨(some 14), (.mov (.tmp 84)), none⟩]
def doormanlaw15_BatchRoom_r22 : List AStep := [⟨(some 85), (.mov (.tmp 13)), none⟩, ⟨(some 86), (.bin .eql (.tmp 85) (.con (.int .i64 0))), none⟩, ⟨(some 87), (.mov (.tmp 11)), none⟩, ⟨(some 88), (.mov (.tmp 1)), none⟩, ⟨(some 89), (.cvInt .i64 (.tmp 88)), none⟩, ⟨(some 90), (.bin .rem (.tmp 89) (.con (.int .i64 7))), none⟩, ⟨(some 91), (.bin .lss (.tmp 87) (.tmp 90)), none⟩, ⟨(some 92), (.eq .bool true (.tmp 86) (.tmp 91)), none⟩, ⟨(some 93), (.mov (.tmp 92)), none⟩, ⟨(some 94), (.mov (.tmp 13)), (some (93, false))⟩, ⟨(some 95), (.bin .neq (.tmp 94) (.con (.int .i64 0))), (some (93, false))⟩, ⟨(some 96), (.mov (.tmp 95)), (some (93, false))⟩, ⟨(some 97), (.mov (.tmp 13)), (some (96, true))⟩, ⟨(some 98), (.bin .neq (.tmp 97) (.con (.int .i64 42))), (some (96, true))⟩, ⟨(some 99), (.pick (.tmp 96) (.tmp 98) (.con (.bool false))), (some (93, false))⟩, ⟨(some 100), (.pick (.tmp 93) (.con (.bool true)) (.tmp 99)), none⟩, ⟨(some 101), (.mov (.tmp 100)), none⟩, ⟨(some 102), (.mov (.tmp 14)), (some (101, false))⟩, ⟨(some 103), (.bin .neq (.tmp 102) (.con (.int .i64 0))), (some (101, false))⟩, ⟨(some 104), (.pick (.tmp 101) (.con (.bool true)) (.tmp 103)), none⟩]
def doormanlaw15_BatchRoom_r23 : List AStep := [⟨(some 4), (.mov (.con (.bool false))), none⟩]
def doormanlaw15_BatchRoom_r24 : List AStep := [⟨(some 66), (.mov (.tmp 11)), none⟩, ⟨(some 67), (.bin .add (.tmp 66) (.con (.int .i64 1))), none⟩, ⟨(some 11), (.mov (.tmp 67)), none⟩]
def doormanlaw15_BatchRoom_l25 : ACode := (.seq (.seq (.ops doormanlaw15_BatchRoom_r19) (.cond (.tmp 65) .skip (.exit 2))) (.seq (.block 3 (.seq (.ops doormanlaw15_BatchRoom_r20) (.seq (.ops doormanlaw15_BatchRoom_r21) (.seq (.ops doormanlaw15_BatchRoom_r22) (.cond (.tmp 104) (.seq (.ops doormanlaw15_BatchRoom_r23) .ret) .skip))))) (.ops doormanlaw15_BatchRoom_r24)))
def doormanlaw15_BatchRoom_r26 : List AStep := [⟨(some 105), (.mov (.tmp 6)), none⟩, ⟨(some 106), (.call (.con (.func n_batch_Store_Live [])) [(.tmp 105)]), none⟩, ⟨(some 107), (.mov (.tmp 1)), none⟩, ⟨(some 108), (.cvInt .i64 (.tmp 107)), none⟩, ⟨(some 109), (.bin .rem (.tmp 108) (.con (.int .i64 7))), none⟩, ⟨(some 110), (.bin .eql (.tmp 106) (.tmp 109)), none⟩, ⟨(some 4), (.mov (.tmp 110)), none⟩]
def doormanlaw15_BatchRoom_c : ACode := (.seq (.ops doormanlaw15_BatchRoom_r0) (.seq (.ops doormanlaw15_BatchRoom_r1) (.seq (.seq (.ops doormanlaw15_BatchRoom_r2) (.cond (.tmp 17) (.seq (.ops doormanlaw15_BatchRoom_r3) .ret) .skip)) (.seq (.ops doormanlaw15_BatchRoom_r4) (.seq (.ops doormanlaw15_BatchRoom_r5) (.seq (.seq (.ops doormanlaw15_BatchRoom_r6) (.cond (.tmp 26) (.seq (.ops doormanlaw15_BatchRoom_r7) .ret) .skip)) (.seq (.ops doormanlaw15_BatchRoom_r8) (.seq (.seq (.ops doormanlaw15_BatchRoom_r9) (.block 0 (.loop doormanlaw15_BatchRoom_l15))) (.seq (.seq (.ops doormanlaw15_BatchRoom_r16) (.cond (.tmp 63) (.seq (.ops doormanlaw15_BatchRoom_r17) .ret) .skip)) (.seq (.seq (.ops doormanlaw15_BatchRoom_r18) (.block 2 (.loop doormanlaw15_BatchRoom_l25))) (.seq (.ops doormanlaw15_BatchRoom_r26) .ret)))))))))))
def doormanlaw15_BatchRoom_a : AFunc := ⟨111, [(.tmp 4)], doormanlaw15_BatchRoom_c⟩
/-! parse_reader_pass -/
def parse_reader_pass_r0 : List AStep := [⟨(some 4), (.mov (.con (.bool false))), none⟩]
def parse_reader_pass_r1 : List AStep := [⟨(some 5), (.mov (.tmp 0)), none⟩, ⟨(some 6), (.mov (.tmp 1)), none⟩, ⟨(some 7), (.call (.con (.func n_parse_reader_is [])) [(.tmp 5), (.tmp 6)]), none⟩, ⟨(some 8), (.not (.tmp 7)), none⟩]
def parse_reader_pass_r2 : List AStep := [⟨(some 4), (.mov (.con (.bool false))), none⟩]
def parse_reader_pass_r3 : List AStep := [⟨(some 9), (.mov (.tmp 0)), none⟩, ⟨(some 10), (.mov (.tmp 0)), none⟩, ⟨(some 11), (.nilCheck (.tmp 10)), none⟩, ⟨(some 12), (.fieldAddr 0 (.tmp 11)), none⟩, ⟨(some 13), (.load false 1 (.tmp 12)), none⟩, ⟨(some 14), (.sliceS 3 (.tmp 13) (some (.con (.int .i64 1))) none), none⟩, ⟨(some 15), (.nilCheck (.tmp 9)), none⟩, ⟨(some 16), (.fieldAddr 0 (.tmp 15)), none⟩, ⟨none, (.store 1 (.tmp 16) (.tmp 14)), none⟩]
def parse_reader_pass_r4 : List AStep := [⟨(some 4), (.mov (.con (.bool true))), none⟩]
def parse_reader_pass_c : ACode := (.seq (.ops parse_reader_pass_r0) (.seq (.seq (.ops parse_reader_pass_r1) (.cond (.tmp 8) (.seq (.ops parse_reader_pass_r2) .ret) .skip)) (.seq (.ops parse_reader_pass_r3) (.seq (.ops parse_reader_pass_r4) .ret))))
def parse_reader_pass_a : AFunc := ⟨17, [(.tmp 4)], parse_reader_pass_c⟩
/-! parse_reader_is -/
def parse_reader_is_r0 : List AStep := [⟨(some 4), (.mov (.con (.bool false))), none⟩]
def parse_reader_is_r1 : List AStep := [⟨(some 5), (.mov (.tmp 0)), none⟩, ⟨(some 6), (.nilCheck (.tmp 5)), none⟩, ⟨(some 7), (.fieldAddr 0 (.tmp 6)), none⟩, ⟨(some 8), (.load false 1 (.tmp 7)), none⟩, ⟨(some 9), (.indexAddr 3 (.tmp 8) (.con (.int .i64 0))), none⟩, ⟨(some 10), (.fieldAddr 1 (.tmp 9)), none⟩, ⟨(some 11), (.load false 1 (.tmp 10)), none⟩, ⟨(some 12), (.mov (.tmp 1)), none⟩, ⟨(some 13), (.bin .eql (.tmp 11) (.tmp 12)), none⟩, ⟨(some 14), (.mov (.tmp 13)), none⟩, ⟨(some 15), (.mov (.tmp 0)), (some (14, true))⟩, ⟨(some 16), (.nilCheck (.tmp 15)), (some (14, true))⟩, ⟨(some 17), (.fieldAddr 0 (.tmp 16)), (some (14, true))⟩, ⟨(some 18), (.load false 1 (.tmp 17)), (some (14, true))⟩, ⟨(some 19), (.indexAddr 3 (.tmp 18) (.con (.int .i64 0))), (some (14, true))⟩, ⟨(some 20), (.fieldAddr 0 (.tmp 19)), (some (14, true))⟩, ⟨(some 21), (.load false 1 (.tmp 20)), (some (14, true))⟩, ⟨(some 22), (.bin .eql (.tmp 21) (.con (.int .i64 2))), (some (14, true))⟩, ⟨(some 23), (.mov (.tmp 22)), (some (14, true))⟩, ⟨(some 24), (.mov (.tmp 1)), (some (23, false))⟩, ⟨(some 25), (.call (.con (.func n_token_Key [])) [(.tmp 24)]), (some (23, false))⟩, ⟨(some 26), (.pick (.tmp 23) (.con (.bool true)) (.tmp 25)), (some (14, true))⟩, ⟨(some 27), (.pick (.tmp 14) (.tmp 26) (.con (.bool false))), none⟩, ⟨(some 4), (.mov (.tmp 27)), none⟩]
def parse_reader_is_c : ACode := (.seq (.ops parse_reader_is_r0) (.seq (.ops parse_reader_is_r1) .ret))
def parse_reader_is_a : AFunc := ⟨28, [(.tmp 4)], parse_reader_is_c⟩
/-! token_Key -/
def token_Key_r0 : List AStep := [⟨(some 2), (.mov (.con (.bool false))), none⟩]
def token_Key_r1 : List AStep := [⟨(some 3), (.load false 1 (.con (.gptr g_token_keys))), none⟩, ⟨(some 4), (.mov (.tmp 0)), none⟩, ⟨(some 5), (.call (.con (.func n_slices_Contains_string_string [])) [(.tmp 3), (.tmp 4)]), none⟩, ⟨(some 2), (.mov (.tmp 5)), none⟩]
def token_Key_c : ACode := (.seq (.ops token_Key_r0) (.seq (.ops token_Key_r1) .ret))
def token_Key_a : AFunc := ⟨6, [(.tmp 2)], token_Key_c⟩
/-! slices_Contains_string_string -/
def slices_Contains_string_string_r0 : List AStep := [⟨(some 4), (.mov (.con (.bool false))), none⟩]
def slices_Contains_string_string_r1 : List AStep := [⟨(some 5), (.mov (.tmp 0)), none⟩, ⟨(some 6), (.mov (.tmp 1)), none⟩, ⟨(some 7), (.call (.con (.func n_slices_Index_string_string [])) [(.tmp 5), (.tmp 6)]), none⟩, ⟨(some 8), (.bin .geq (.tmp 7) (.con (.int .i64 0))), none⟩, ⟨(some 4), (.mov (.tmp 8)), none⟩]
def slices_Contains_string_string_c : ACode := (.seq (.ops slices_Contains_string_string_r0) (.seq (.ops slices_Contains_string_string_r1) .ret))
def slices_Contains_string_string_a : AFunc := ⟨9, [(.tmp 4)], slices_Contains_string_string_c⟩
/-! parse_reader_sign -/
def parse_reader_sign_r0 : List AStep := [⟨(some 2), (.mov (.con (.int .i64 0))), none⟩]
def parse_reader_sign_r1 : List AStep := [⟨(some 5), .makeMap, none⟩, ⟨none, (.mapPut .str (.tmp 5) (.con (.str [124])) (.con (.int .i64 4))), none⟩, ⟨none, (.mapPut .str (.tmp 5) (.con (.str [38])) (.con (.int .i64 5))), none⟩, ⟨none, (.mapPut .str (.tmp 5) (.con (.str [45])) (.con (.int .i64 6))), none⟩, ⟨(some 6), (.mov (.tmp 5)), none⟩, ⟨(some 7), (.rangeM (.tmp 6)), none⟩]
def parse_reader_sign_r2 : List AStep := [⟨(some 8), (.nextM (.tmp 7)), none⟩, ⟨(some 9), (.extract (.tmp 8) 0), none⟩]
def parse_reader_sign_r3 : List AStep := [⟨(some 10), (.entryM (.tmp 7)), none⟩, ⟨(some 11), (.extract (.tmp 10) 0), none⟩, ⟨(some 12), (.extract (.tmp 10) 1), none⟩, ⟨(some 3), (.mov (.tmp 11)), none⟩, ⟨(some 4), (.mov (.tmp 12)), none⟩]
def parse_reader_sign_r4 : List AStep := [⟨(some 13), (.mov (.tmp 0)), none⟩, ⟨(some 14), (.mov (.tmp 3)), none⟩, ⟨(some 15), (.call (.con (.func n_parse_reader_pass [])) [(.tmp 13), (.tmp 14)]), none⟩]
def parse_reader_sign_r5 : List AStep := [⟨(some 16), (.mov (.tmp 4)), none⟩, ⟨(some 2), (.mov (.tmp 16)), none⟩]
def parse_reader_sign_l6 : ACode := (.seq (.ops parse_reader_sign_r2) (.seq (.cond (.tmp 9) .skip (.exit 0)) (.block 1 (.seq (.ops parse_reader_sign_r3) (.seq (.ops parse_reader_sign_r4) (.cond (.tmp 15) (.seq (.ops parse_reader_sign_r5) .ret) .skip))))))
def parse_reader_sign_r7 : List AStep := [⟨(some 2), (.mov (.con (.int .i64 0))), none⟩]
def parse_reader_sign_c : ACode := (.seq (.ops parse_reader_sign_r0) (.seq (.seq (.ops parse_reader_sign_r1) (.block 0 (.loop parse_reader_sign_l6))) (.seq (.ops parse_reader_sign_r7) .ret)))
def parse_reader_sign_a : AFunc := ⟨17, [(.tmp 2)], parse_reader_sign_c⟩
/-! slices_Index_string_string -/
def slices_Index_string_string_r0 : List AStep := [⟨(some 4), (.mov (.con (.int .i64 0))), none⟩]
def slices_Index_string_string_r1 : List AStep := [⟨(some 6), (.mov (.tmp 0)), none⟩, ⟨(some 7), (.len (.tmp 6)), none⟩, ⟨(some 8), (.mov (.con (.int .i64 0))), none⟩]
def slices_Index_string_string_r2 : List AStep := [⟨(some 9), (.bin .lss (.tmp 8) (.tmp 7)), none⟩]
def slices_Index_string_string_r3 : List AStep := [⟨(some 10), (.mov (.tmp 8)), none⟩, ⟨(some 5), (.mov (.tmp 10)), none⟩]
def slices_Index_string_string_r4 : List AStep := [⟨(some 11), (.mov (.tmp 1)), none⟩, ⟨(some 12), (.mov (.tmp 0)), none⟩, ⟨(some 13), (.mov (.tmp 5)), none⟩, ⟨(some 14), (.indexAddr 1 (.tmp 12) (.tmp 13)), none⟩, ⟨(some 15), (.load false 1 (.tmp 14)), none⟩, ⟨(some 16), (.bin .eql (.tmp 11) (.tmp 15)), none⟩]
def slices_Index_string_string_r5 : List AStep := [⟨(some 17), (.mov (.tmp 5)), none⟩, ⟨(some 4), (.mov (.tmp 17)), none⟩]
def slices_Index_string_string_r6 : List AStep := [⟨(some 18), (.bin .add (.tmp 8) (.con (.int .i64 1))), none⟩, ⟨(some 8), (.mov (.tmp 18)), none⟩]
def slices_Index_string_string_l7 : ACode := (.seq (.ops slices_Index_string_string_r2) (.seq (.cond (.tmp 9) .skip (.exit 0)) (.seq (.block 1 (.seq (.ops slices_Index_string_string_r3) (.seq (.ops slices_Index_string_string_r4) (.cond (.tmp 16) (.seq (.ops slices_Index_string_string_r5) .ret) .skip)))) (.ops slices_Index_string_string_r6))))
def slices_Index_string_string_r8 : List AStep := [⟨(some 4), (.mov (.con (.int .i64 (-1)))), none⟩]
def slices_Index_string_string_c : ACode := (.seq (.ops slices_Index_string_string_r0) (.seq (.seq (.ops slices_Index_string_string_r1) (.block 0 (.loop slices_Index_string_string_l7))) (.seq (.ops slices_Index_string_string_r8) .ret)))
def slices_Index_string_string_a : AFunc := ⟨19, [(.tmp 4)], slices_Index_string_string_c⟩
set_option maxRecDepth 100000 in
theorem T_doormanlaw15_BatchRoom : table PP n_doormanlaw15_BatchRoom = some doormanlaw15_BatchRoom_a := by kernel_rfl
set_option maxRecDepth 100000 in
theorem T_parse_reader_pass : table PP n_parse_reader_pass = some parse_reader_pass_a := by kernel_rfl
set_option maxRecDepth 100000 in
theorem T_parse_reader_is : table PP n_parse_reader_is = some parse_reader_is_a := by kernel_rfl
set_option maxRecDepth 100000 in
theorem T_token_Key : table PP n_token_Key = some token_Key_a := by kernel_rfl
set_option maxRecDepth 100000 in
theorem T_slices_Contains_string_string : table PP n_slices_Contains_string_string = some slices_Contains_string_string_a := by kernel_rfl
set_option maxRecDepth 100000 in
theorem T_parse_reader_sign : table PP n_parse_reader_sign = some parse_reader_sign_a := by kernel_rfl
set_option maxRecDepth 100000 in
theorem T_slices_Index_string_string : table PP n_slices_Index_string_string = some slices_Index_string_string_a := by kernel_rfl
end Go.Proofs.YtlbaphapjclkdaaGreatDoor.Ev.C
