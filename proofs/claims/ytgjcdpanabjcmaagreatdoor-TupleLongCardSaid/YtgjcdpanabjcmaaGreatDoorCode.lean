/- The functions of the program as the interpreter has them, printed by a program of ours. -/
import Derived.Test.YtgjcdpanabjcmaaGreatDoorProg
import Derived.Test.YtgjcdpanabjcmaaGreatDoorEv29
namespace Go.Proofs.YtgjcdpanabjcmaaGreatDoor.Ev.C
open Go Go.Proofs.YtgjcdpanabjcmaaGreatDoor.Ev
noncomputable abbrev PP : Program := Go.Proofs.Tryz.prog
def n_bytealg_CountString : Nat := 160
def n_bytealg_Cutover : Nat := 154
def n_bytealg_IndexByteString : Nat := 195
def n_bytealg_IndexRabinKarp_string : Nat := 155
def n_bytealg_IndexString : Nat := 153
def n_cmp_Compare_string : Nat := 70
def n_cmp_isNaN_string : Nat := 117
def n_doormanlaw12_TupleBack : Nat := 4
def n_doormanlaw12_TupleLong : Nat := 8
def n_doormanlaw12_TupleNodes : Nat := 7
def n_doormanlaw12_TupleOrder : Nat := 5
def n_doormanlaw12_TupleTexts : Nat := 3
def n_doormanlaw12_awake : Nat := 9
def n_doormanlaw12_few : Nat := 10
def n_doormanref02_Count : Nat := 69
def n_doormanref02_Long : Nat := 116
def n_doormanref02_May : Nat := 68
def n_doormanref02_Name : Nat := 39
def n_doormanref02_Step : Nat := 67
def n_doormanref02_in : Nat := 163
def n_doormanref12_Compare : Nat := 25
def n_doormanref12_Formed : Nat := 23
def n_doormanref12_From : Nat := 16
def n_doormanref12_Key : Nat := 22
def n_doormanref12_Names : Nat := 30
def n_doormanref12_Parse : Nat := 14
def n_doormanref12_Read : Nat := 12
def n_doormanref12_Show : Nat := 18
def n_doormanref12_Text : Nat := 20
def n_doormanref12_cut : Nat := 33
def n_glyph_Count : Nat := 109
def n_glyph_Name : Nat := 62
def n_glyph_Valid : Nat := 108
def n_parse_reader_is : Nat := 165
def n_parse_reader_pass : Nat := 124
def n_parse_reader_sign : Nat := 202
def n_print_Show : Nat := 43
def n_print_rel : Nat := 79
def n_slices_Compare_string_string : Nat := 40
def n_slices_Contains_string_string : Nat := 150
def n_slices_Index_string_string : Nat := 194
def n_strings_ContainsRune : Nat := 110
def n_strings_Count : Nat := 112
def n_strings_Cut : Nat := 31
def n_strings_HasPrefix : Nat := 156
def n_strings_Index : Nat := 113
def n_strings_Join : Nat := 38
def n_strings_Split : Nat := 34
def n_strings_explode : Nat := 111
def n_strings_genSplit : Nat := 63
def n_stringslite_Cut : Nat := 61
def n_stringslite_HasPrefix : Nat := 197
def n_stringslite_Index : Nat := 107
def n_stringslite_IndexByte : Nat := 152
def n_token_Key : Nat := 166
def n_tuple_Compare : Nat := 24
def n_tuple_From : Nat := 15
def n_tuple_Key : Nat := 21
def n_tuple_Parse : Nat := 13
def n_tuple_Read : Nat := 11
def n_tuple_Show : Nat := 17
def n_tuple_Text : Nat := 19
def n_tuple_formed : Nat := 32
def n_tuple_names_formed : Nat := 35
def n_tuple_names_tuple : Nat := 36
def n_tuple_of : Nat := 37
def n_utf8_RuneCountInString : Nat := 158
def g_bytealg_MaxLen : Nat := 0
def g_token_keys : Nat := 1
def g_utf8_first : Nat := 2
def g_utf8_acceptRanges : Nat := 3
/-! doormanlaw12_TupleTexts -/
def doormanlaw12_TupleTexts_r0 : List AStep := [⟨(some 2), (.box (.tmp 0)), none⟩, ⟨(some 4), (.mov (.con (.bool false))), none⟩]
def doormanlaw12_TupleTexts_r1 : List AStep := [⟨(some 19), (.call (.con (.func n_doormanlaw12_awake [])) []), none⟩, ⟨(some 5), (.mov (.tmp 19)), none⟩]
def doormanlaw12_TupleTexts_r2 : List AStep := [⟨(some 20), (.mov (.tmp 5)), none⟩, ⟨(some 21), (.not (.tmp 20)), none⟩]
def doormanlaw12_TupleTexts_r3 : List AStep := [⟨(some 4), (.mov (.con (.bool false))), none⟩]
def doormanlaw12_TupleTexts_r4 : List AStep := [⟨(some 22), (.load true 6 (.tmp 2)), none⟩, ⟨(some 23), (.call (.con (.func n_doormanlaw12_few [])) [(.tmp 22)]), none⟩, ⟨(some 6), (.mov (.tmp 23)), none⟩]
def doormanlaw12_TupleTexts_r5 : List AStep := [⟨(some 24), (.mov (.tmp 6)), none⟩, ⟨(some 25), (.not (.tmp 24)), none⟩, ⟨(some 26), (.mov (.tmp 25)), none⟩, ⟨(some 27), (.mov (.tmp 1)), (some (26, false))⟩, ⟨(some 28), (.lenT (.tmp 27)), (some (26, false))⟩, ⟨(some 29), (.bin .gtr (.tmp 28) (.con (.int .i64 300))), (some (26, false))⟩, ⟨(some 30), (.pick (.tmp 26) (.con (.bool true)) (.tmp 29)), none⟩]
def doormanlaw12_TupleTexts_r6 : List AStep := [⟨(some 4), (.mov (.con (.bool true))), none⟩]
def doormanlaw12_TupleTexts_r7 : List AStep := [⟨(some 32), (.mov (.tmp 1)), none⟩, ⟨(some 33), (.call (.con (.func n_tuple_Read [])) [(.tmp 32)]), none⟩, ⟨(some 31), (.mov (.tmp 33)), none⟩, ⟨(some 34), (.extract (.tmp 31) 0), none⟩, ⟨(some 35), (.extract (.tmp 31) 1), none⟩, ⟨(some 7), (.alloc [(.str []), (.str []), (.str [])]), none⟩, ⟨none, (.store 3 (.tmp 7) (.tmp 34)), none⟩, ⟨(some 8), (.mov (.tmp 35)), none⟩]
def doormanlaw12_TupleTexts_r8 : List AStep := [⟨(some 37), (.mov (.tmp 1)), none⟩, ⟨(some 38), (.call (.con (.func n_doormanref12_Read [])) [(.tmp 37)]), none⟩, ⟨(some 36), (.mov (.tmp 38)), none⟩, ⟨(some 39), (.extract (.tmp 36) 0), none⟩, ⟨(some 40), (.extract (.tmp 36) 1), none⟩, ⟨(some 9), (.alloc [(.str []), (.str []), (.str [])]), none⟩, ⟨none, (.store 3 (.tmp 9) (.tmp 39)), none⟩, ⟨(some 10), (.mov (.tmp 40)), none⟩]
def doormanlaw12_TupleTexts_r9 : List AStep := [⟨(some 42), (.mov (.tmp 1)), none⟩, ⟨(some 43), (.call (.con (.func n_tuple_Parse [])) [(.tmp 42)]), none⟩, ⟨(some 41), (.mov (.tmp 43)), none⟩, ⟨(some 44), (.extract (.tmp 41) 0), none⟩, ⟨(some 45), (.extract (.tmp 41) 1), none⟩, ⟨(some 11), (.alloc [(.str []), (.str []), (.str []), (.str []), (.str []), (.str [])]), none⟩, ⟨none, (.store 6 (.tmp 11) (.tmp 44)), none⟩, ⟨(some 12), (.mov (.tmp 45)), none⟩]
def doormanlaw12_TupleTexts_r10 : List AStep := [⟨(some 47), (.mov (.tmp 1)), none⟩, ⟨(some 48), (.call (.con (.func n_doormanref12_Parse [])) [(.tmp 47)]), none⟩, ⟨(some 46), (.mov (.tmp 48)), none⟩, ⟨(some 49), (.extract (.tmp 46) 0), none⟩, ⟨(some 50), (.extract (.tmp 46) 1), none⟩, ⟨(some 13), (.alloc [(.str []), (.str []), (.str []), (.str []), (.str []), (.str [])]), none⟩, ⟨none, (.store 6 (.tmp 13) (.tmp 49)), none⟩, ⟨(some 14), (.mov (.tmp 50)), none⟩]
def doormanlaw12_TupleTexts_r11 : List AStep := [⟨(some 52), (.mov (.tmp 1)), none⟩, ⟨(some 53), (.call (.con (.func n_tuple_From [])) [(.tmp 52)]), none⟩, ⟨(some 51), (.mov (.tmp 53)), none⟩, ⟨(some 54), (.extract (.tmp 51) 0), none⟩, ⟨(some 55), (.extract (.tmp 51) 1), none⟩, ⟨(some 15), (.alloc [(.str []), (.str []), (.str []), (.str []), (.str []), (.str [])]), none⟩, ⟨none, (.store 6 (.tmp 15) (.tmp 54)), none⟩, ⟨(some 16), (.mov (.tmp 55)), none⟩]
def doormanlaw12_TupleTexts_r12 : List AStep := [⟨(some 57), (.mov (.tmp 1)), none⟩, ⟨(some 58), (.call (.con (.func n_doormanref12_From [])) [(.tmp 57)]), none⟩, ⟨(some 56), (.mov (.tmp 58)), none⟩, ⟨(some 59), (.extract (.tmp 56) 0), none⟩, ⟨(some 60), (.extract (.tmp 56) 1), none⟩, ⟨(some 17), (.alloc [(.str []), (.str []), (.str []), (.str []), (.str []), (.str [])]), none⟩, ⟨none, (.store 6 (.tmp 17) (.tmp 59)), none⟩, ⟨(some 18), (.mov (.tmp 60)), none⟩]
def doormanlaw12_TupleTexts_r13 : List DStep := [⟨0, 0, ⟨(some 61), (.fieldAddr 0 (.tmp 2)), none⟩⟩, ⟨1, 1, ⟨(some 62), (.load true 3 (.tmp 61)), none⟩⟩, ⟨3, 0, ⟨(some 64), (.fieldAddr 0 (.tmp 2)), none⟩⟩, ⟨4, 8, ⟨(some 65), (.load true 3 (.tmp 64)), none⟩⟩, ⟨2, 3, ⟨(some 63), (.call (.con (.func n_tuple_Show [])) [(.tmp 62)]), none⟩⟩, ⟨5, 31, ⟨(some 66), (.call (.con (.func n_doormanref12_Show [])) [(.tmp 65)]), none⟩⟩, ⟨6, 63, ⟨(some 67), (.bin .eql (.tmp 63) (.tmp 66)), none⟩⟩, ⟨7, 127, ⟨(some 68), (.mov (.tmp 67)), none⟩⟩, ⟨8, 255, ⟨(some 69), (.load true 6 (.tmp 2)), (some (68, true))⟩⟩, ⟨10, 255, ⟨(some 71), (.load true 6 (.tmp 2)), (some (68, true))⟩⟩, ⟨9, 511, ⟨(some 70), (.call (.con (.func n_tuple_Text [])) [(.tmp 69)]), (some (68, true))⟩⟩, ⟨11, 2047, ⟨(some 72), (.call (.con (.func n_doormanref12_Text [])) [(.tmp 71)]), (some (68, true))⟩⟩, ⟨12, 4095, ⟨(some 73), (.bin .eql (.tmp 70) (.tmp 72)), (some (68, true))⟩⟩, ⟨13, 8191, ⟨(some 74), (.pick (.tmp 68) (.tmp 73) (.con (.bool false))), none⟩⟩, ⟨14, 16383, ⟨(some 75), (.mov (.tmp 74)), none⟩⟩, ⟨15, 32767, ⟨(some 76), (.load true 6 (.tmp 2)), (some (75, true))⟩⟩, ⟨17, 32767, ⟨(some 78), (.load true 6 (.tmp 2)), (some (75, true))⟩⟩, ⟨16, 65535, ⟨(some 77), (.call (.con (.func n_tuple_Key [])) [(.tmp 76)]), (some (75, true))⟩⟩, ⟨18, 262143, ⟨(some 79), (.call (.con (.func n_doormanref12_Key [])) [(.tmp 78)]), (some (75, true))⟩⟩, ⟨19, 524287, ⟨(some 80), (.bin .eql (.tmp 77) (.tmp 79)), (some (75, true))⟩⟩, ⟨20, 1048575, ⟨(some 81), (.pick (.tmp 75) (.tmp 80) (.con (.bool false))), none⟩⟩, ⟨21, 2097151, ⟨(some 82), (.mov (.tmp 81)), none⟩⟩, ⟨22, 4194303, ⟨(some 83), (.load true 3 (.tmp 7)), (some (82, true))⟩⟩, ⟨23, 4194303, ⟨(some 84), (.load true 3 (.tmp 9)), (some (82, true))⟩⟩, ⟨24, 16777215, ⟨(some 85), (.eq (.flatK [.s, .s, .s]) false (.tmp 83) (.tmp 84)), (some (82, true))⟩⟩, ⟨25, 33554431, ⟨(some 86), (.pick (.tmp 82) (.tmp 85) (.con (.bool false))), none⟩⟩, ⟨26, 67108863, ⟨(some 87), (.mov (.tmp 86)), none⟩⟩, ⟨27, 134217727, ⟨(some 88), (.mov (.tmp 8)), (some (87, true))⟩⟩, ⟨28, 134217727, ⟨(some 89), (.mov (.tmp 10)), (some (87, true))⟩⟩, ⟨29, 536870911, ⟨(some 90), (.bin .eql (.tmp 88) (.tmp 89)), (some (87, true))⟩⟩, ⟨30, 1073741823, ⟨(some 91), (.pick (.tmp 87) (.tmp 90) (.con (.bool false))), none⟩⟩, ⟨31, 2147483647, ⟨(some 92), (.mov (.tmp 91)), none⟩⟩, ⟨32, 4294967295, ⟨(some 93), (.load true 6 (.tmp 11)), (some (92, true))⟩⟩, ⟨33, 4294967295, ⟨(some 94), (.load true 6 (.tmp 13)), (some (92, true))⟩⟩, ⟨34, 17179869183, ⟨(some 95), (.eq (.flatK [.s, .s, .s, .s, .s, .s]) false (.tmp 93) (.tmp 94)), (some (92, true))⟩⟩, ⟨35, 34359738367, ⟨(some 96), (.pick (.tmp 92) (.tmp 95) (.con (.bool false))), none⟩⟩, ⟨36, 68719476735, ⟨(some 97), (.mov (.tmp 96)), none⟩⟩, ⟨37, 137438953471, ⟨(some 98), (.mov (.tmp 12)), (some (97, true))⟩⟩, ⟨38, 137438953471, ⟨(some 99), (.mov (.tmp 14)), (some (97, true))⟩⟩, ⟨39, 549755813887, ⟨(some 100), (.bin .eql (.tmp 98) (.tmp 99)), (some (97, true))⟩⟩, ⟨40, 1099511627775, ⟨(some 101), (.pick (.tmp 97) (.tmp 100) (.con (.bool false))), none⟩⟩, ⟨41, 2199023255551, ⟨(some 102), (.mov (.tmp 101)), none⟩⟩, ⟨42, 4398046511103, ⟨(some 103), (.load true 6 (.tmp 15)), (some (102, true))⟩⟩, ⟨43, 4398046511103, ⟨(some 104), (.load true 6 (.tmp 17)), (some (102, true))⟩⟩, ⟨44, 17592186044415, ⟨(some 105), (.eq (.flatK [.s, .s, .s, .s, .s, .s]) false (.tmp 103) (.tmp 104)), (some (102, true))⟩⟩, ⟨45, 35184372088831, ⟨(some 106), (.pick (.tmp 102) (.tmp 105) (.con (.bool false))), none⟩⟩, ⟨46, 70368744177663, ⟨(some 107), (.mov (.tmp 106)), none⟩⟩, ⟨47, 140737488355327, ⟨(some 108), (.mov (.tmp 16)), (some (107, true))⟩⟩, ⟨48, 140737488355327, ⟨(some 109), (.mov (.tmp 18)), (some (107, true))⟩⟩, ⟨49, 562949953421311, ⟨(some 110), (.eq .bool false (.tmp 108) (.tmp 109)), (some (107, true))⟩⟩, ⟨50, 1125899906842623, ⟨(some 111), (.pick (.tmp 107) (.tmp 110) (.con (.bool false))), none⟩⟩, ⟨51, 2251799813685247, ⟨(some 4), (.mov (.tmp 111)), none⟩⟩]
def doormanlaw12_TupleTexts_c : ACode := (.seq (.ops doormanlaw12_TupleTexts_r0) (.seq (.ops doormanlaw12_TupleTexts_r1) (.seq (.seq (.ops doormanlaw12_TupleTexts_r2) (.cond (.tmp 21) (.seq (.ops doormanlaw12_TupleTexts_r3) .ret) .skip)) (.seq (.ops doormanlaw12_TupleTexts_r4) (.seq (.seq (.ops doormanlaw12_TupleTexts_r5) (.cond (.tmp 30) (.seq (.ops doormanlaw12_TupleTexts_r6) .ret) .skip)) (.seq (.ops doormanlaw12_TupleTexts_r7) (.seq (.ops doormanlaw12_TupleTexts_r8) (.seq (.ops doormanlaw12_TupleTexts_r9) (.seq (.ops doormanlaw12_TupleTexts_r10) (.seq (.ops doormanlaw12_TupleTexts_r11) (.seq (.ops doormanlaw12_TupleTexts_r12) (.seq (.draw doormanlaw12_TupleTexts_r13) .ret))))))))))))
def doormanlaw12_TupleTexts_a : AFunc := ⟨112, [(.tmp 4)], doormanlaw12_TupleTexts_c⟩
/-! doormanlaw12_TupleBack -/
def doormanlaw12_TupleBack_r0 : List AStep := [⟨(some 1), (.box (.tmp 0)), none⟩, ⟨(some 2), (.mov (.con (.bool false))), none⟩]
def doormanlaw12_TupleBack_r1 : List AStep := [⟨(some 13), (.call (.con (.func n_doormanlaw12_awake [])) []), none⟩, ⟨(some 3), (.mov (.tmp 13)), none⟩]
def doormanlaw12_TupleBack_r2 : List AStep := [⟨(some 14), (.mov (.tmp 3)), none⟩, ⟨(some 15), (.not (.tmp 14)), none⟩]
def doormanlaw12_TupleBack_r3 : List AStep := [⟨(some 2), (.mov (.con (.bool false))), none⟩]
def doormanlaw12_TupleBack_r4 : List AStep := [⟨(some 16), (.load true 6 (.tmp 1)), none⟩, ⟨(some 17), (.call (.con (.func n_doormanlaw12_few [])) [(.tmp 16)]), none⟩, ⟨(some 4), (.mov (.tmp 17)), none⟩]
def doormanlaw12_TupleBack_r5 : List AStep := [⟨(some 18), (.mov (.tmp 4)), none⟩, ⟨(some 19), (.not (.tmp 18)), none⟩]
def doormanlaw12_TupleBack_r6 : List AStep := [⟨(some 2), (.mov (.con (.bool true))), none⟩]
def doormanlaw12_TupleBack_r7 : List AStep := [⟨(some 20), (.fieldAddr 0 (.tmp 1)), none⟩, ⟨(some 21), (.load true 3 (.tmp 20)), none⟩, ⟨(some 22), (.call (.con (.func n_doormanref12_Formed [])) [(.tmp 21)]), none⟩, ⟨(some 5), (.mov (.tmp 22)), none⟩]
def doormanlaw12_TupleBack_r8 : List AStep := [⟨(some 23), (.fieldAddr 3 (.tmp 1)), none⟩, ⟨(some 24), (.load true 3 (.tmp 23)), none⟩, ⟨(some 25), (.call (.con (.func n_doormanref12_Formed [])) [(.tmp 24)]), none⟩, ⟨(some 6), (.mov (.tmp 25)), none⟩]
def doormanlaw12_TupleBack_r9 : List AStep := [⟨(some 27), (.load true 6 (.tmp 1)), none⟩, ⟨(some 28), (.call (.con (.func n_tuple_Text [])) [(.tmp 27)]), none⟩, ⟨(some 29), (.call (.con (.func n_tuple_Parse [])) [(.tmp 28)]), none⟩, ⟨(some 26), (.mov (.tmp 29)), none⟩, ⟨(some 30), (.extract (.tmp 26) 0), none⟩, ⟨(some 31), (.extract (.tmp 26) 1), none⟩, ⟨(some 7), (.alloc [(.str []), (.str []), (.str []), (.str []), (.str []), (.str [])]), none⟩, ⟨none, (.store 6 (.tmp 7) (.tmp 30)), none⟩, ⟨(some 8), (.mov (.tmp 31)), none⟩]
def doormanlaw12_TupleBack_r10 : List AStep := [⟨(some 33), (.load true 6 (.tmp 1)), none⟩, ⟨(some 34), (.call (.con (.func n_tuple_Key [])) [(.tmp 33)]), none⟩, ⟨(some 35), (.call (.con (.func n_tuple_From [])) [(.tmp 34)]), none⟩, ⟨(some 32), (.mov (.tmp 35)), none⟩, ⟨(some 36), (.extract (.tmp 32) 0), none⟩, ⟨(some 37), (.extract (.tmp 32) 1), none⟩, ⟨(some 9), (.alloc [(.str []), (.str []), (.str []), (.str []), (.str []), (.str [])]), none⟩, ⟨none, (.store 6 (.tmp 9) (.tmp 36)), none⟩, ⟨(some 10), (.mov (.tmp 37)), none⟩]
def doormanlaw12_TupleBack_r11 : List AStep := [⟨(some 39), (.fieldAddr 0 (.tmp 1)), none⟩, ⟨(some 40), (.load true 3 (.tmp 39)), none⟩, ⟨(some 41), (.call (.con (.func n_tuple_Show [])) [(.tmp 40)]), none⟩, ⟨(some 42), (.call (.con (.func n_tuple_Read [])) [(.tmp 41)]), none⟩, ⟨(some 38), (.mov (.tmp 42)), none⟩, ⟨(some 43), (.extract (.tmp 38) 0), none⟩, ⟨(some 44), (.extract (.tmp 38) 1), none⟩, ⟨(some 11), (.alloc [(.str []), (.str []), (.str [])]), none⟩, ⟨none, (.store 3 (.tmp 11) (.tmp 43)), none⟩, ⟨(some 12), (.mov (.tmp 44)), none⟩]
def doormanlaw12_TupleBack_r12 : List AStep := [⟨(some 45), (.mov (.tmp 5)), none⟩, ⟨(some 46), (.not (.tmp 45)), none⟩, ⟨(some 47), (.mov (.tmp 46)), none⟩, ⟨(some 48), (.mov (.tmp 6)), (some (47, false))⟩, ⟨(some 49), (.not (.tmp 48)), (some (47, false))⟩, ⟨(some 50), (.pick (.tmp 47) (.con (.bool true)) (.tmp 49)), none⟩, ⟨(some 51), (.mov (.tmp 50)), none⟩, ⟨(some 52), (.fieldAddr 0 (.tmp 1)), (some (51, false))⟩, ⟨(some 53), (.fieldAddr 2 (.tmp 52)), (some (51, false))⟩, ⟨(some 54), (.load false 1 (.tmp 53)), (some (51, false))⟩, ⟨(some 55), (.bin .eql (.tmp 54) (.con (.str []))), (some (51, false))⟩, ⟨(some 56), (.pick (.tmp 51) (.con (.bool true)) (.tmp 55)), none⟩]
def doormanlaw12_TupleBack_r13 : List AStep := [⟨(some 57), (.mov (.tmp 8)), none⟩, ⟨(some 58), (.bin .eql (.tmp 57) (.con (.int .i64 11))), none⟩, ⟨(some 59), (.mov (.tmp 58)), none⟩, ⟨(some 60), (.load true 6 (.tmp 7)), (some (59, false))⟩, ⟨(some 61), (.load true 6 (.tmp 1)), (some (59, false))⟩, ⟨(some 62), (.eq (.flatK [.s, .s, .s, .s, .s, .s]) true (.tmp 60) (.tmp 61)), (some (59, false))⟩, ⟨(some 63), (.pick (.tmp 59) (.con (.bool true)) (.tmp 62)), none⟩, ⟨(some 64), (.mov (.tmp 63)), none⟩, ⟨(some 65), (.mov (.tmp 10)), (some (64, true))⟩, ⟨(some 66), (.not (.tmp 65)), (some (64, true))⟩, ⟨(some 67), (.mov (.tmp 66)), (some (64, true))⟩, ⟨(some 68), (.load true 6 (.tmp 9)), (some (67, false))⟩, ⟨(some 69), (.load true 6 (.tmp 1)), (some (67, false))⟩, ⟨(some 70), (.eq (.flatK [.s, .s, .s, .s, .s, .s]) true (.tmp 68) (.tmp 69)), (some (67, false))⟩, ⟨(some 71), (.pick (.tmp 67) (.con (.bool true)) (.tmp 70)), (some (64, true))⟩, ⟨(some 72), (.pick (.tmp 64) (.tmp 71) (.con (.bool false))), none⟩, ⟨(some 73), (.mov (.tmp 72)), none⟩, ⟨(some 74), (.mov (.tmp 5)), (some (73, true))⟩, ⟨(some 75), (.mov (.tmp 74)), (some (73, true))⟩, ⟨(some 76), (.mov (.tmp 12)), (some (75, false))⟩, ⟨(some 77), (.bin .eql (.tmp 76) (.con (.int .i64 11))), (some (75, false))⟩, ⟨(some 78), (.pick (.tmp 75) (.con (.bool true)) (.tmp 77)), (some (73, true))⟩, ⟨(some 79), (.mov (.tmp 78)), (some (73, true))⟩, ⟨(some 80), (.load true 3 (.tmp 11)), (some (79, false))⟩, ⟨(some 81), (.fieldAddr 0 (.tmp 1)), (some (79, false))⟩, ⟨(some 82), (.load true 3 (.tmp 81)), (some (79, false))⟩, ⟨(some 83), (.eq (.flatK [.s, .s, .s]) true (.tmp 80) (.tmp 82)), (some (79, false))⟩, ⟨(some 84), (.pick (.tmp 79) (.con (.bool true)) (.tmp 83)), (some (73, true))⟩, ⟨(some 85), (.pick (.tmp 73) (.tmp 84) (.con (.bool false))), none⟩, ⟨(some 2), (.mov (.tmp 85)), none⟩]
def doormanlaw12_TupleBack_r14 : List AStep := [⟨(some 86), (.mov (.tmp 8)), none⟩, ⟨(some 87), (.bin .eql (.tmp 86) (.con (.int .i64 0))), none⟩, ⟨(some 88), (.mov (.tmp 87)), none⟩, ⟨(some 89), (.load true 6 (.tmp 7)), (some (88, true))⟩, ⟨(some 90), (.load true 6 (.tmp 1)), (some (88, true))⟩, ⟨(some 91), (.eq (.flatK [.s, .s, .s, .s, .s, .s]) false (.tmp 89) (.tmp 90)), (some (88, true))⟩, ⟨(some 92), (.pick (.tmp 88) (.tmp 91) (.con (.bool false))), none⟩, ⟨(some 93), (.mov (.tmp 92)), none⟩, ⟨(some 94), (.mov (.tmp 10)), (some (93, true))⟩, ⟨(some 95), (.pick (.tmp 93) (.tmp 94) (.con (.bool false))), none⟩, ⟨(some 96), (.mov (.tmp 95)), none⟩, ⟨(some 97), (.load true 6 (.tmp 9)), (some (96, true))⟩, ⟨(some 98), (.load true 6 (.tmp 1)), (some (96, true))⟩, ⟨(some 99), (.eq (.flatK [.s, .s, .s, .s, .s, .s]) false (.tmp 97) (.tmp 98)), (some (96, true))⟩, ⟨(some 100), (.pick (.tmp 96) (.tmp 99) (.con (.bool false))), none⟩, ⟨(some 101), (.mov (.tmp 100)), none⟩, ⟨(some 102), (.mov (.tmp 12)), (some (101, true))⟩, ⟨(some 103), (.bin .eql (.tmp 102) (.con (.int .i64 0))), (some (101, true))⟩, ⟨(some 104), (.pick (.tmp 101) (.tmp 103) (.con (.bool false))), none⟩, ⟨(some 105), (.mov (.tmp 104)), none⟩, ⟨(some 106), (.load true 3 (.tmp 11)), (some (105, true))⟩, ⟨(some 107), (.fieldAddr 0 (.tmp 1)), (some (105, true))⟩, ⟨(some 108), (.load true 3 (.tmp 107)), (some (105, true))⟩, ⟨(some 109), (.eq (.flatK [.s, .s, .s]) false (.tmp 106) (.tmp 108)), (some (105, true))⟩, ⟨(some 110), (.pick (.tmp 105) (.tmp 109) (.con (.bool false))), none⟩, ⟨(some 2), (.mov (.tmp 110)), none⟩]
def doormanlaw12_TupleBack_c : ACode := (.seq (.ops doormanlaw12_TupleBack_r0) (.seq (.ops doormanlaw12_TupleBack_r1) (.seq (.seq (.ops doormanlaw12_TupleBack_r2) (.cond (.tmp 15) (.seq (.ops doormanlaw12_TupleBack_r3) .ret) .skip)) (.seq (.ops doormanlaw12_TupleBack_r4) (.seq (.seq (.ops doormanlaw12_TupleBack_r5) (.cond (.tmp 19) (.seq (.ops doormanlaw12_TupleBack_r6) .ret) .skip)) (.seq (.ops doormanlaw12_TupleBack_r7) (.seq (.ops doormanlaw12_TupleBack_r8) (.seq (.ops doormanlaw12_TupleBack_r9) (.seq (.ops doormanlaw12_TupleBack_r10) (.seq (.ops doormanlaw12_TupleBack_r11) (.seq (.seq (.ops doormanlaw12_TupleBack_r12) (.cond (.tmp 56) (.seq (.ops doormanlaw12_TupleBack_r13) .ret) .skip)) (.seq (.ops doormanlaw12_TupleBack_r14) .ret))))))))))))
def doormanlaw12_TupleBack_a : AFunc := ⟨111, [(.tmp 2)], doormanlaw12_TupleBack_c⟩
/-! doormanlaw12_TupleOrder -/
def doormanlaw12_TupleOrder_r0 : List AStep := [⟨(some 2), (.box (.tmp 0)), none⟩, ⟨(some 3), (.box (.tmp 1)), none⟩, ⟨(some 4), (.mov (.con (.bool false))), none⟩]
def doormanlaw12_TupleOrder_r1 : List AStep := [⟨(some 13), (.call (.con (.func n_doormanlaw12_awake [])) []), none⟩, ⟨(some 5), (.mov (.tmp 13)), none⟩]
def doormanlaw12_TupleOrder_r2 : List AStep := [⟨(some 14), (.mov (.tmp 5)), none⟩, ⟨(some 15), (.not (.tmp 14)), none⟩]
def doormanlaw12_TupleOrder_r3 : List AStep := [⟨(some 4), (.mov (.con (.bool false))), none⟩]
def doormanlaw12_TupleOrder_r4 : List AStep := [⟨(some 16), (.load true 6 (.tmp 2)), none⟩, ⟨(some 17), (.call (.con (.func n_doormanlaw12_few [])) [(.tmp 16)]), none⟩, ⟨(some 6), (.mov (.tmp 17)), none⟩]
def doormanlaw12_TupleOrder_r5 : List AStep := [⟨(some 18), (.load true 6 (.tmp 3)), none⟩, ⟨(some 19), (.call (.con (.func n_doormanlaw12_few [])) [(.tmp 18)]), none⟩, ⟨(some 7), (.mov (.tmp 19)), none⟩]
def doormanlaw12_TupleOrder_r6 : List AStep := [⟨(some 20), (.mov (.tmp 6)), none⟩, ⟨(some 21), (.not (.tmp 20)), none⟩, ⟨(some 22), (.mov (.tmp 21)), none⟩, ⟨(some 23), (.mov (.tmp 7)), (some (22, false))⟩, ⟨(some 24), (.not (.tmp 23)), (some (22, false))⟩, ⟨(some 25), (.pick (.tmp 22) (.con (.bool true)) (.tmp 24)), none⟩]
def doormanlaw12_TupleOrder_r7 : List AStep := [⟨(some 4), (.mov (.con (.bool true))), none⟩]
def doormanlaw12_TupleOrder_r8 : List AStep := [⟨(some 26), (.load true 6 (.tmp 2)), none⟩, ⟨(some 27), (.load true 6 (.tmp 3)), none⟩, ⟨(some 28), (.call (.con (.func n_tuple_Compare [])) [(.tmp 26), (.tmp 27)]), none⟩, ⟨(some 8), (.mov (.tmp 28)), none⟩]
def doormanlaw12_TupleOrder_r9 : List AStep := [⟨(some 29), (.mov (.tmp 8)), none⟩, ⟨(some 30), (.load true 6 (.tmp 2)), none⟩, ⟨(some 31), (.load true 6 (.tmp 3)), none⟩, ⟨(some 32), (.call (.con (.func n_doormanref12_Compare [])) [(.tmp 30), (.tmp 31)]), none⟩, ⟨(some 33), (.bin .neq (.tmp 29) (.tmp 32)), none⟩, ⟨(some 34), (.mov (.tmp 33)), none⟩, ⟨(some 35), (.load true 6 (.tmp 3)), (some (34, false))⟩, ⟨(some 36), (.load true 6 (.tmp 2)), (some (34, false))⟩, ⟨(some 37), (.call (.con (.func n_tuple_Compare [])) [(.tmp 35), (.tmp 36)]), (some (34, false))⟩, ⟨(some 38), (.mov (.tmp 8)), (some (34, false))⟩, ⟨(some 39), (.neg (.tmp 38)), (some (34, false))⟩, ⟨(some 40), (.bin .neq (.tmp 37) (.tmp 39)), (some (34, false))⟩, ⟨(some 41), (.pick (.tmp 34) (.con (.bool true)) (.tmp 40)), none⟩]
def doormanlaw12_TupleOrder_r10 : List AStep := [⟨(some 4), (.mov (.con (.bool false))), none⟩]
def doormanlaw12_TupleOrder_r11 : List AStep := [⟨(some 42), (.fieldAddr 0 (.tmp 2)), none⟩, ⟨(some 43), (.load true 3 (.tmp 42)), none⟩, ⟨(some 44), (.call (.con (.func n_doormanref12_Formed [])) [(.tmp 43)]), none⟩, ⟨(some 45), (.mov (.tmp 44)), none⟩, ⟨(some 46), (.fieldAddr 3 (.tmp 2)), (some (45, true))⟩, ⟨(some 47), (.load true 3 (.tmp 46)), (some (45, true))⟩, ⟨(some 48), (.call (.con (.func n_doormanref12_Formed [])) [(.tmp 47)]), (some (45, true))⟩, ⟨(some 49), (.pick (.tmp 45) (.tmp 48) (.con (.bool false))), none⟩, ⟨(some 9), (.mov (.tmp 49)), none⟩]
def doormanlaw12_TupleOrder_r12 : List AStep := [⟨(some 50), (.fieldAddr 0 (.tmp 3)), none⟩, ⟨(some 51), (.load true 3 (.tmp 50)), none⟩, ⟨(some 52), (.call (.con (.func n_doormanref12_Formed [])) [(.tmp 51)]), none⟩, ⟨(some 53), (.mov (.tmp 52)), none⟩, ⟨(some 54), (.fieldAddr 3 (.tmp 3)), (some (53, true))⟩, ⟨(some 55), (.load true 3 (.tmp 54)), (some (53, true))⟩, ⟨(some 56), (.call (.con (.func n_doormanref12_Formed [])) [(.tmp 55)]), (some (53, true))⟩, ⟨(some 57), (.pick (.tmp 53) (.tmp 56) (.con (.bool false))), none⟩, ⟨(some 10), (.mov (.tmp 57)), none⟩]
def doormanlaw12_TupleOrder_r13 : List AStep := [⟨(some 58), (.mov (.tmp 9)), none⟩, ⟨(some 59), (.not (.tmp 58)), none⟩, ⟨(some 60), (.mov (.tmp 59)), none⟩, ⟨(some 61), (.mov (.tmp 10)), (some (60, false))⟩, ⟨(some 62), (.not (.tmp 61)), (some (60, false))⟩, ⟨(some 63), (.pick (.tmp 60) (.con (.bool true)) (.tmp 62)), none⟩]
def doormanlaw12_TupleOrder_r14 : List AStep := [⟨(some 4), (.mov (.con (.bool true))), none⟩]
def doormanlaw12_TupleOrder_r15 : List AStep := [⟨(some 64), (.load true 6 (.tmp 2)), none⟩, ⟨(some 65), (.call (.con (.func n_tuple_Key [])) [(.tmp 64)]), none⟩, ⟨(some 11), (.mov (.tmp 65)), none⟩]
def doormanlaw12_TupleOrder_r16 : List AStep := [⟨(some 66), (.load true 6 (.tmp 3)), none⟩, ⟨(some 67), (.call (.con (.func n_tuple_Key [])) [(.tmp 66)]), none⟩, ⟨(some 12), (.mov (.tmp 67)), none⟩]
def doormanlaw12_TupleOrder_r17 : List AStep := [⟨(some 68), (.mov (.tmp 8)), none⟩, ⟨(some 69), (.bin .lss (.tmp 68) (.con (.int .i64 0))), none⟩, ⟨(some 70), (.mov (.tmp 11)), none⟩, ⟨(some 71), (.mov (.tmp 12)), none⟩, ⟨(some 72), (.bin .lss (.tmp 70) (.tmp 71)), none⟩, ⟨(some 73), (.eq .bool false (.tmp 69) (.tmp 72)), none⟩, ⟨(some 74), (.mov (.tmp 73)), none⟩, ⟨(some 75), (.mov (.tmp 8)), (some (74, true))⟩, ⟨(some 76), (.bin .eql (.tmp 75) (.con (.int .i64 0))), (some (74, true))⟩, ⟨(some 77), (.mov (.tmp 11)), (some (74, true))⟩, ⟨(some 78), (.mov (.tmp 12)), (some (74, true))⟩, ⟨(some 79), (.bin .eql (.tmp 77) (.tmp 78)), (some (74, true))⟩, ⟨(some 80), (.eq .bool false (.tmp 76) (.tmp 79)), (some (74, true))⟩, ⟨(some 81), (.pick (.tmp 74) (.tmp 80) (.con (.bool false))), none⟩, ⟨(some 4), (.mov (.tmp 81)), none⟩]
def doormanlaw12_TupleOrder_c : ACode := (.seq (.ops doormanlaw12_TupleOrder_r0) (.seq (.ops doormanlaw12_TupleOrder_r1) (.seq (.seq (.ops doormanlaw12_TupleOrder_r2) (.cond (.tmp 15) (.seq (.ops doormanlaw12_TupleOrder_r3) .ret) .skip)) (.seq (.ops doormanlaw12_TupleOrder_r4) (.seq (.ops doormanlaw12_TupleOrder_r5) (.seq (.seq (.ops doormanlaw12_TupleOrder_r6) (.cond (.tmp 25) (.seq (.ops doormanlaw12_TupleOrder_r7) .ret) .skip)) (.seq (.ops doormanlaw12_TupleOrder_r8) (.seq (.seq (.ops doormanlaw12_TupleOrder_r9) (.cond (.tmp 41) (.seq (.ops doormanlaw12_TupleOrder_r10) .ret) .skip)) (.seq (.ops doormanlaw12_TupleOrder_r11) (.seq (.ops doormanlaw12_TupleOrder_r12) (.seq (.seq (.ops doormanlaw12_TupleOrder_r13) (.cond (.tmp 63) (.seq (.ops doormanlaw12_TupleOrder_r14) .ret) .skip)) (.seq (.ops doormanlaw12_TupleOrder_r15) (.seq (.ops doormanlaw12_TupleOrder_r16) (.seq (.ops doormanlaw12_TupleOrder_r17) .ret))))))))))))))
def doormanlaw12_TupleOrder_a : AFunc := ⟨82, [(.tmp 4)], doormanlaw12_TupleOrder_c⟩
/-! doormanlaw12_TupleNodes -/
def doormanlaw12_TupleNodes_r0 : List AStep := [⟨(some 3), (.box (.tmp 0)), none⟩, ⟨(some 5), (.box (.tmp 2)), none⟩, ⟨(some 6), (.mov (.con (.bool false))), none⟩]
def doormanlaw12_TupleNodes_r1 : List AStep := [⟨(some 14), (.call (.con (.func n_doormanlaw12_awake [])) []), none⟩, ⟨(some 7), (.mov (.tmp 14)), none⟩]
def doormanlaw12_TupleNodes_r2 : List AStep := [⟨(some 15), (.mov (.tmp 7)), none⟩, ⟨(some 16), (.not (.tmp 15)), none⟩]
def doormanlaw12_TupleNodes_r3 : List AStep := [⟨(some 6), (.mov (.con (.bool false))), none⟩]
def doormanlaw12_TupleNodes_r4 : List AStep := [⟨(some 17), (.load true 3 (.tmp 3)), none⟩, ⟨(some 18), (.load true 3 (.tmp 5)), none⟩, ⟨(some 19), (.build [(.str []), (.str []), (.str []), (.str []), (.str []), (.str [])] [(0, (3, (.tmp 17))), (3, (3, (.tmp 18)))]), none⟩, ⟨(some 20), (.call (.con (.func n_doormanlaw12_few [])) [(.tmp 19)]), none⟩, ⟨(some 8), (.mov (.tmp 20)), none⟩]
def doormanlaw12_TupleNodes_r5 : List AStep := [⟨(some 21), (.mov (.tmp 8)), none⟩, ⟨(some 22), (.not (.tmp 21)), none⟩, ⟨(some 23), (.mov (.tmp 22)), none⟩, ⟨(some 24), (.mov (.tmp 1)), (some (23, false))⟩, ⟨(some 25), (.lenT (.tmp 24)), (some (23, false))⟩, ⟨(some 26), (.bin .gtr (.tmp 25) (.con (.int .i64 300))), (some (23, false))⟩, ⟨(some 27), (.pick (.tmp 23) (.con (.bool true)) (.tmp 26)), none⟩]
def doormanlaw12_TupleNodes_r6 : List AStep := [⟨(some 6), (.mov (.con (.bool true))), none⟩]
def doormanlaw12_TupleNodes_r7 : List AStep := [⟨(some 29), (.load true 3 (.tmp 3)), none⟩, ⟨(some 30), (.call (.con (.func n_tuple_Show [])) [(.tmp 29)]), none⟩, ⟨(some 31), (.call (.con (.func n_tuple_Read [])) [(.tmp 30)]), none⟩, ⟨(some 28), (.mov (.tmp 31)), none⟩, ⟨(some 32), (.extract (.tmp 28) 0), none⟩, ⟨(some 33), (.extract (.tmp 28) 1), none⟩, ⟨(some 9), (.alloc [(.str []), (.str []), (.str [])]), none⟩, ⟨none, (.store 3 (.tmp 9) (.tmp 32)), none⟩, ⟨(some 10), (.mov (.tmp 33)), none⟩]
def doormanlaw12_TupleNodes_r8 : List AStep := [⟨(some 35), (.mov (.tmp 1)), none⟩, ⟨(some 36), (.call (.con (.func n_tuple_Read [])) [(.tmp 35)]), none⟩, ⟨(some 34), (.mov (.tmp 36)), none⟩, ⟨(some 37), (.extract (.tmp 34) 0), none⟩, ⟨(some 38), (.extract (.tmp 34) 1), none⟩, ⟨(some 11), (.alloc [(.str []), (.str []), (.str [])]), none⟩, ⟨none, (.store 3 (.tmp 11) (.tmp 37)), none⟩, ⟨(some 12), (.mov (.tmp 38)), none⟩]
def doormanlaw12_TupleNodes_r9 : List AStep := [⟨(some 39), (.load true 3 (.tmp 3)), none⟩, ⟨(some 40), (.call (.con (.func n_doormanref12_Formed [])) [(.tmp 39)]), none⟩, ⟨(some 13), (.mov (.tmp 40)), none⟩]
def doormanlaw12_TupleNodes_r10 : List AStep := [⟨(some 41), (.mov (.tmp 13)), none⟩, ⟨(some 42), (.mov (.tmp 41)), none⟩, ⟨(some 43), (.mov (.tmp 10)), (some (42, true))⟩, ⟨(some 44), (.bin .neq (.tmp 43) (.con (.int .i64 0))), (some (42, true))⟩, ⟨(some 45), (.mov (.tmp 44)), (some (42, true))⟩, ⟨(some 46), (.load true 3 (.tmp 9)), (some (45, false))⟩, ⟨(some 47), (.load true 3 (.tmp 3)), (some (45, false))⟩, ⟨(some 48), (.eq (.flatK [.s, .s, .s]) true (.tmp 46) (.tmp 47)), (some (45, false))⟩, ⟨(some 49), (.pick (.tmp 45) (.con (.bool true)) (.tmp 48)), (some (42, true))⟩, ⟨(some 50), (.pick (.tmp 42) (.tmp 49) (.con (.bool false))), none⟩, ⟨(some 51), (.mov (.tmp 50)), none⟩, ⟨(some 52), (.mov (.tmp 12)), (some (51, false))⟩, ⟨(some 53), (.bin .eql (.tmp 52) (.con (.int .i64 0))), (some (51, false))⟩, ⟨(some 54), (.mov (.tmp 53)), (some (51, false))⟩, ⟨(some 55), (.load true 3 (.tmp 11)), (some (54, true))⟩, ⟨(some 56), (.call (.con (.func n_tuple_Show [])) [(.tmp 55)]), (some (54, true))⟩, ⟨(some 57), (.mov (.tmp 1)), (some (54, true))⟩, ⟨(some 58), (.bin .neq (.tmp 56) (.tmp 57)), (some (54, true))⟩, ⟨(some 59), (.pick (.tmp 54) (.tmp 58) (.con (.bool false))), (some (51, false))⟩, ⟨(some 60), (.pick (.tmp 51) (.con (.bool true)) (.tmp 59)), none⟩, ⟨(some 61), (.mov (.tmp 60)), none⟩, ⟨(some 62), (.mov (.tmp 12)), (some (61, false))⟩, ⟨(some 63), (.bin .neq (.tmp 62) (.con (.int .i64 0))), (some (61, false))⟩, ⟨(some 64), (.mov (.tmp 63)), (some (61, false))⟩, ⟨(some 65), (.mov (.tmp 12)), (some (64, true))⟩, ⟨(some 66), (.bin .neq (.tmp 65) (.con (.int .i64 11))), (some (64, true))⟩, ⟨(some 67), (.mov (.tmp 66)), (some (64, true))⟩, ⟨(some 68), (.fieldAddr 0 (.tmp 11)), (some (67, false))⟩, ⟨(some 69), (.load false 1 (.tmp 68)), (some (67, false))⟩, ⟨(some 70), (.fieldAddr 1 (.tmp 11)), (some (67, false))⟩, ⟨(some 71), (.load false 1 (.tmp 70)), (some (67, false))⟩, ⟨(some 72), (.bin .add (.tmp 69) (.tmp 71)), (some (67, false))⟩, ⟨(some 73), (.fieldAddr 2 (.tmp 11)), (some (67, false))⟩, ⟨(some 74), (.load false 1 (.tmp 73)), (some (67, false))⟩, ⟨(some 75), (.bin .add (.tmp 72) (.tmp 74)), (some (67, false))⟩, ⟨(some 76), (.bin .neq (.tmp 75) (.con (.str []))), (some (67, false))⟩, ⟨(some 77), (.pick (.tmp 67) (.con (.bool true)) (.tmp 76)), (some (64, true))⟩, ⟨(some 78), (.pick (.tmp 64) (.tmp 77) (.con (.bool false))), (some (61, false))⟩, ⟨(some 79), (.pick (.tmp 61) (.con (.bool true)) (.tmp 78)), none⟩]
def doormanlaw12_TupleNodes_r11 : List AStep := [⟨(some 6), (.mov (.con (.bool false))), none⟩]
def doormanlaw12_TupleNodes_r12 : List DStep := [⟨0, 0, ⟨(some 80), (.load true 3 (.tmp 3)), none⟩⟩, ⟨1, 0, ⟨(some 81), (.load true 3 (.tmp 5)), none⟩⟩, ⟨2, 3, ⟨(some 82), (.build [(.str []), (.str []), (.str []), (.str []), (.str []), (.str [])] [(0, (3, (.tmp 80))), (3, (3, (.tmp 81)))]), none⟩⟩, ⟨4, 0, ⟨(some 84), (.load true 3 (.tmp 3)), none⟩⟩, ⟨7, 0, ⟨(some 87), (.load true 3 (.tmp 5)), none⟩⟩, ⟨3, 7, ⟨(some 83), (.call (.con (.func n_tuple_Text [])) [(.tmp 82)]), none⟩⟩, ⟨5, 31, ⟨(some 85), (.call (.con (.func n_tuple_Show [])) [(.tmp 84)]), none⟩⟩, ⟨6, 63, ⟨(some 86), (.bin .add (.tmp 85) (.con (.str [64]))), none⟩⟩, ⟨8, 191, ⟨(some 88), (.call (.con (.func n_tuple_Show [])) [(.tmp 87)]), none⟩⟩, ⟨9, 511, ⟨(some 89), (.bin .add (.tmp 86) (.tmp 88)), none⟩⟩, ⟨10, 1023, ⟨(some 90), (.bin .eql (.tmp 83) (.tmp 89)), none⟩⟩, ⟨11, 2047, ⟨(some 6), (.mov (.tmp 90)), none⟩⟩]
def doormanlaw12_TupleNodes_c : ACode := (.seq (.ops doormanlaw12_TupleNodes_r0) (.seq (.ops doormanlaw12_TupleNodes_r1) (.seq (.seq (.ops doormanlaw12_TupleNodes_r2) (.cond (.tmp 16) (.seq (.ops doormanlaw12_TupleNodes_r3) .ret) .skip)) (.seq (.ops doormanlaw12_TupleNodes_r4) (.seq (.seq (.ops doormanlaw12_TupleNodes_r5) (.cond (.tmp 27) (.seq (.ops doormanlaw12_TupleNodes_r6) .ret) .skip)) (.seq (.ops doormanlaw12_TupleNodes_r7) (.seq (.ops doormanlaw12_TupleNodes_r8) (.seq (.ops doormanlaw12_TupleNodes_r9) (.seq (.seq (.ops doormanlaw12_TupleNodes_r10) (.cond (.tmp 79) (.seq (.ops doormanlaw12_TupleNodes_r11) .ret) .skip)) (.seq (.draw doormanlaw12_TupleNodes_r12) .ret))))))))))
def doormanlaw12_TupleNodes_a : AFunc := ⟨91, [(.tmp 6)], doormanlaw12_TupleNodes_c⟩
/-! doormanlaw12_TupleLong -/
def doormanlaw12_TupleLong_r0 : List AStep := [⟨(some 4), (.mov (.con (.bool false))), none⟩]
def doormanlaw12_TupleLong_r1 : List AStep := [⟨(some 16), (.call (.con (.func n_doormanlaw12_awake [])) []), none⟩, ⟨(some 5), (.mov (.tmp 16)), none⟩]
def doormanlaw12_TupleLong_r2 : List AStep := [⟨(some 17), (.mov (.tmp 5)), none⟩, ⟨(some 18), (.not (.tmp 17)), none⟩]
def doormanlaw12_TupleLong_r3 : List AStep := [⟨(some 4), (.mov (.con (.bool false))), none⟩]
def doormanlaw12_TupleLong_r4 : List AStep := [⟨(some 19), (.mov (.tmp 1)), none⟩, ⟨(some 20), (.cvInt .i64 (.tmp 19)), none⟩, ⟨(some 21), (.bin .rem (.tmp 20) (.con (.int .i64 30))), none⟩, ⟨(some 6), (.mov (.tmp 21)), none⟩]
def doormanlaw12_TupleLong_r5 : List AStep := [⟨(some 7), (.mov (.con (.str []))), none⟩]
def doormanlaw12_TupleLong_r6 : List AStep := [⟨(some 8), (.mov (.con (.int .i64 0))), none⟩]
def doormanlaw12_TupleLong_r7 : List AStep := [⟨(some 22), (.mov (.tmp 8)), none⟩, ⟨(some 23), (.mov (.tmp 6)), none⟩, ⟨(some 24), (.bin .lss (.tmp 22) (.tmp 23)), none⟩]
def doormanlaw12_TupleLong_r8 : List AStep := [⟨(some 27), (.mov (.tmp 7)), none⟩, ⟨(some 28), (.bin .add (.tmp 27) (.con (.str [195, 169]))), none⟩, ⟨(some 7), (.mov (.tmp 28)), none⟩]
def doormanlaw12_TupleLong_r9 : List AStep := [⟨(some 25), (.mov (.tmp 8)), none⟩, ⟨(some 26), (.bin .add (.tmp 25) (.con (.int .i64 1))), none⟩, ⟨(some 8), (.mov (.tmp 26)), none⟩]
def doormanlaw12_TupleLong_l10 : ACode := (.seq (.seq (.ops doormanlaw12_TupleLong_r7) (.cond (.tmp 24) .skip (.exit 0))) (.seq (.block 1 (.ops doormanlaw12_TupleLong_r8)) (.ops doormanlaw12_TupleLong_r9)))
def doormanlaw12_TupleLong_r11 : List AStep := [⟨(some 29), (.buildSlice 1 6 [(.str [])] [(0, (1, (.con (.str [100, 111, 99])))), (1, (1, (.con (.str [49])))), (2, (1, (.con (.str [111, 119, 110])))), (3, (1, (.con (.str [117, 115, 101, 114])))), (4, (1, (.con (.str [97])))), (5, (1, (.con (.str [105, 110]))))]), none⟩, ⟨(some 9), (.mov (.tmp 29)), none⟩]
def doormanlaw12_TupleLong_r12 : List AStep := [⟨(some 30), (.mov (.tmp 9)), none⟩, ⟨(some 31), (.mov (.tmp 0)), none⟩, ⟨(some 32), (.cvInt .i64 (.tmp 31)), none⟩, ⟨(some 33), (.bin .rem (.tmp 32) (.con (.int .i64 6))), none⟩, ⟨(some 34), (.mov (.tmp 7)), none⟩, ⟨(some 35), (.indexAddr 1 (.tmp 30) (.tmp 33)), none⟩, ⟨none, (.store 1 (.tmp 35) (.tmp 34)), none⟩]
def doormanlaw12_TupleLong_r13 : List DStep := [⟨0, 0, ⟨(some 36), (.mov (.tmp 9)), none⟩⟩, ⟨1, 1, ⟨(some 37), (.indexAddr 1 (.tmp 36) (.con (.int .i64 0))), none⟩⟩, ⟨2, 3, ⟨(some 38), (.load false 1 (.tmp 37)), none⟩⟩, ⟨3, 0, ⟨(some 39), (.mov (.tmp 9)), none⟩⟩, ⟨4, 8, ⟨(some 40), (.indexAddr 1 (.tmp 39) (.con (.int .i64 1))), none⟩⟩, ⟨5, 24, ⟨(some 41), (.load false 1 (.tmp 40)), none⟩⟩, ⟨6, 0, ⟨(some 42), (.mov (.tmp 9)), none⟩⟩, ⟨7, 64, ⟨(some 43), (.indexAddr 1 (.tmp 42) (.con (.int .i64 2))), none⟩⟩, ⟨8, 192, ⟨(some 44), (.load false 1 (.tmp 43)), none⟩⟩, ⟨9, 511, ⟨(some 45), (.build [(.str []), (.str []), (.str [])] [(0, (1, (.tmp 38))), (1, (1, (.tmp 41))), (2, (1, (.tmp 44)))]), none⟩⟩, ⟨10, 0, ⟨(some 46), (.mov (.tmp 9)), none⟩⟩, ⟨11, 1024, ⟨(some 47), (.indexAddr 1 (.tmp 46) (.con (.int .i64 3))), none⟩⟩, ⟨12, 3072, ⟨(some 48), (.load false 1 (.tmp 47)), none⟩⟩, ⟨13, 0, ⟨(some 49), (.mov (.tmp 9)), none⟩⟩, ⟨14, 8192, ⟨(some 50), (.indexAddr 1 (.tmp 49) (.con (.int .i64 4))), none⟩⟩, ⟨15, 24576, ⟨(some 51), (.load false 1 (.tmp 50)), none⟩⟩, ⟨16, 0, ⟨(some 52), (.mov (.tmp 9)), none⟩⟩, ⟨17, 65536, ⟨(some 53), (.indexAddr 1 (.tmp 52) (.con (.int .i64 5))), none⟩⟩, ⟨18, 196608, ⟨(some 54), (.load false 1 (.tmp 53)), none⟩⟩, ⟨19, 523264, ⟨(some 55), (.build [(.str []), (.str []), (.str [])] [(0, (1, (.tmp 48))), (1, (1, (.tmp 51))), (2, (1, (.tmp 54)))]), none⟩⟩, ⟨20, 1048575, ⟨(some 56), (.build [(.str []), (.str []), (.str []), (.str []), (.str []), (.str [])] [(0, (3, (.tmp 45))), (3, (3, (.tmp 55)))]), none⟩⟩, ⟨21, 0, ⟨(some 10), (.alloc [(.str []), (.str []), (.str []), (.str []), (.str []), (.str [])]), none⟩⟩, ⟨22, 4194303, ⟨none, (.store 6 (.tmp 10) (.tmp 56)), none⟩⟩]
def doormanlaw12_TupleLong_r14 : List AStep := [⟨(some 58), (.load true 6 (.tmp 10)), none⟩, ⟨(some 59), (.call (.con (.func n_tuple_Text [])) [(.tmp 58)]), none⟩, ⟨(some 60), (.call (.con (.func n_tuple_Parse [])) [(.tmp 59)]), none⟩, ⟨(some 57), (.mov (.tmp 60)), none⟩, ⟨(some 61), (.extract (.tmp 57) 0), none⟩, ⟨(some 62), (.extract (.tmp 57) 1), none⟩, ⟨(some 11), (.alloc [(.str []), (.str []), (.str []), (.str []), (.str []), (.str [])]), none⟩, ⟨none, (.store 6 (.tmp 11) (.tmp 61)), none⟩, ⟨(some 12), (.mov (.tmp 62)), none⟩]
def doormanlaw12_TupleLong_r15 : List AStep := [⟨(some 64), (.load true 6 (.tmp 10)), none⟩, ⟨(some 65), (.call (.con (.func n_tuple_Key [])) [(.tmp 64)]), none⟩, ⟨(some 66), (.call (.con (.func n_tuple_From [])) [(.tmp 65)]), none⟩, ⟨(some 63), (.mov (.tmp 66)), none⟩, ⟨(some 67), (.extract (.tmp 63) 0), none⟩, ⟨(some 68), (.extract (.tmp 63) 1), none⟩, ⟨(some 13), (.alloc [(.str []), (.str []), (.str []), (.str []), (.str []), (.str [])]), none⟩, ⟨none, (.store 6 (.tmp 13) (.tmp 67)), none⟩, ⟨(some 14), (.mov (.tmp 68)), none⟩]
def doormanlaw12_TupleLong_r16 : List AStep := [⟨(some 69), (.mov (.tmp 6)), none⟩, ⟨(some 70), (.bin .leq (.tmp 69) (.con (.int .i64 24))), none⟩, ⟨(some 71), (.mov (.tmp 70)), none⟩, ⟨(some 72), (.mov (.tmp 6)), (some (71, true))⟩, ⟨(some 73), (.bin .gtr (.tmp 72) (.con (.int .i64 0))), (some (71, true))⟩, ⟨(some 74), (.mov (.tmp 73)), (some (71, true))⟩, ⟨(some 75), (.mov (.tmp 0)), (some (74, false))⟩, ⟨(some 76), (.cvInt .i64 (.tmp 75)), (some (74, false))⟩, ⟨(some 77), (.bin .rem (.tmp 76) (.con (.int .i64 6))), (some (74, false))⟩, ⟨(some 78), (.bin .eql (.tmp 77) (.con (.int .i64 5))), (some (74, false))⟩, ⟨(some 79), (.pick (.tmp 74) (.con (.bool true)) (.tmp 78)), (some (71, true))⟩, ⟨(some 80), (.pick (.tmp 71) (.tmp 79) (.con (.bool false))), none⟩, ⟨(some 15), (.mov (.tmp 80)), none⟩]
def doormanlaw12_TupleLong_r17 : List AStep := [⟨(some 81), (.mov (.tmp 15)), none⟩]
def doormanlaw12_TupleLong_r18 : List AStep := [⟨(some 82), (.mov (.tmp 12)), none⟩, ⟨(some 83), (.bin .eql (.tmp 82) (.con (.int .i64 0))), none⟩, ⟨(some 84), (.mov (.tmp 83)), none⟩, ⟨(some 85), (.load true 6 (.tmp 11)), (some (84, true))⟩, ⟨(some 86), (.load true 6 (.tmp 10)), (some (84, true))⟩, ⟨(some 87), (.eq (.flatK [.s, .s, .s, .s, .s, .s]) false (.tmp 85) (.tmp 86)), (some (84, true))⟩, ⟨(some 88), (.pick (.tmp 84) (.tmp 87) (.con (.bool false))), none⟩, ⟨(some 89), (.mov (.tmp 88)), none⟩, ⟨(some 90), (.mov (.tmp 14)), (some (89, true))⟩, ⟨(some 91), (.pick (.tmp 89) (.tmp 90) (.con (.bool false))), none⟩, ⟨(some 92), (.mov (.tmp 91)), none⟩, ⟨(some 93), (.load true 6 (.tmp 13)), (some (92, true))⟩, ⟨(some 94), (.load true 6 (.tmp 10)), (some (92, true))⟩, ⟨(some 95), (.eq (.flatK [.s, .s, .s, .s, .s, .s]) false (.tmp 93) (.tmp 94)), (some (92, true))⟩, ⟨(some 96), (.pick (.tmp 92) (.tmp 95) (.con (.bool false))), none⟩, ⟨(some 4), (.mov (.tmp 96)), none⟩]
def doormanlaw12_TupleLong_r19 : List AStep := [⟨(some 97), (.mov (.tmp 12)), none⟩, ⟨(some 98), (.bin .eql (.tmp 97) (.con (.int .i64 11))), none⟩, ⟨(some 99), (.mov (.tmp 98)), none⟩, ⟨(some 100), (.mov (.tmp 14)), (some (99, true))⟩, ⟨(some 101), (.not (.tmp 100)), (some (99, true))⟩, ⟨(some 102), (.pick (.tmp 99) (.tmp 101) (.con (.bool false))), none⟩, ⟨(some 4), (.mov (.tmp 102)), none⟩]
def doormanlaw12_TupleLong_c : ACode := (.seq (.ops doormanlaw12_TupleLong_r0) (.seq (.ops doormanlaw12_TupleLong_r1) (.seq (.seq (.ops doormanlaw12_TupleLong_r2) (.cond (.tmp 18) (.seq (.ops doormanlaw12_TupleLong_r3) .ret) .skip)) (.seq (.ops doormanlaw12_TupleLong_r4) (.seq (.ops doormanlaw12_TupleLong_r5) (.seq (.seq (.ops doormanlaw12_TupleLong_r6) (.block 0 (.loop doormanlaw12_TupleLong_l10))) (.seq (.ops doormanlaw12_TupleLong_r11) (.seq (.ops doormanlaw12_TupleLong_r12) (.seq (.draw doormanlaw12_TupleLong_r13) (.seq (.ops doormanlaw12_TupleLong_r14) (.seq (.ops doormanlaw12_TupleLong_r15) (.seq (.ops doormanlaw12_TupleLong_r16) (.seq (.seq (.ops doormanlaw12_TupleLong_r17) (.cond (.tmp 81) (.seq (.ops doormanlaw12_TupleLong_r18) .ret) .skip)) (.seq (.ops doormanlaw12_TupleLong_r19) .ret))))))))))))))
def doormanlaw12_TupleLong_a : AFunc := ⟨103, [(.tmp 4)], doormanlaw12_TupleLong_c⟩
/-! doormanlaw12_few -/
def doormanlaw12_few_r0 : List AStep := [⟨(some 1), (.box (.tmp 0)), none⟩, ⟨(some 2), (.mov (.con (.bool false))), none⟩]
def doormanlaw12_few_r1 : List AStep := [⟨(some 5), (.load true 6 (.tmp 1)), none⟩, ⟨(some 6), (.call (.con (.func n_doormanref12_Names [])) [(.tmp 5)]), none⟩, ⟨(some 3), (.mov (.tmp 6)), none⟩]
def doormanlaw12_few_r2 : List AStep := [⟨(some 4), (.mov (.con (.int .i64 0))), none⟩]
def doormanlaw12_few_r3 : List AStep := [⟨(some 7), (.mov (.tmp 4)), none⟩, ⟨(some 8), (.bin .lss (.tmp 7) (.con (.int .i64 6))), none⟩]
def doormanlaw12_few_r4 : List AStep := [⟨(some 11), (.mov (.tmp 3)), none⟩, ⟨(some 12), (.mov (.tmp 4)), none⟩, ⟨(some 13), (.indexAddr 1 (.tmp 11) (.tmp 12)), none⟩, ⟨(some 14), (.load false 1 (.tmp 13)), none⟩, ⟨(some 15), (.lenT (.tmp 14)), none⟩, ⟨(some 16), (.bin .gtr (.tmp 15) (.con (.int .i64 120))), none⟩]
def doormanlaw12_few_r5 : List AStep := [⟨(some 2), (.mov (.con (.bool false))), none⟩]
def doormanlaw12_few_r6 : List AStep := [⟨(some 9), (.mov (.tmp 4)), none⟩, ⟨(some 10), (.bin .add (.tmp 9) (.con (.int .i64 1))), none⟩, ⟨(some 4), (.mov (.tmp 10)), none⟩]
def doormanlaw12_few_l7 : ACode := (.seq (.seq (.ops doormanlaw12_few_r3) (.cond (.tmp 8) .skip (.exit 0))) (.seq (.block 1 (.seq (.ops doormanlaw12_few_r4) (.cond (.tmp 16) (.seq (.ops doormanlaw12_few_r5) .ret) .skip))) (.ops doormanlaw12_few_r6)))
def doormanlaw12_few_r8 : List AStep := [⟨(some 2), (.mov (.con (.bool true))), none⟩]
def doormanlaw12_few_c : ACode := (.seq (.ops doormanlaw12_few_r0) (.seq (.ops doormanlaw12_few_r1) (.seq (.seq (.ops doormanlaw12_few_r2) (.block 0 (.loop doormanlaw12_few_l7))) (.seq (.ops doormanlaw12_few_r8) .ret))))
def doormanlaw12_few_a : AFunc := ⟨17, [(.tmp 2)], doormanlaw12_few_c⟩
/-! tuple_Read -/
def tuple_Read_r0 : List AStep := [⟨(some 2), (.alloc [(.str []), (.str []), (.str [])]), none⟩, ⟨(some 3), (.mov (.con (.int .i64 0))), none⟩]
def tuple_Read_r1 : List AStep := [⟨(some 12), (.mov (.tmp 0)), none⟩, ⟨(some 13), (.call (.con (.func n_strings_Cut [])) [(.tmp 12), (.con (.str [35]))]), none⟩, ⟨(some 11), (.mov (.tmp 13)), none⟩, ⟨(some 14), (.extract (.tmp 11) 0), none⟩, ⟨(some 15), (.extract (.tmp 11) 1), none⟩, ⟨(some 16), (.extract (.tmp 11) 2), none⟩, ⟨(some 4), (.mov (.tmp 14)), none⟩, ⟨(some 5), (.mov (.tmp 15)), none⟩, ⟨(some 6), (.mov (.tmp 16)), none⟩]
def tuple_Read_r2 : List AStep := [⟨(some 18), (.mov (.tmp 4)), none⟩, ⟨(some 19), (.call (.con (.func n_strings_Cut [])) [(.tmp 18), (.con (.str [58]))]), none⟩, ⟨(some 17), (.mov (.tmp 19)), none⟩, ⟨(some 20), (.extract (.tmp 17) 0), none⟩, ⟨(some 21), (.extract (.tmp 17) 1), none⟩, ⟨(some 22), (.extract (.tmp 17) 2), none⟩, ⟨(some 7), (.mov (.tmp 20)), none⟩, ⟨(some 8), (.mov (.tmp 21)), none⟩, ⟨(some 9), (.mov (.tmp 22)), none⟩]
def tuple_Read_r3 : List AStep := [⟨(some 23), (.mov (.tmp 7)), none⟩, ⟨(some 24), (.mov (.tmp 8)), none⟩, ⟨(some 25), (.mov (.tmp 5)), none⟩, ⟨(some 26), (.build [(.str []), (.str []), (.str [])] [(0, (1, (.tmp 23))), (1, (1, (.tmp 24))), (2, (1, (.tmp 25)))]), none⟩, ⟨(some 10), (.alloc [(.str []), (.str []), (.str [])]), none⟩, ⟨none, (.store 3 (.tmp 10) (.tmp 26)), none⟩]
def tuple_Read_r4 : List AStep := [⟨(some 27), (.load true 3 (.tmp 10)), none⟩, ⟨(some 28), (.call (.con (.func n_tuple_formed [])) [(.tmp 27)]), none⟩, ⟨(some 29), (.not (.tmp 28)), none⟩, ⟨(some 30), (.mov (.tmp 29)), none⟩, ⟨(some 31), (.load true 3 (.tmp 10)), (some (30, false))⟩, ⟨(some 32), (.call (.con (.func n_tuple_Show [])) [(.tmp 31)]), (some (30, false))⟩, ⟨(some 33), (.mov (.tmp 0)), (some (30, false))⟩, ⟨(some 34), (.bin .neq (.tmp 32) (.tmp 33)), (some (30, false))⟩, ⟨(some 35), (.pick (.tmp 30) (.con (.bool true)) (.tmp 34)), none⟩]
def tuple_Read_r5 : List AStep := [⟨(some 36), (.build [(.str []), (.str []), (.str [])] []), none⟩, ⟨none, (.store 3 (.tmp 2) (.tmp 36)), none⟩, ⟨(some 3), (.mov (.con (.int .i64 11))), none⟩]
def tuple_Read_r6 : List AStep := [⟨(some 37), (.load true 3 (.tmp 10)), none⟩, ⟨none, (.store 3 (.tmp 2) (.tmp 37)), none⟩, ⟨(some 3), (.mov (.con (.int .i64 0))), none⟩]
def tuple_Read_c : ACode := (.seq (.ops tuple_Read_r0) (.seq (.ops tuple_Read_r1) (.seq (.ops tuple_Read_r2) (.seq (.ops tuple_Read_r3) (.seq (.seq (.ops tuple_Read_r4) (.cond (.tmp 35) (.seq (.ops tuple_Read_r5) .ret) .skip)) (.seq (.ops tuple_Read_r6) .ret))))))
def tuple_Read_a : AFunc := ⟨38, [(.cell 2 true 3), (.tmp 3)], tuple_Read_c⟩
/-! doormanref12_Read -/
def doormanref12_Read_r0 : List AStep := [⟨(some 2), (.alloc [(.str []), (.str []), (.str [])]), none⟩, ⟨(some 3), (.mov (.con (.int .i64 0))), none⟩]
def doormanref12_Read_r1 : List AStep := [⟨(some 11), (.mov (.tmp 0)), none⟩, ⟨(some 12), (.call (.con (.func n_doormanref12_cut [])) [(.tmp 11), (.con (.int .u8 35))]), none⟩, ⟨(some 10), (.mov (.tmp 12)), none⟩, ⟨(some 13), (.extract (.tmp 10) 0), none⟩, ⟨(some 14), (.extract (.tmp 10) 1), none⟩, ⟨(some 4), (.mov (.tmp 13)), none⟩, ⟨(some 5), (.mov (.tmp 14)), none⟩]
def doormanref12_Read_r2 : List AStep := [⟨(some 16), (.mov (.tmp 4)), none⟩, ⟨(some 17), (.call (.con (.func n_doormanref12_cut [])) [(.tmp 16), (.con (.int .u8 58))]), none⟩, ⟨(some 15), (.mov (.tmp 17)), none⟩, ⟨(some 18), (.extract (.tmp 15) 0), none⟩, ⟨(some 19), (.extract (.tmp 15) 1), none⟩, ⟨(some 6), (.mov (.tmp 18)), none⟩, ⟨(some 7), (.mov (.tmp 19)), none⟩]
def doormanref12_Read_r3 : List AStep := [⟨(some 20), (.mov (.tmp 6)), none⟩, ⟨(some 21), (.mov (.tmp 7)), none⟩, ⟨(some 22), (.mov (.tmp 5)), none⟩, ⟨(some 23), (.build [(.str []), (.str []), (.str [])] [(0, (1, (.tmp 20))), (1, (1, (.tmp 21))), (2, (1, (.tmp 22)))]), none⟩, ⟨(some 8), (.alloc [(.str []), (.str []), (.str [])]), none⟩, ⟨none, (.store 3 (.tmp 8) (.tmp 23)), none⟩]
def doormanref12_Read_r4 : List AStep := [⟨(some 24), (.load true 3 (.tmp 8)), none⟩, ⟨(some 25), (.call (.con (.func n_doormanref12_Formed [])) [(.tmp 24)]), none⟩, ⟨(some 9), (.mov (.tmp 25)), none⟩]
def doormanref12_Read_r5 : List AStep := [⟨(some 26), (.mov (.tmp 9)), none⟩, ⟨(some 27), (.not (.tmp 26)), none⟩, ⟨(some 28), (.mov (.tmp 27)), none⟩, ⟨(some 29), (.load true 3 (.tmp 8)), (some (28, false))⟩, ⟨(some 30), (.call (.con (.func n_doormanref12_Show [])) [(.tmp 29)]), (some (28, false))⟩, ⟨(some 31), (.mov (.tmp 0)), (some (28, false))⟩, ⟨(some 32), (.bin .neq (.tmp 30) (.tmp 31)), (some (28, false))⟩, ⟨(some 33), (.pick (.tmp 28) (.con (.bool true)) (.tmp 32)), none⟩]
def doormanref12_Read_r6 : List AStep := [⟨(some 34), (.build [(.str []), (.str []), (.str [])] []), none⟩, ⟨none, (.store 3 (.tmp 2) (.tmp 34)), none⟩, ⟨(some 3), (.mov (.con (.int .i64 11))), none⟩]
def doormanref12_Read_r7 : List AStep := [⟨(some 35), (.load true 3 (.tmp 8)), none⟩, ⟨none, (.store 3 (.tmp 2) (.tmp 35)), none⟩, ⟨(some 3), (.mov (.con (.int .i64 0))), none⟩]
def doormanref12_Read_c : ACode := (.seq (.ops doormanref12_Read_r0) (.seq (.ops doormanref12_Read_r1) (.seq (.ops doormanref12_Read_r2) (.seq (.ops doormanref12_Read_r3) (.seq (.ops doormanref12_Read_r4) (.seq (.seq (.ops doormanref12_Read_r5) (.cond (.tmp 33) (.seq (.ops doormanref12_Read_r6) .ret) .skip)) (.seq (.ops doormanref12_Read_r7) .ret)))))))
def doormanref12_Read_a : AFunc := ⟨36, [(.cell 2 true 3), (.tmp 3)], doormanref12_Read_c⟩
/-! tuple_Parse -/
def tuple_Parse_r0 : List AStep := [⟨(some 2), (.alloc [(.str []), (.str []), (.str []), (.str []), (.str []), (.str [])]), none⟩, ⟨(some 3), (.mov (.con (.int .i64 0))), none⟩]
def tuple_Parse_r1 : List AStep := [⟨(some 13), (.mov (.tmp 0)), none⟩, ⟨(some 14), (.call (.con (.func n_strings_Cut [])) [(.tmp 13), (.con (.str [64]))]), none⟩, ⟨(some 12), (.mov (.tmp 14)), none⟩, ⟨(some 15), (.extract (.tmp 12) 0), none⟩, ⟨(some 16), (.extract (.tmp 12) 1), none⟩, ⟨(some 17), (.extract (.tmp 12) 2), none⟩, ⟨(some 4), (.mov (.tmp 15)), none⟩, ⟨(some 5), (.mov (.tmp 16)), none⟩, ⟨(some 6), (.mov (.tmp 17)), none⟩]
def tuple_Parse_r2 : List AStep := [⟨(some 19), (.mov (.tmp 4)), none⟩, ⟨(some 20), (.call (.con (.func n_tuple_Read [])) [(.tmp 19)]), none⟩, ⟨(some 18), (.mov (.tmp 20)), none⟩, ⟨(some 21), (.extract (.tmp 18) 0), none⟩, ⟨(some 22), (.extract (.tmp 18) 1), none⟩, ⟨(some 7), (.alloc [(.str []), (.str []), (.str [])]), none⟩, ⟨none, (.store 3 (.tmp 7) (.tmp 21)), none⟩, ⟨(some 8), (.mov (.tmp 22)), none⟩]
def tuple_Parse_r3 : List AStep := [⟨(some 24), (.mov (.tmp 5)), none⟩, ⟨(some 25), (.call (.con (.func n_tuple_Read [])) [(.tmp 24)]), none⟩, ⟨(some 23), (.mov (.tmp 25)), none⟩, ⟨(some 26), (.extract (.tmp 23) 0), none⟩, ⟨(some 27), (.extract (.tmp 23) 1), none⟩, ⟨(some 9), (.alloc [(.str []), (.str []), (.str [])]), none⟩, ⟨none, (.store 3 (.tmp 9) (.tmp 26)), none⟩, ⟨(some 10), (.mov (.tmp 27)), none⟩]
def tuple_Parse_r4 : List AStep := [⟨(some 28), (.load true 3 (.tmp 7)), none⟩, ⟨(some 29), (.load true 3 (.tmp 9)), none⟩, ⟨(some 30), (.build [(.str []), (.str []), (.str []), (.str []), (.str []), (.str [])] [(0, (3, (.tmp 28))), (3, (3, (.tmp 29)))]), none⟩, ⟨(some 11), (.alloc [(.str []), (.str []), (.str []), (.str []), (.str []), (.str [])]), none⟩, ⟨none, (.store 6 (.tmp 11) (.tmp 30)), none⟩]
def tuple_Parse_r5 : List AStep := [⟨(some 31), (.mov (.tmp 8)), none⟩, ⟨(some 32), (.bin .neq (.tmp 31) (.con (.int .i64 0))), none⟩, ⟨(some 33), (.mov (.tmp 32)), none⟩, ⟨(some 34), (.mov (.tmp 10)), (some (33, false))⟩, ⟨(some 35), (.bin .neq (.tmp 34) (.con (.int .i64 0))), (some (33, false))⟩, ⟨(some 36), (.pick (.tmp 33) (.con (.bool true)) (.tmp 35)), none⟩, ⟨(some 37), (.mov (.tmp 36)), none⟩, ⟨(some 38), (.fieldAddr 2 (.tmp 7)), (some (37, false))⟩, ⟨(some 39), (.load false 1 (.tmp 38)), (some (37, false))⟩, ⟨(some 40), (.bin .eql (.tmp 39) (.con (.str []))), (some (37, false))⟩, ⟨(some 41), (.pick (.tmp 37) (.con (.bool true)) (.tmp 40)), none⟩]
def tuple_Parse_r6 : List AStep := [⟨(some 42), (.build [(.str []), (.str []), (.str []), (.str []), (.str []), (.str [])] []), none⟩, ⟨none, (.store 6 (.tmp 2) (.tmp 42)), none⟩, ⟨(some 3), (.mov (.con (.int .i64 11))), none⟩]
def tuple_Parse_r7 : List AStep := [⟨(some 43), (.load true 6 (.tmp 11)), none⟩, ⟨none, (.store 6 (.tmp 2) (.tmp 43)), none⟩, ⟨(some 3), (.mov (.con (.int .i64 0))), none⟩]
def tuple_Parse_c : ACode := (.seq (.ops tuple_Parse_r0) (.seq (.ops tuple_Parse_r1) (.seq (.ops tuple_Parse_r2) (.seq (.ops tuple_Parse_r3) (.seq (.ops tuple_Parse_r4) (.seq (.seq (.ops tuple_Parse_r5) (.cond (.tmp 41) (.seq (.ops tuple_Parse_r6) .ret) .skip)) (.seq (.ops tuple_Parse_r7) .ret)))))))
def tuple_Parse_a : AFunc := ⟨44, [(.cell 2 true 6), (.tmp 3)], tuple_Parse_c⟩
/-! doormanref12_Parse -/
def doormanref12_Parse_r0 : List AStep := [⟨(some 2), (.alloc [(.str []), (.str []), (.str []), (.str []), (.str []), (.str [])]), none⟩, ⟨(some 3), (.mov (.con (.int .i64 0))), none⟩]
def doormanref12_Parse_r1 : List AStep := [⟨(some 11), (.mov (.tmp 0)), none⟩, ⟨(some 12), (.call (.con (.func n_doormanref12_cut [])) [(.tmp 11), (.con (.int .u8 64))]), none⟩, ⟨(some 10), (.mov (.tmp 12)), none⟩, ⟨(some 13), (.extract (.tmp 10) 0), none⟩, ⟨(some 14), (.extract (.tmp 10) 1), none⟩, ⟨(some 4), (.mov (.tmp 13)), none⟩, ⟨(some 5), (.mov (.tmp 14)), none⟩]
def doormanref12_Parse_r2 : List AStep := [⟨(some 16), (.mov (.tmp 4)), none⟩, ⟨(some 17), (.call (.con (.func n_doormanref12_Read [])) [(.tmp 16)]), none⟩, ⟨(some 15), (.mov (.tmp 17)), none⟩, ⟨(some 18), (.extract (.tmp 15) 0), none⟩, ⟨(some 19), (.extract (.tmp 15) 1), none⟩, ⟨(some 6), (.alloc [(.str []), (.str []), (.str [])]), none⟩, ⟨none, (.store 3 (.tmp 6) (.tmp 18)), none⟩, ⟨(some 7), (.mov (.tmp 19)), none⟩]
def doormanref12_Parse_r3 : List AStep := [⟨(some 21), (.mov (.tmp 5)), none⟩, ⟨(some 22), (.call (.con (.func n_doormanref12_Read [])) [(.tmp 21)]), none⟩, ⟨(some 20), (.mov (.tmp 22)), none⟩, ⟨(some 23), (.extract (.tmp 20) 0), none⟩, ⟨(some 24), (.extract (.tmp 20) 1), none⟩, ⟨(some 8), (.alloc [(.str []), (.str []), (.str [])]), none⟩, ⟨none, (.store 3 (.tmp 8) (.tmp 23)), none⟩, ⟨(some 9), (.mov (.tmp 24)), none⟩]
def doormanref12_Parse_r4 : List AStep := [⟨(some 25), (.mov (.tmp 7)), none⟩, ⟨(some 26), (.bin .neq (.tmp 25) (.con (.int .i64 0))), none⟩, ⟨(some 27), (.mov (.tmp 26)), none⟩, ⟨(some 28), (.mov (.tmp 9)), (some (27, false))⟩, ⟨(some 29), (.bin .neq (.tmp 28) (.con (.int .i64 0))), (some (27, false))⟩, ⟨(some 30), (.pick (.tmp 27) (.con (.bool true)) (.tmp 29)), none⟩, ⟨(some 31), (.mov (.tmp 30)), none⟩, ⟨(some 32), (.fieldAddr 2 (.tmp 6)), (some (31, false))⟩, ⟨(some 33), (.load false 1 (.tmp 32)), (some (31, false))⟩, ⟨(some 34), (.bin .eql (.tmp 33) (.con (.str []))), (some (31, false))⟩, ⟨(some 35), (.pick (.tmp 31) (.con (.bool true)) (.tmp 34)), none⟩]
def doormanref12_Parse_r5 : List AStep := [⟨(some 36), (.build [(.str []), (.str []), (.str []), (.str []), (.str []), (.str [])] []), none⟩, ⟨none, (.store 6 (.tmp 2) (.tmp 36)), none⟩, ⟨(some 3), (.mov (.con (.int .i64 11))), none⟩]
def doormanref12_Parse_r6 : List AStep := [⟨(some 37), (.load true 3 (.tmp 6)), none⟩, ⟨(some 38), (.load true 3 (.tmp 8)), none⟩, ⟨(some 39), (.build [(.str []), (.str []), (.str []), (.str []), (.str []), (.str [])] [(0, (3, (.tmp 37))), (3, (3, (.tmp 38)))]), none⟩, ⟨none, (.store 6 (.tmp 2) (.tmp 39)), none⟩, ⟨(some 3), (.mov (.con (.int .i64 0))), none⟩]
def doormanref12_Parse_c : ACode := (.seq (.ops doormanref12_Parse_r0) (.seq (.ops doormanref12_Parse_r1) (.seq (.ops doormanref12_Parse_r2) (.seq (.ops doormanref12_Parse_r3) (.seq (.seq (.ops doormanref12_Parse_r4) (.cond (.tmp 35) (.seq (.ops doormanref12_Parse_r5) .ret) .skip)) (.seq (.ops doormanref12_Parse_r6) .ret))))))
def doormanref12_Parse_a : AFunc := ⟨40, [(.cell 2 true 6), (.tmp 3)], doormanref12_Parse_c⟩
/-! tuple_From -/
def tuple_From_r0 : List AStep := [⟨(some 2), (.alloc [(.str []), (.str []), (.str []), (.str []), (.str []), (.str [])]), none⟩, ⟨(some 3), (.mov (.con (.bool false))), none⟩]
def tuple_From_r1 : List AStep := [⟨(some 6), (.mov (.tmp 0)), none⟩, ⟨(some 7), (.call (.con (.func n_strings_Split [])) [(.tmp 6), (.con (.str [0]))]), none⟩, ⟨(some 4), (.mov (.tmp 7)), none⟩]
def tuple_From_r2 : List AStep := [⟨(some 5), (.alloc [(.str []), (.str []), (.str []), (.str []), (.str []), (.str [])]), none⟩]
def tuple_From_r3 : List AStep := [⟨(some 8), (.sliceA 1 6 (.tmp 5) none none), none⟩, ⟨(some 9), (.mov (.tmp 4)), none⟩, ⟨(some 10), (.copy 1 (.tmp 8) (.tmp 9)), none⟩, ⟨(some 11), (.mov (.tmp 4)), none⟩, ⟨(some 12), (.len (.tmp 11)), none⟩, ⟨(some 13), (.bin .neq (.tmp 10) (.tmp 12)), none⟩, ⟨(some 14), (.mov (.tmp 13)), none⟩, ⟨(some 15), (.load true 6 (.tmp 5)), (some (14, false))⟩, ⟨(some 16), (.call (.con (.func n_tuple_names_formed [])) [(.tmp 15)]), (some (14, false))⟩, ⟨(some 17), (.not (.tmp 16)), (some (14, false))⟩, ⟨(some 18), (.pick (.tmp 14) (.con (.bool true)) (.tmp 17)), none⟩, ⟨(some 19), (.mov (.tmp 18)), none⟩, ⟨(some 20), (.load true 6 (.tmp 5)), (some (19, false))⟩, ⟨(some 21), (.call (.con (.func n_tuple_names_tuple [])) [(.tmp 20)]), (some (19, false))⟩, ⟨(some 22), (.call (.con (.func n_tuple_Key [])) [(.tmp 21)]), (some (19, false))⟩, ⟨(some 23), (.mov (.tmp 0)), (some (19, false))⟩, ⟨(some 24), (.bin .neq (.tmp 22) (.tmp 23)), (some (19, false))⟩, ⟨(some 25), (.pick (.tmp 19) (.con (.bool true)) (.tmp 24)), none⟩]
def tuple_From_r4 : List AStep := [⟨(some 26), (.build [(.str []), (.str []), (.str []), (.str []), (.str []), (.str [])] []), none⟩, ⟨none, (.store 6 (.tmp 2) (.tmp 26)), none⟩, ⟨(some 3), (.mov (.con (.bool false))), none⟩]
def tuple_From_r5 : List AStep := [⟨(some 27), (.load true 6 (.tmp 5)), none⟩, ⟨(some 28), (.call (.con (.func n_tuple_names_tuple [])) [(.tmp 27)]), none⟩, ⟨none, (.store 6 (.tmp 2) (.tmp 28)), none⟩, ⟨(some 3), (.mov (.con (.bool true))), none⟩]
def tuple_From_c : ACode := (.seq (.ops tuple_From_r0) (.seq (.ops tuple_From_r1) (.seq (.ops tuple_From_r2) (.seq (.seq (.ops tuple_From_r3) (.cond (.tmp 25) (.seq (.ops tuple_From_r4) .ret) .skip)) (.seq (.ops tuple_From_r5) .ret)))))
def tuple_From_a : AFunc := ⟨29, [(.cell 2 true 6), (.tmp 3)], tuple_From_c⟩
/-! doormanref12_From -/
def doormanref12_From_r0 : List AStep := [⟨(some 2), (.alloc [(.str []), (.str []), (.str []), (.str []), (.str []), (.str [])]), none⟩, ⟨(some 3), (.mov (.con (.bool false))), none⟩]
def doormanref12_From_r1 : List AStep := [⟨(some 4), (.mov (.con .nils)), none⟩]
def doormanref12_From_r2 : List AStep := [⟨(some 12), (.mov (.tmp 0)), none⟩, ⟨(some 5), (.mov (.tmp 12)), none⟩]
def doormanref12_From_r3 : List AStep := [⟨(some 6), (.mov (.con (.int .i64 0))), none⟩]
def doormanref12_From_r4 : List AStep := [⟨(some 13), (.mov (.tmp 6)), none⟩, ⟨(some 14), (.bin .lss (.tmp 13) (.con (.int .i64 5))), none⟩]
def doormanref12_From_r5 : List AStep := [⟨(some 18), (.mov (.tmp 5)), none⟩, ⟨(some 19), (.call (.con (.func n_doormanref12_cut [])) [(.tmp 18), (.con (.int .u8 0))]), none⟩, ⟨(some 17), (.mov (.tmp 19)), none⟩, ⟨(some 20), (.extract (.tmp 17) 0), none⟩, ⟨(some 21), (.extract (.tmp 17) 1), none⟩, ⟨(some 7), (.mov (.tmp 20)), none⟩, ⟨(some 8), (.mov (.tmp 21)), none⟩]
def doormanref12_From_r6 : List AStep := [⟨(some 22), (.mov (.tmp 7)), none⟩, ⟨(some 23), (.lenT (.tmp 22)), none⟩, ⟨(some 24), (.mov (.tmp 5)), none⟩, ⟨(some 25), (.lenT (.tmp 24)), none⟩, ⟨(some 26), (.bin .eql (.tmp 23) (.tmp 25)), none⟩]
def doormanref12_From_r7 : List AStep := [⟨(some 27), (.build [(.str []), (.str []), (.str []), (.str []), (.str []), (.str [])] []), none⟩, ⟨none, (.store 6 (.tmp 2) (.tmp 27)), none⟩, ⟨(some 3), (.mov (.con (.bool false))), none⟩]
def doormanref12_From_r8 : List AStep := [⟨(some 28), (.mov (.tmp 4)), none⟩, ⟨(some 29), (.mov (.tmp 7)), none⟩, ⟨(some 30), (.buildSlice 1 1 [(.str [])] [(0, (1, (.tmp 29)))]), none⟩, ⟨(some 31), (.append 1 (.tmp 28) (.tmp 30)), none⟩, ⟨(some 4), (.mov (.tmp 31)), none⟩]
def doormanref12_From_r9 : List AStep := [⟨(some 32), (.mov (.tmp 8)), none⟩, ⟨(some 5), (.mov (.tmp 32)), none⟩]
def doormanref12_From_r10 : List AStep := [⟨(some 15), (.mov (.tmp 6)), none⟩, ⟨(some 16), (.bin .add (.tmp 15) (.con (.int .i64 1))), none⟩, ⟨(some 6), (.mov (.tmp 16)), none⟩]
def doormanref12_From_l11 : ACode := (.seq (.seq (.ops doormanref12_From_r4) (.cond (.tmp 14) .skip (.exit 0))) (.seq (.block 1 (.seq (.ops doormanref12_From_r5) (.seq (.seq (.ops doormanref12_From_r6) (.cond (.tmp 26) (.seq (.ops doormanref12_From_r7) .ret) .skip)) (.seq (.ops doormanref12_From_r8) (.ops doormanref12_From_r9))))) (.ops doormanref12_From_r10)))
def doormanref12_From_r12 : List DStep := [⟨0, 0, ⟨(some 33), (.mov (.tmp 4)), none⟩⟩, ⟨1, 1, ⟨(some 34), (.indexAddr 1 (.tmp 33) (.con (.int .i64 0))), none⟩⟩, ⟨2, 3, ⟨(some 35), (.load false 1 (.tmp 34)), none⟩⟩, ⟨3, 0, ⟨(some 36), (.mov (.tmp 4)), none⟩⟩, ⟨4, 8, ⟨(some 37), (.indexAddr 1 (.tmp 36) (.con (.int .i64 1))), none⟩⟩, ⟨5, 24, ⟨(some 38), (.load false 1 (.tmp 37)), none⟩⟩, ⟨6, 0, ⟨(some 39), (.mov (.tmp 4)), none⟩⟩, ⟨7, 64, ⟨(some 40), (.indexAddr 1 (.tmp 39) (.con (.int .i64 2))), none⟩⟩, ⟨8, 192, ⟨(some 41), (.load false 1 (.tmp 40)), none⟩⟩, ⟨9, 511, ⟨(some 42), (.build [(.str []), (.str []), (.str [])] [(0, (1, (.tmp 35))), (1, (1, (.tmp 38))), (2, (1, (.tmp 41)))]), none⟩⟩, ⟨10, 0, ⟨(some 43), (.mov (.tmp 4)), none⟩⟩, ⟨11, 1024, ⟨(some 44), (.indexAddr 1 (.tmp 43) (.con (.int .i64 3))), none⟩⟩, ⟨12, 3072, ⟨(some 45), (.load false 1 (.tmp 44)), none⟩⟩, ⟨13, 0, ⟨(some 46), (.mov (.tmp 4)), none⟩⟩, ⟨14, 8192, ⟨(some 47), (.indexAddr 1 (.tmp 46) (.con (.int .i64 4))), none⟩⟩, ⟨15, 24576, ⟨(some 48), (.load false 1 (.tmp 47)), none⟩⟩, ⟨16, 0, ⟨(some 49), (.mov (.tmp 5)), none⟩⟩, ⟨17, 130048, ⟨(some 50), (.build [(.str []), (.str []), (.str [])] [(0, (1, (.tmp 45))), (1, (1, (.tmp 48))), (2, (1, (.tmp 49)))]), none⟩⟩, ⟨18, 262143, ⟨(some 51), (.build [(.str []), (.str []), (.str []), (.str []), (.str []), (.str [])] [(0, (3, (.tmp 42))), (3, (3, (.tmp 50)))]), none⟩⟩, ⟨19, 0, ⟨(some 9), (.alloc [(.str []), (.str []), (.str []), (.str []), (.str []), (.str [])]), none⟩⟩, ⟨20, 1048575, ⟨none, (.store 6 (.tmp 9) (.tmp 51)), none⟩⟩]
def doormanref12_From_r13 : List AStep := [⟨(some 52), (.fieldAddr 0 (.tmp 9)), none⟩, ⟨(some 53), (.load true 3 (.tmp 52)), none⟩, ⟨(some 54), (.call (.con (.func n_doormanref12_Formed [])) [(.tmp 53)]), none⟩, ⟨(some 10), (.mov (.tmp 54)), none⟩]
def doormanref12_From_r14 : List AStep := [⟨(some 55), (.fieldAddr 3 (.tmp 9)), none⟩, ⟨(some 56), (.load true 3 (.tmp 55)), none⟩, ⟨(some 57), (.call (.con (.func n_doormanref12_Formed [])) [(.tmp 56)]), none⟩, ⟨(some 11), (.mov (.tmp 57)), none⟩]
def doormanref12_From_r15 : List AStep := [⟨(some 58), (.mov (.tmp 10)), none⟩, ⟨(some 59), (.not (.tmp 58)), none⟩, ⟨(some 60), (.mov (.tmp 59)), none⟩, ⟨(some 61), (.mov (.tmp 11)), (some (60, false))⟩, ⟨(some 62), (.not (.tmp 61)), (some (60, false))⟩, ⟨(some 63), (.pick (.tmp 60) (.con (.bool true)) (.tmp 62)), none⟩, ⟨(some 64), (.mov (.tmp 63)), none⟩, ⟨(some 65), (.mov (.tmp 4)), (some (64, false))⟩, ⟨(some 66), (.indexAddr 1 (.tmp 65) (.con (.int .i64 2))), (some (64, false))⟩, ⟨(some 67), (.load false 1 (.tmp 66)), (some (64, false))⟩, ⟨(some 68), (.bin .eql (.tmp 67) (.con (.str []))), (some (64, false))⟩, ⟨(some 69), (.pick (.tmp 64) (.con (.bool true)) (.tmp 68)), none⟩]
def doormanref12_From_r16 : List AStep := [⟨(some 70), (.build [(.str []), (.str []), (.str []), (.str []), (.str []), (.str [])] []), none⟩, ⟨none, (.store 6 (.tmp 2) (.tmp 70)), none⟩, ⟨(some 3), (.mov (.con (.bool false))), none⟩]
def doormanref12_From_r17 : List AStep := [⟨(some 71), (.load true 6 (.tmp 9)), none⟩, ⟨none, (.store 6 (.tmp 2) (.tmp 71)), none⟩, ⟨(some 3), (.mov (.con (.bool true))), none⟩]
def doormanref12_From_c : ACode := (.seq (.ops doormanref12_From_r0) (.seq (.ops doormanref12_From_r1) (.seq (.ops doormanref12_From_r2) (.seq (.seq (.ops doormanref12_From_r3) (.block 0 (.loop doormanref12_From_l11))) (.seq (.draw doormanref12_From_r12) (.seq (.ops doormanref12_From_r13) (.seq (.ops doormanref12_From_r14) (.seq (.seq (.ops doormanref12_From_r15) (.cond (.tmp 69) (.seq (.ops doormanref12_From_r16) .ret) .skip)) (.seq (.ops doormanref12_From_r17) .ret)))))))))
def doormanref12_From_a : AFunc := ⟨72, [(.cell 2 true 6), (.tmp 3)], doormanref12_From_c⟩
/-! tuple_Show -/
def tuple_Show_r0 : List AStep := [⟨(some 1), (.box (.tmp 0)), none⟩, ⟨(some 2), (.mov (.con (.str []))), none⟩]
def tuple_Show_r1 : List AStep := [⟨(some 4), (.fieldAddr 0 (.tmp 1)), none⟩, ⟨(some 5), (.load false 1 (.tmp 4)), none⟩, ⟨(some 6), (.bin .add (.tmp 5) (.con (.str [58]))), none⟩, ⟨(some 7), (.fieldAddr 1 (.tmp 1)), none⟩, ⟨(some 8), (.load false 1 (.tmp 7)), none⟩, ⟨(some 9), (.bin .add (.tmp 6) (.tmp 8)), none⟩, ⟨(some 3), (.mov (.tmp 9)), none⟩]
def tuple_Show_r2 : List AStep := [⟨(some 10), (.fieldAddr 2 (.tmp 1)), none⟩, ⟨(some 11), (.load false 1 (.tmp 10)), none⟩, ⟨(some 12), (.bin .neq (.tmp 11) (.con (.str []))), none⟩]
def tuple_Show_r3 : List AStep := [⟨(some 13), (.mov (.tmp 3)), none⟩, ⟨(some 14), (.fieldAddr 2 (.tmp 1)), none⟩, ⟨(some 15), (.load false 1 (.tmp 14)), none⟩, ⟨(some 16), (.bin .add (.con (.str [35])) (.tmp 15)), none⟩, ⟨(some 17), (.bin .add (.tmp 13) (.tmp 16)), none⟩, ⟨(some 3), (.mov (.tmp 17)), none⟩]
def tuple_Show_r4 : List AStep := [⟨(some 18), (.mov (.tmp 3)), none⟩, ⟨(some 2), (.mov (.tmp 18)), none⟩]
def tuple_Show_c : ACode := (.seq (.ops tuple_Show_r0) (.seq (.ops tuple_Show_r1) (.seq (.seq (.ops tuple_Show_r2) (.cond (.tmp 12) (.ops tuple_Show_r3) .skip)) (.seq (.ops tuple_Show_r4) .ret))))
def tuple_Show_a : AFunc := ⟨19, [(.tmp 2)], tuple_Show_c⟩
/-! doormanref12_Show -/
def doormanref12_Show_r0 : List AStep := [⟨(some 1), (.box (.tmp 0)), none⟩, ⟨(some 2), (.mov (.con (.str []))), none⟩]
def doormanref12_Show_r1 : List AStep := [⟨(some 3), (.fieldAddr 2 (.tmp 1)), none⟩, ⟨(some 4), (.load false 1 (.tmp 3)), none⟩, ⟨(some 5), (.bin .eql (.tmp 4) (.con (.str []))), none⟩]
def doormanref12_Show_r2 : List AStep := [⟨(some 6), (.fieldAddr 0 (.tmp 1)), none⟩, ⟨(some 7), (.load false 1 (.tmp 6)), none⟩, ⟨(some 8), (.bin .add (.tmp 7) (.con (.str [58]))), none⟩, ⟨(some 9), (.fieldAddr 1 (.tmp 1)), none⟩, ⟨(some 10), (.load false 1 (.tmp 9)), none⟩, ⟨(some 11), (.bin .add (.tmp 8) (.tmp 10)), none⟩, ⟨(some 2), (.mov (.tmp 11)), none⟩]
def doormanref12_Show_r3 : List AStep := [⟨(some 12), (.fieldAddr 0 (.tmp 1)), none⟩, ⟨(some 13), (.load false 1 (.tmp 12)), none⟩, ⟨(some 14), (.bin .add (.tmp 13) (.con (.str [58]))), none⟩, ⟨(some 15), (.fieldAddr 1 (.tmp 1)), none⟩, ⟨(some 16), (.load false 1 (.tmp 15)), none⟩, ⟨(some 17), (.bin .add (.tmp 14) (.tmp 16)), none⟩, ⟨(some 18), (.bin .add (.tmp 17) (.con (.str [35]))), none⟩, ⟨(some 19), (.fieldAddr 2 (.tmp 1)), none⟩, ⟨(some 20), (.load false 1 (.tmp 19)), none⟩, ⟨(some 21), (.bin .add (.tmp 18) (.tmp 20)), none⟩, ⟨(some 2), (.mov (.tmp 21)), none⟩]
def doormanref12_Show_c : ACode := (.seq (.ops doormanref12_Show_r0) (.seq (.seq (.ops doormanref12_Show_r1) (.cond (.tmp 5) (.seq (.ops doormanref12_Show_r2) .ret) .skip)) (.seq (.ops doormanref12_Show_r3) .ret)))
def doormanref12_Show_a : AFunc := ⟨22, [(.tmp 2)], doormanref12_Show_c⟩
/-! tuple_Text -/
def tuple_Text_r0 : List AStep := [⟨(some 1), (.box (.tmp 0)), none⟩, ⟨(some 2), (.mov (.con (.str []))), none⟩]
def tuple_Text_r1 : List DStep := [⟨0, 0, ⟨(some 3), (.fieldAddr 0 (.tmp 1)), none⟩⟩, ⟨1, 1, ⟨(some 4), (.load true 3 (.tmp 3)), none⟩⟩, ⟨4, 0, ⟨(some 7), (.fieldAddr 3 (.tmp 1)), none⟩⟩, ⟨5, 16, ⟨(some 8), (.load true 3 (.tmp 7)), none⟩⟩, ⟨2, 3, ⟨(some 5), (.call (.con (.func n_tuple_Show [])) [(.tmp 4)]), none⟩⟩, ⟨3, 7, ⟨(some 6), (.bin .add (.tmp 5) (.con (.str [64]))), none⟩⟩, ⟨6, 55, ⟨(some 9), (.call (.con (.func n_tuple_Show [])) [(.tmp 8)]), none⟩⟩, ⟨7, 127, ⟨(some 10), (.bin .add (.tmp 6) (.tmp 9)), none⟩⟩, ⟨8, 255, ⟨(some 2), (.mov (.tmp 10)), none⟩⟩]
def tuple_Text_c : ACode := (.seq (.ops tuple_Text_r0) (.seq (.draw tuple_Text_r1) .ret))
def tuple_Text_a : AFunc := ⟨11, [(.tmp 2)], tuple_Text_c⟩
/-! doormanref12_Text -/
def doormanref12_Text_r0 : List AStep := [⟨(some 1), (.box (.tmp 0)), none⟩, ⟨(some 2), (.mov (.con (.str []))), none⟩]
def doormanref12_Text_r1 : List DStep := [⟨0, 0, ⟨(some 3), (.fieldAddr 0 (.tmp 1)), none⟩⟩, ⟨1, 1, ⟨(some 4), (.load true 3 (.tmp 3)), none⟩⟩, ⟨4, 0, ⟨(some 7), (.fieldAddr 3 (.tmp 1)), none⟩⟩, ⟨5, 16, ⟨(some 8), (.load true 3 (.tmp 7)), none⟩⟩, ⟨2, 3, ⟨(some 5), (.call (.con (.func n_doormanref12_Show [])) [(.tmp 4)]), none⟩⟩, ⟨3, 7, ⟨(some 6), (.bin .add (.tmp 5) (.con (.str [64]))), none⟩⟩, ⟨6, 55, ⟨(some 9), (.call (.con (.func n_doormanref12_Show [])) [(.tmp 8)]), none⟩⟩, ⟨7, 127, ⟨(some 10), (.bin .add (.tmp 6) (.tmp 9)), none⟩⟩, ⟨8, 255, ⟨(some 2), (.mov (.tmp 10)), none⟩⟩]
def doormanref12_Text_c : ACode := (.seq (.ops doormanref12_Text_r0) (.seq (.draw doormanref12_Text_r1) .ret))
def doormanref12_Text_a : AFunc := ⟨11, [(.tmp 2)], doormanref12_Text_c⟩
/-! tuple_Key -/
def tuple_Key_r0 : List AStep := [⟨(some 1), (.box (.tmp 0)), none⟩, ⟨(some 2), (.mov (.con (.str []))), none⟩]
def tuple_Key_r1 : List AStep := [⟨(some 4), (.load true 6 (.tmp 1)), none⟩, ⟨(some 5), (.call (.con (.func n_tuple_of [])) [(.tmp 4)]), none⟩, ⟨(some 3), (.alloc [(.str []), (.str []), (.str []), (.str []), (.str []), (.str [])]), none⟩, ⟨none, (.store 6 (.tmp 3) (.tmp 5)), none⟩]
def tuple_Key_r2 : List AStep := [⟨(some 6), (.sliceA 1 6 (.tmp 3) none none), none⟩, ⟨(some 7), (.call (.con (.func n_strings_Join [])) [(.tmp 6), (.con (.str [0]))]), none⟩, ⟨(some 2), (.mov (.tmp 7)), none⟩]
def tuple_Key_c : ACode := (.seq (.ops tuple_Key_r0) (.seq (.ops tuple_Key_r1) (.seq (.ops tuple_Key_r2) .ret)))
def tuple_Key_a : AFunc := ⟨8, [(.tmp 2)], tuple_Key_c⟩
/-! doormanref12_Key -/
def doormanref12_Key_r0 : List AStep := [⟨(some 1), (.box (.tmp 0)), none⟩, ⟨(some 2), (.mov (.con (.str []))), none⟩]
def doormanref12_Key_r1 : List AStep := [⟨(some 6), (.load true 6 (.tmp 1)), none⟩, ⟨(some 7), (.call (.con (.func n_doormanref12_Names [])) [(.tmp 6)]), none⟩, ⟨(some 3), (.mov (.tmp 7)), none⟩]
def doormanref12_Key_r2 : List AStep := [⟨(some 8), (.mov (.tmp 3)), none⟩, ⟨(some 9), (.indexAddr 1 (.tmp 8) (.con (.int .i64 0))), none⟩, ⟨(some 10), (.load false 1 (.tmp 9)), none⟩, ⟨(some 4), (.mov (.tmp 10)), none⟩]
def doormanref12_Key_r3 : List AStep := [⟨(some 5), (.mov (.con (.int .i64 1))), none⟩]
def doormanref12_Key_r4 : List AStep := [⟨(some 11), (.mov (.tmp 5)), none⟩, ⟨(some 12), (.bin .lss (.tmp 11) (.con (.int .i64 6))), none⟩]
def doormanref12_Key_r5 : List AStep := [⟨(some 15), (.mov (.tmp 4)), none⟩, ⟨(some 16), (.mov (.tmp 3)), none⟩, ⟨(some 17), (.mov (.tmp 5)), none⟩, ⟨(some 18), (.indexAddr 1 (.tmp 16) (.tmp 17)), none⟩, ⟨(some 19), (.load false 1 (.tmp 18)), none⟩, ⟨(some 20), (.bin .add (.con (.str [0])) (.tmp 19)), none⟩, ⟨(some 21), (.bin .add (.tmp 15) (.tmp 20)), none⟩, ⟨(some 4), (.mov (.tmp 21)), none⟩]
def doormanref12_Key_r6 : List AStep := [⟨(some 13), (.mov (.tmp 5)), none⟩, ⟨(some 14), (.bin .add (.tmp 13) (.con (.int .i64 1))), none⟩, ⟨(some 5), (.mov (.tmp 14)), none⟩]
def doormanref12_Key_l7 : ACode := (.seq (.seq (.ops doormanref12_Key_r4) (.cond (.tmp 12) .skip (.exit 0))) (.seq (.block 1 (.ops doormanref12_Key_r5)) (.ops doormanref12_Key_r6)))
def doormanref12_Key_r8 : List AStep := [⟨(some 22), (.mov (.tmp 4)), none⟩, ⟨(some 2), (.mov (.tmp 22)), none⟩]
def doormanref12_Key_c : ACode := (.seq (.ops doormanref12_Key_r0) (.seq (.ops doormanref12_Key_r1) (.seq (.ops doormanref12_Key_r2) (.seq (.seq (.ops doormanref12_Key_r3) (.block 0 (.loop doormanref12_Key_l7))) (.seq (.ops doormanref12_Key_r8) .ret)))))
def doormanref12_Key_a : AFunc := ⟨23, [(.tmp 2)], doormanref12_Key_c⟩
/-! doormanref12_Formed -/
def doormanref12_Formed_r0 : List AStep := [⟨(some 1), (.box (.tmp 0)), none⟩, ⟨(some 2), (.mov (.con (.bool false))), none⟩]
def doormanref12_Formed_r1 : List AStep := [⟨(some 6), (.fieldAddr 0 (.tmp 1)), none⟩, ⟨(some 7), (.load false 1 (.tmp 6)), none⟩, ⟨(some 8), (.call (.con (.func n_doormanref02_Name [])) [(.tmp 7)]), none⟩, ⟨(some 3), (.mov (.tmp 8)), none⟩]
def doormanref12_Formed_r2 : List AStep := [⟨(some 9), (.fieldAddr 1 (.tmp 1)), none⟩, ⟨(some 10), (.load false 1 (.tmp 9)), none⟩, ⟨(some 11), (.call (.con (.func n_doormanref02_Name [])) [(.tmp 10)]), none⟩, ⟨(some 4), (.mov (.tmp 11)), none⟩]
def doormanref12_Formed_r3 : List AStep := [⟨(some 12), (.fieldAddr 2 (.tmp 1)), none⟩, ⟨(some 13), (.load false 1 (.tmp 12)), none⟩, ⟨(some 14), (.call (.con (.func n_doormanref02_Name [])) [(.tmp 13)]), none⟩, ⟨(some 5), (.mov (.tmp 14)), none⟩]
def doormanref12_Formed_r4 : List AStep := [⟨(some 15), (.mov (.tmp 3)), none⟩, ⟨(some 16), (.mov (.tmp 15)), none⟩, ⟨(some 17), (.mov (.tmp 4)), (some (16, true))⟩, ⟨(some 18), (.pick (.tmp 16) (.tmp 17) (.con (.bool false))), none⟩, ⟨(some 19), (.mov (.tmp 18)), none⟩, ⟨(some 20), (.mov (.tmp 5)), (some (19, true))⟩, ⟨(some 21), (.mov (.tmp 20)), (some (19, true))⟩, ⟨(some 22), (.fieldAddr 2 (.tmp 1)), (some (21, false))⟩, ⟨(some 23), (.load false 1 (.tmp 22)), (some (21, false))⟩, ⟨(some 24), (.bin .eql (.tmp 23) (.con (.str []))), (some (21, false))⟩, ⟨(some 25), (.pick (.tmp 21) (.con (.bool true)) (.tmp 24)), (some (19, true))⟩, ⟨(some 26), (.pick (.tmp 19) (.tmp 25) (.con (.bool false))), none⟩, ⟨(some 2), (.mov (.tmp 26)), none⟩]
def doormanref12_Formed_c : ACode := (.seq (.ops doormanref12_Formed_r0) (.seq (.ops doormanref12_Formed_r1) (.seq (.ops doormanref12_Formed_r2) (.seq (.ops doormanref12_Formed_r3) (.seq (.ops doormanref12_Formed_r4) .ret)))))
def doormanref12_Formed_a : AFunc := ⟨27, [(.tmp 2)], doormanref12_Formed_c⟩
/-! tuple_Compare -/
def tuple_Compare_r0 : List AStep := [⟨(some 2), (.box (.tmp 0)), none⟩, ⟨(some 3), (.box (.tmp 1)), none⟩, ⟨(some 4), (.mov (.con (.int .i64 0))), none⟩]
def tuple_Compare_r1 : List DStep := [⟨0, 0, ⟨(some 7), (.load true 6 (.tmp 2)), none⟩⟩, ⟨2, 0, ⟨(some 9), (.load true 6 (.tmp 3)), none⟩⟩, ⟨4, 0, ⟨(some 5), (.alloc [(.str []), (.str []), (.str []), (.str []), (.str []), (.str [])]), none⟩⟩, ⟨5, 0, ⟨(some 6), (.alloc [(.str []), (.str []), (.str []), (.str []), (.str []), (.str [])]), none⟩⟩, ⟨1, 1, ⟨(some 8), (.call (.con (.func n_tuple_of [])) [(.tmp 7)]), none⟩⟩, ⟨3, 7, ⟨(some 10), (.call (.con (.func n_tuple_of [])) [(.tmp 9)]), none⟩⟩, ⟨6, 63, ⟨none, (.store 6 (.tmp 5) (.tmp 8)), none⟩⟩, ⟨7, 127, ⟨none, (.store 6 (.tmp 6) (.tmp 10)), none⟩⟩]
def tuple_Compare_r2 : List AStep := [⟨(some 11), (.load true 6 (.tmp 5)), none⟩, ⟨(some 12), (.load true 6 (.tmp 6)), none⟩, ⟨(some 13), (.eq (.flatK [.s, .s, .s, .s, .s, .s]) false (.tmp 11) (.tmp 12)), none⟩]
def tuple_Compare_r3 : List AStep := [⟨(some 4), (.mov (.con (.int .i64 0))), none⟩]
def tuple_Compare_r4 : List DStep := [⟨0, 0, ⟨(some 14), (.sliceA 1 6 (.tmp 5) none none), none⟩⟩, ⟨1, 0, ⟨(some 15), (.sliceA 1 6 (.tmp 6) none none), none⟩⟩, ⟨2, 3, ⟨(some 16), (.call (.con (.func n_slices_Compare_string_string [])) [(.tmp 14), (.tmp 15)]), none⟩⟩, ⟨3, 7, ⟨(some 4), (.mov (.tmp 16)), none⟩⟩]
def tuple_Compare_c : ACode := (.seq (.ops tuple_Compare_r0) (.seq (.draw tuple_Compare_r1) (.seq (.seq (.ops tuple_Compare_r2) (.cond (.tmp 13) (.seq (.ops tuple_Compare_r3) .ret) .skip)) (.seq (.draw tuple_Compare_r4) .ret))))
def tuple_Compare_a : AFunc := ⟨17, [(.tmp 4)], tuple_Compare_c⟩
/-! doormanref12_Compare -/
def doormanref12_Compare_r0 : List AStep := [⟨(some 2), (.box (.tmp 0)), none⟩, ⟨(some 3), (.box (.tmp 1)), none⟩, ⟨(some 4), (.mov (.con (.int .i64 0))), none⟩]
def doormanref12_Compare_r1 : List AStep := [⟨(some 8), (.load true 6 (.tmp 2)), none⟩, ⟨(some 9), (.call (.con (.func n_doormanref12_Names [])) [(.tmp 8)]), none⟩, ⟨(some 5), (.mov (.tmp 9)), none⟩]
def doormanref12_Compare_r2 : List AStep := [⟨(some 10), (.load true 6 (.tmp 3)), none⟩, ⟨(some 11), (.call (.con (.func n_doormanref12_Names [])) [(.tmp 10)]), none⟩, ⟨(some 6), (.mov (.tmp 11)), none⟩]
def doormanref12_Compare_r3 : List AStep := [⟨(some 7), (.mov (.con (.int .i64 0))), none⟩]
def doormanref12_Compare_r4 : List AStep := [⟨(some 12), (.mov (.tmp 7)), none⟩, ⟨(some 13), (.bin .lss (.tmp 12) (.con (.int .i64 6))), none⟩]
def doormanref12_Compare_r5 : List DStep := [⟨0, 0, ⟨(some 16), (.mov (.tmp 5)), none⟩⟩, ⟨1, 0, ⟨(some 17), (.mov (.tmp 7)), none⟩⟩, ⟨2, 3, ⟨(some 18), (.indexAddr 1 (.tmp 16) (.tmp 17)), none⟩⟩, ⟨3, 7, ⟨(some 19), (.load false 1 (.tmp 18)), none⟩⟩, ⟨4, 0, ⟨(some 20), (.mov (.tmp 6)), none⟩⟩, ⟨5, 0, ⟨(some 21), (.mov (.tmp 7)), none⟩⟩, ⟨6, 48, ⟨(some 22), (.indexAddr 1 (.tmp 20) (.tmp 21)), none⟩⟩, ⟨7, 112, ⟨(some 23), (.load false 1 (.tmp 22)), none⟩⟩, ⟨8, 255, ⟨(some 24), (.bin .lss (.tmp 19) (.tmp 23)), none⟩⟩]
def doormanref12_Compare_r6 : List AStep := [⟨(some 4), (.mov (.con (.int .i64 (-1)))), none⟩]
def doormanref12_Compare_r7 : List DStep := [⟨0, 0, ⟨(some 25), (.mov (.tmp 5)), none⟩⟩, ⟨1, 0, ⟨(some 26), (.mov (.tmp 7)), none⟩⟩, ⟨2, 3, ⟨(some 27), (.indexAddr 1 (.tmp 25) (.tmp 26)), none⟩⟩, ⟨3, 7, ⟨(some 28), (.load false 1 (.tmp 27)), none⟩⟩, ⟨4, 0, ⟨(some 29), (.mov (.tmp 6)), none⟩⟩, ⟨5, 0, ⟨(some 30), (.mov (.tmp 7)), none⟩⟩, ⟨6, 48, ⟨(some 31), (.indexAddr 1 (.tmp 29) (.tmp 30)), none⟩⟩, ⟨7, 112, ⟨(some 32), (.load false 1 (.tmp 31)), none⟩⟩, ⟨8, 255, ⟨(some 33), (.bin .gtr (.tmp 28) (.tmp 32)), none⟩⟩]
def doormanref12_Compare_r8 : List AStep := [⟨(some 4), (.mov (.con (.int .i64 1))), none⟩]
def doormanref12_Compare_r9 : List AStep := [⟨(some 14), (.mov (.tmp 7)), none⟩, ⟨(some 15), (.bin .add (.tmp 14) (.con (.int .i64 1))), none⟩, ⟨(some 7), (.mov (.tmp 15)), none⟩]
def doormanref12_Compare_l10 : ACode := (.seq (.seq (.ops doormanref12_Compare_r4) (.cond (.tmp 13) .skip (.exit 0))) (.seq (.block 1 (.seq (.seq (.draw doormanref12_Compare_r5) (.cond (.tmp 24) (.seq (.ops doormanref12_Compare_r6) .ret) .skip)) (.seq (.draw doormanref12_Compare_r7) (.cond (.tmp 33) (.seq (.ops doormanref12_Compare_r8) .ret) .skip)))) (.ops doormanref12_Compare_r9)))
def doormanref12_Compare_r11 : List AStep := [⟨(some 4), (.mov (.con (.int .i64 0))), none⟩]
def doormanref12_Compare_c : ACode := (.seq (.ops doormanref12_Compare_r0) (.seq (.ops doormanref12_Compare_r1) (.seq (.ops doormanref12_Compare_r2) (.seq (.seq (.ops doormanref12_Compare_r3) (.block 0 (.loop doormanref12_Compare_l10))) (.seq (.ops doormanref12_Compare_r11) .ret)))))
def doormanref12_Compare_a : AFunc := ⟨34, [(.tmp 4)], doormanref12_Compare_c⟩
/-! doormanref12_Names -/
def doormanref12_Names_r0 : List AStep := [⟨(some 1), (.box (.tmp 0)), none⟩, ⟨(some 2), (.mov (.con .nils)), none⟩]
def doormanref12_Names_r1 : List AStep := [⟨(some 3), (.fieldAddr 0 (.tmp 1)), none⟩, ⟨(some 4), (.fieldAddr 0 (.tmp 3)), none⟩, ⟨(some 5), (.load false 1 (.tmp 4)), none⟩, ⟨(some 6), (.fieldAddr 0 (.tmp 1)), none⟩, ⟨(some 7), (.fieldAddr 1 (.tmp 6)), none⟩, ⟨(some 8), (.load false 1 (.tmp 7)), none⟩, ⟨(some 9), (.fieldAddr 0 (.tmp 1)), none⟩, ⟨(some 10), (.fieldAddr 2 (.tmp 9)), none⟩, ⟨(some 11), (.load false 1 (.tmp 10)), none⟩, ⟨(some 12), (.fieldAddr 3 (.tmp 1)), none⟩, ⟨(some 13), (.fieldAddr 0 (.tmp 12)), none⟩, ⟨(some 14), (.load false 1 (.tmp 13)), none⟩, ⟨(some 15), (.fieldAddr 3 (.tmp 1)), none⟩, ⟨(some 16), (.fieldAddr 1 (.tmp 15)), none⟩, ⟨(some 17), (.load false 1 (.tmp 16)), none⟩, ⟨(some 18), (.fieldAddr 3 (.tmp 1)), none⟩, ⟨(some 19), (.fieldAddr 2 (.tmp 18)), none⟩, ⟨(some 20), (.load false 1 (.tmp 19)), none⟩, ⟨(some 21), (.buildSlice 1 6 [(.str [])] [(0, (1, (.tmp 5))), (1, (1, (.tmp 8))), (2, (1, (.tmp 11))), (3, (1, (.tmp 14))), (4, (1, (.tmp 17))), (5, (1, (.tmp 20)))]), none⟩, ⟨(some 2), (.mov (.tmp 21)), none⟩]
def doormanref12_Names_c : ACode := (.seq (.ops doormanref12_Names_r0) (.seq (.ops doormanref12_Names_r1) .ret))
def doormanref12_Names_a : AFunc := ⟨22, [(.tmp 2)], doormanref12_Names_c⟩
/-! strings_Cut -/
def strings_Cut_r0 : List AStep := [⟨(some 4), (.mov (.con (.str []))), none⟩, ⟨(some 5), (.mov (.con (.str []))), none⟩, ⟨(some 6), (.mov (.con (.bool false))), none⟩]
def strings_Cut_r1 : List AStep := [⟨(some 7), (.mov (.tmp 0)), none⟩, ⟨(some 8), (.mov (.tmp 1)), none⟩, ⟨(some 9), (.call (.con (.func n_stringslite_Cut [])) [(.tmp 7), (.tmp 8)]), none⟩, ⟨(some 10), (.extract (.tmp 9) 0), none⟩, ⟨(some 11), (.extract (.tmp 9) 1), none⟩, ⟨(some 12), (.extract (.tmp 9) 2), none⟩, ⟨(some 4), (.mov (.tmp 10)), none⟩, ⟨(some 5), (.mov (.tmp 11)), none⟩, ⟨(some 6), (.mov (.tmp 12)), none⟩]
def strings_Cut_c : ACode := (.seq (.ops strings_Cut_r0) (.seq (.ops strings_Cut_r1) .ret))
def strings_Cut_a : AFunc := ⟨13, [(.tmp 4), (.tmp 5), (.tmp 6)], strings_Cut_c⟩
/-! tuple_formed -/
def tuple_formed_r0 : List AStep := [⟨(some 1), (.box (.tmp 0)), none⟩, ⟨(some 2), (.mov (.con (.bool false))), none⟩]
def tuple_formed_r1 : List AStep := [⟨(some 3), (.fieldAddr 0 (.tmp 1)), none⟩, ⟨(some 4), (.load false 1 (.tmp 3)), none⟩, ⟨(some 5), (.call (.con (.func n_glyph_Name [])) [(.tmp 4)]), none⟩, ⟨(some 6), (.mov (.tmp 5)), none⟩, ⟨(some 7), (.fieldAddr 1 (.tmp 1)), (some (6, true))⟩, ⟨(some 8), (.load false 1 (.tmp 7)), (some (6, true))⟩, ⟨(some 9), (.call (.con (.func n_glyph_Name [])) [(.tmp 8)]), (some (6, true))⟩, ⟨(some 10), (.pick (.tmp 6) (.tmp 9) (.con (.bool false))), none⟩, ⟨(some 11), (.mov (.tmp 10)), none⟩, ⟨(some 12), (.fieldAddr 2 (.tmp 1)), (some (11, true))⟩, ⟨(some 13), (.load false 1 (.tmp 12)), (some (11, true))⟩, ⟨(some 14), (.bin .eql (.tmp 13) (.con (.str []))), (some (11, true))⟩, ⟨(some 15), (.mov (.tmp 14)), (some (11, true))⟩, ⟨(some 16), (.fieldAddr 2 (.tmp 1)), (some (15, false))⟩, ⟨(some 17), (.load false 1 (.tmp 16)), (some (15, false))⟩, ⟨(some 18), (.call (.con (.func n_glyph_Name [])) [(.tmp 17)]), (some (15, false))⟩, ⟨(some 19), (.pick (.tmp 15) (.con (.bool true)) (.tmp 18)), (some (11, true))⟩, ⟨(some 20), (.pick (.tmp 11) (.tmp 19) (.con (.bool false))), none⟩, ⟨(some 2), (.mov (.tmp 20)), none⟩]
def tuple_formed_c : ACode := (.seq (.ops tuple_formed_r0) (.seq (.ops tuple_formed_r1) .ret))
def tuple_formed_a : AFunc := ⟨21, [(.tmp 2)], tuple_formed_c⟩
/-! doormanref12_cut -/
def doormanref12_cut_r0 : List AStep := [⟨(some 4), (.mov (.con (.str []))), none⟩, ⟨(some 5), (.mov (.con (.str []))), none⟩]
def doormanref12_cut_r1 : List AStep := [⟨(some 6), (.mov (.con (.int .i64 0))), none⟩]
def doormanref12_cut_r2 : List AStep := [⟨(some 7), (.mov (.tmp 6)), none⟩, ⟨(some 8), (.mov (.tmp 0)), none⟩, ⟨(some 9), (.lenT (.tmp 8)), none⟩, ⟨(some 10), (.bin .lss (.tmp 7) (.tmp 9)), none⟩]
def doormanref12_cut_r3 : List AStep := [⟨(some 13), (.mov (.tmp 0)), none⟩, ⟨(some 14), (.mov (.tmp 6)), none⟩, ⟨(some 15), (.indexStr (.tmp 13) (.tmp 14)), none⟩, ⟨(some 16), (.mov (.tmp 1)), none⟩, ⟨(some 17), (.bin .eql (.tmp 15) (.tmp 16)), none⟩]
def doormanref12_cut_r4 : List DStep := [⟨0, 0, ⟨(some 18), (.mov (.tmp 0)), none⟩⟩, ⟨1, 0, ⟨(some 19), (.mov (.tmp 6)), none⟩⟩, ⟨2, 3, ⟨(some 20), (.sliceT (.tmp 18) none (some (.tmp 19))), none⟩⟩, ⟨3, 0, ⟨(some 21), (.mov (.tmp 0)), none⟩⟩, ⟨4, 0, ⟨(some 22), (.mov (.tmp 6)), none⟩⟩, ⟨5, 16, ⟨(some 23), (.bin .add (.tmp 22) (.con (.int .i64 1))), none⟩⟩, ⟨6, 56, ⟨(some 24), (.sliceT (.tmp 21) (some (.tmp 23)) none), none⟩⟩, ⟨7, 7, ⟨(some 4), (.mov (.tmp 20)), none⟩⟩, ⟨8, 255, ⟨(some 5), (.mov (.tmp 24)), none⟩⟩]
def doormanref12_cut_r5 : List AStep := [⟨(some 11), (.mov (.tmp 6)), none⟩, ⟨(some 12), (.bin .add (.tmp 11) (.con (.int .i64 1))), none⟩, ⟨(some 6), (.mov (.tmp 12)), none⟩]
def doormanref12_cut_l6 : ACode := (.seq (.seq (.ops doormanref12_cut_r2) (.cond (.tmp 10) .skip (.exit 0))) (.seq (.block 1 (.seq (.ops doormanref12_cut_r3) (.cond (.tmp 17) (.seq (.draw doormanref12_cut_r4) .ret) .skip))) (.ops doormanref12_cut_r5)))
def doormanref12_cut_r7 : List AStep := [⟨(some 25), (.mov (.tmp 0)), none⟩, ⟨(some 4), (.mov (.tmp 25)), none⟩, ⟨(some 5), (.mov (.con (.str []))), none⟩]
def doormanref12_cut_c : ACode := (.seq (.ops doormanref12_cut_r0) (.seq (.seq (.ops doormanref12_cut_r1) (.block 0 (.loop doormanref12_cut_l6))) (.seq (.ops doormanref12_cut_r7) .ret)))
def doormanref12_cut_a : AFunc := ⟨26, [(.tmp 4), (.tmp 5)], doormanref12_cut_c⟩
/-! strings_Split -/
def strings_Split_r0 : List AStep := [⟨(some 4), (.mov (.con .nils)), none⟩]
def strings_Split_r1 : List AStep := [⟨(some 5), (.mov (.tmp 0)), none⟩, ⟨(some 6), (.mov (.tmp 1)), none⟩, ⟨(some 7), (.call (.con (.func n_strings_genSplit [])) [(.tmp 5), (.tmp 6), (.con (.int .i64 0)), (.con (.int .i64 (-1)))]), none⟩, ⟨(some 4), (.mov (.tmp 7)), none⟩]
def strings_Split_c : ACode := (.seq (.ops strings_Split_r0) (.seq (.ops strings_Split_r1) .ret))
def strings_Split_a : AFunc := ⟨8, [(.tmp 4)], strings_Split_c⟩
/-! tuple_names_formed -/
def tuple_names_formed_r0 : List AStep := [⟨(some 1), (.box (.tmp 0)), none⟩, ⟨(some 2), (.mov (.con (.bool false))), none⟩]
def tuple_names_formed_r1 : List AStep := [⟨(some 5), (.sliceA 1 6 (.tmp 1) none (some (.con (.int .i64 5)))), none⟩, ⟨(some 6), (.len (.tmp 5)), none⟩, ⟨(some 7), (.mov (.con (.int .i64 0))), none⟩]
def tuple_names_formed_r2 : List AStep := [⟨(some 8), (.bin .lss (.tmp 7) (.tmp 6)), none⟩]
def tuple_names_formed_r3 : List AStep := [⟨(some 9), (.indexAddr 1 (.tmp 5) (.tmp 7)), none⟩, ⟨(some 10), (.load false 1 (.tmp 9)), none⟩, ⟨(some 4), (.mov (.tmp 10)), none⟩]
def tuple_names_formed_r4 : List AStep := [⟨(some 11), (.mov (.tmp 4)), none⟩, ⟨(some 12), (.call (.con (.func n_glyph_Name [])) [(.tmp 11)]), none⟩, ⟨(some 13), (.not (.tmp 12)), none⟩]
def tuple_names_formed_r5 : List AStep := [⟨(some 2), (.mov (.con (.bool false))), none⟩]
def tuple_names_formed_r6 : List AStep := [⟨(some 14), (.bin .add (.tmp 7) (.con (.int .i64 1))), none⟩, ⟨(some 7), (.mov (.tmp 14)), none⟩]
def tuple_names_formed_l7 : ACode := (.seq (.ops tuple_names_formed_r2) (.seq (.cond (.tmp 8) .skip (.exit 0)) (.seq (.block 1 (.seq (.ops tuple_names_formed_r3) (.seq (.ops tuple_names_formed_r4) (.cond (.tmp 13) (.seq (.ops tuple_names_formed_r5) .ret) .skip)))) (.ops tuple_names_formed_r6))))
def tuple_names_formed_r8 : List AStep := [⟨(some 15), (.indexArr 1 6 (.tmp 1) (.con (.int .i64 5))), none⟩, ⟨(some 16), (.load false 1 (.tmp 15)), none⟩, ⟨(some 17), (.bin .eql (.tmp 16) (.con (.str []))), none⟩, ⟨(some 18), (.mov (.tmp 17)), none⟩, ⟨(some 19), (.indexArr 1 6 (.tmp 1) (.con (.int .i64 5))), (some (18, false))⟩, ⟨(some 20), (.load false 1 (.tmp 19)), (some (18, false))⟩, ⟨(some 21), (.call (.con (.func n_glyph_Name [])) [(.tmp 20)]), (some (18, false))⟩, ⟨(some 22), (.pick (.tmp 18) (.con (.bool true)) (.tmp 21)), none⟩, ⟨(some 2), (.mov (.tmp 22)), none⟩]
def tuple_names_formed_c : ACode := (.seq (.ops tuple_names_formed_r0) (.seq (.seq (.ops tuple_names_formed_r1) (.block 0 (.loop tuple_names_formed_l7))) (.seq (.ops tuple_names_formed_r8) .ret)))
def tuple_names_formed_a : AFunc := ⟨23, [(.tmp 2)], tuple_names_formed_c⟩
/-! tuple_names_tuple -/
def tuple_names_tuple_r0 : List AStep := [⟨(some 1), (.box (.tmp 0)), none⟩, ⟨(some 2), (.alloc [(.str []), (.str []), (.str []), (.str []), (.str []), (.str [])]), none⟩]
def tuple_names_tuple_r1 : List AStep := [⟨(some 3), (.indexArr 1 6 (.tmp 1) (.con (.int .i64 0))), none⟩, ⟨(some 4), (.load false 1 (.tmp 3)), none⟩, ⟨(some 5), (.indexArr 1 6 (.tmp 1) (.con (.int .i64 1))), none⟩, ⟨(some 6), (.load false 1 (.tmp 5)), none⟩, ⟨(some 7), (.indexArr 1 6 (.tmp 1) (.con (.int .i64 2))), none⟩, ⟨(some 8), (.load false 1 (.tmp 7)), none⟩, ⟨(some 9), (.build [(.str []), (.str []), (.str [])] [(0, (1, (.tmp 4))), (1, (1, (.tmp 6))), (2, (1, (.tmp 8)))]), none⟩, ⟨(some 10), (.indexArr 1 6 (.tmp 1) (.con (.int .i64 3))), none⟩, ⟨(some 11), (.load false 1 (.tmp 10)), none⟩, ⟨(some 12), (.indexArr 1 6 (.tmp 1) (.con (.int .i64 4))), none⟩, ⟨(some 13), (.load false 1 (.tmp 12)), none⟩, ⟨(some 14), (.indexArr 1 6 (.tmp 1) (.con (.int .i64 5))), none⟩, ⟨(some 15), (.load false 1 (.tmp 14)), none⟩, ⟨(some 16), (.build [(.str []), (.str []), (.str [])] [(0, (1, (.tmp 11))), (1, (1, (.tmp 13))), (2, (1, (.tmp 15)))]), none⟩, ⟨(some 17), (.build [(.str []), (.str []), (.str []), (.str []), (.str []), (.str [])] [(0, (3, (.tmp 9))), (3, (3, (.tmp 16)))]), none⟩, ⟨none, (.store 6 (.tmp 2) (.tmp 17)), none⟩]
def tuple_names_tuple_c : ACode := (.seq (.ops tuple_names_tuple_r0) (.seq (.ops tuple_names_tuple_r1) .ret))
def tuple_names_tuple_a : AFunc := ⟨18, [(.cell 2 true 6)], tuple_names_tuple_c⟩
/-! tuple_of -/
def tuple_of_r0 : List AStep := [⟨(some 1), (.box (.tmp 0)), none⟩, ⟨(some 2), (.alloc [(.str []), (.str []), (.str []), (.str []), (.str []), (.str [])]), none⟩]
def tuple_of_r1 : List AStep := [⟨(some 3), (.fieldAddr 0 (.tmp 1)), none⟩, ⟨(some 4), (.fieldAddr 0 (.tmp 3)), none⟩, ⟨(some 5), (.load false 1 (.tmp 4)), none⟩, ⟨(some 6), (.fieldAddr 0 (.tmp 1)), none⟩, ⟨(some 7), (.fieldAddr 1 (.tmp 6)), none⟩, ⟨(some 8), (.load false 1 (.tmp 7)), none⟩, ⟨(some 9), (.fieldAddr 0 (.tmp 1)), none⟩, ⟨(some 10), (.fieldAddr 2 (.tmp 9)), none⟩, ⟨(some 11), (.load false 1 (.tmp 10)), none⟩, ⟨(some 12), (.fieldAddr 3 (.tmp 1)), none⟩, ⟨(some 13), (.fieldAddr 0 (.tmp 12)), none⟩, ⟨(some 14), (.load false 1 (.tmp 13)), none⟩, ⟨(some 15), (.fieldAddr 3 (.tmp 1)), none⟩, ⟨(some 16), (.fieldAddr 1 (.tmp 15)), none⟩, ⟨(some 17), (.load false 1 (.tmp 16)), none⟩, ⟨(some 18), (.fieldAddr 3 (.tmp 1)), none⟩, ⟨(some 19), (.fieldAddr 2 (.tmp 18)), none⟩, ⟨(some 20), (.load false 1 (.tmp 19)), none⟩, ⟨(some 21), (.build [(.str []), (.str []), (.str []), (.str []), (.str []), (.str [])] [(0, (1, (.tmp 5))), (1, (1, (.tmp 8))), (2, (1, (.tmp 11))), (3, (1, (.tmp 14))), (4, (1, (.tmp 17))), (5, (1, (.tmp 20)))]), none⟩, ⟨none, (.store 6 (.tmp 2) (.tmp 21)), none⟩]
def tuple_of_c : ACode := (.seq (.ops tuple_of_r0) (.seq (.ops tuple_of_r1) .ret))
def tuple_of_a : AFunc := ⟨22, [(.cell 2 true 6)], tuple_of_c⟩
/-! doormanref02_Name -/
def doormanref02_Name_r0 : List AStep := [⟨(some 2), (.mov (.con (.bool false))), none⟩]
def doormanref02_Name_r1 : List AStep := [⟨(some 3), (.mov (.con (.int .i64 0))), none⟩]
def doormanref02_Name_r2 : List AStep := [⟨(some 6), (.mov (.tmp 3)), none⟩, ⟨(some 7), (.mov (.tmp 0)), none⟩, ⟨(some 8), (.lenT (.tmp 7)), none⟩, ⟨(some 9), (.bin .lss (.tmp 6) (.tmp 8)), none⟩]
def doormanref02_Name_r3 : List AStep := [⟨(some 13), (.mov (.tmp 0)), none⟩, ⟨(some 14), (.mov (.tmp 3)), none⟩, ⟨(some 15), (.call (.con (.func n_doormanref02_May [])) [(.tmp 13), (.tmp 14)]), none⟩, ⟨(some 4), (.mov (.tmp 15)), none⟩]
def doormanref02_Name_r4 : List AStep := [⟨(some 16), (.mov (.tmp 4)), none⟩, ⟨(some 17), (.not (.tmp 16)), none⟩]
def doormanref02_Name_r5 : List AStep := [⟨(some 2), (.mov (.con (.bool false))), none⟩]
def doormanref02_Name_r6 : List AStep := [⟨(some 10), (.mov (.tmp 0)), none⟩, ⟨(some 11), (.mov (.tmp 3)), none⟩, ⟨(some 12), (.call (.con (.func n_doormanref02_Step [])) [(.tmp 10), (.tmp 11)]), none⟩, ⟨(some 3), (.mov (.tmp 12)), none⟩]
def doormanref02_Name_l7 : ACode := (.seq (.seq (.ops doormanref02_Name_r2) (.cond (.tmp 9) .skip (.exit 0))) (.seq (.block 1 (.seq (.ops doormanref02_Name_r3) (.seq (.ops doormanref02_Name_r4) (.cond (.tmp 17) (.seq (.ops doormanref02_Name_r5) .ret) .skip)))) (.ops doormanref02_Name_r6)))
def doormanref02_Name_r8 : List AStep := [⟨(some 18), (.mov (.tmp 0)), none⟩, ⟨(some 19), (.call (.con (.func n_doormanref02_Count [])) [(.tmp 18)]), none⟩, ⟨(some 5), (.mov (.tmp 19)), none⟩]
def doormanref02_Name_r9 : List AStep := [⟨(some 20), (.mov (.tmp 5)), none⟩, ⟨(some 21), (.bin .gtr (.tmp 20) (.con (.int .i64 0))), none⟩, ⟨(some 22), (.mov (.tmp 21)), none⟩, ⟨(some 23), (.mov (.tmp 5)), (some (22, true))⟩, ⟨(some 24), (.bin .leq (.tmp 23) (.con (.int .i64 24))), (some (22, true))⟩, ⟨(some 25), (.pick (.tmp 22) (.tmp 24) (.con (.bool false))), none⟩, ⟨(some 2), (.mov (.tmp 25)), none⟩]
def doormanref02_Name_c : ACode := (.seq (.ops doormanref02_Name_r0) (.seq (.seq (.ops doormanref02_Name_r1) (.block 0 (.loop doormanref02_Name_l7))) (.seq (.ops doormanref02_Name_r8) (.seq (.ops doormanref02_Name_r9) .ret))))
def doormanref02_Name_a : AFunc := ⟨26, [(.tmp 2)], doormanref02_Name_c⟩
/-! slices_Compare_string_string -/
def slices_Compare_string_string_r0 : List AStep := [⟨(some 4), (.mov (.con (.int .i64 0))), none⟩]
def slices_Compare_string_string_r1 : List AStep := [⟨(some 9), (.mov (.tmp 0)), none⟩, ⟨(some 10), (.len (.tmp 9)), none⟩, ⟨(some 11), (.mov (.con (.int .i64 0))), none⟩]
def slices_Compare_string_string_r2 : List AStep := [⟨(some 12), (.bin .lss (.tmp 11) (.tmp 10)), none⟩]
def slices_Compare_string_string_r3 : List AStep := [⟨(some 13), (.mov (.tmp 11)), none⟩, ⟨(some 14), (.indexAddr 1 (.tmp 9) (.tmp 11)), none⟩, ⟨(some 15), (.load false 1 (.tmp 14)), none⟩, ⟨(some 5), (.mov (.tmp 13)), none⟩, ⟨(some 6), (.mov (.tmp 15)), none⟩]
def slices_Compare_string_string_r4 : List AStep := [⟨(some 16), (.mov (.tmp 5)), none⟩, ⟨(some 17), (.mov (.tmp 1)), none⟩, ⟨(some 18), (.len (.tmp 17)), none⟩, ⟨(some 19), (.bin .geq (.tmp 16) (.tmp 18)), none⟩]
def slices_Compare_string_string_r5 : List AStep := [⟨(some 4), (.mov (.con (.int .i64 1))), none⟩]
def slices_Compare_string_string_r6 : List AStep := [⟨(some 20), (.mov (.tmp 1)), none⟩, ⟨(some 21), (.mov (.tmp 5)), none⟩, ⟨(some 22), (.indexAddr 1 (.tmp 20) (.tmp 21)), none⟩, ⟨(some 23), (.load false 1 (.tmp 22)), none⟩, ⟨(some 7), (.mov (.tmp 23)), none⟩]
def slices_Compare_string_string_r7 : List AStep := [⟨(some 24), (.mov (.tmp 6)), none⟩, ⟨(some 25), (.mov (.tmp 7)), none⟩, ⟨(some 26), (.call (.con (.func n_cmp_Compare_string [])) [(.tmp 24), (.tmp 25)]), none⟩, ⟨(some 8), (.mov (.tmp 26)), none⟩]
def slices_Compare_string_string_r8 : List AStep := [⟨(some 27), (.mov (.tmp 8)), none⟩, ⟨(some 28), (.bin .neq (.tmp 27) (.con (.int .i64 0))), none⟩]
def slices_Compare_string_string_r9 : List AStep := [⟨(some 29), (.mov (.tmp 8)), none⟩, ⟨(some 4), (.mov (.tmp 29)), none⟩]
def slices_Compare_string_string_r10 : List AStep := [⟨(some 30), (.bin .add (.tmp 11) (.con (.int .i64 1))), none⟩, ⟨(some 11), (.mov (.tmp 30)), none⟩]
def slices_Compare_string_string_l11 : ACode := (.seq (.ops slices_Compare_string_string_r2) (.seq (.cond (.tmp 12) .skip (.exit 0)) (.seq (.block 1 (.seq (.ops slices_Compare_string_string_r3) (.seq (.seq (.ops slices_Compare_string_string_r4) (.cond (.tmp 19) (.seq (.ops slices_Compare_string_string_r5) .ret) .skip)) (.seq (.ops slices_Compare_string_string_r6) (.seq (.ops slices_Compare_string_string_r7) (.seq (.ops slices_Compare_string_string_r8) (.cond (.tmp 28) (.seq (.ops slices_Compare_string_string_r9) .ret) .skip))))))) (.ops slices_Compare_string_string_r10))))
def slices_Compare_string_string_r12 : List AStep := [⟨(some 31), (.mov (.tmp 0)), none⟩, ⟨(some 32), (.len (.tmp 31)), none⟩, ⟨(some 33), (.mov (.tmp 1)), none⟩, ⟨(some 34), (.len (.tmp 33)), none⟩, ⟨(some 35), (.bin .lss (.tmp 32) (.tmp 34)), none⟩]
def slices_Compare_string_string_r13 : List AStep := [⟨(some 4), (.mov (.con (.int .i64 (-1)))), none⟩]
def slices_Compare_string_string_r14 : List AStep := [⟨(some 4), (.mov (.con (.int .i64 0))), none⟩]
def slices_Compare_string_string_c : ACode := (.seq (.ops slices_Compare_string_string_r0) (.seq (.seq (.ops slices_Compare_string_string_r1) (.block 0 (.loop slices_Compare_string_string_l11))) (.seq (.seq (.ops slices_Compare_string_string_r12) (.cond (.tmp 35) (.seq (.ops slices_Compare_string_string_r13) .ret) .skip)) (.seq (.ops slices_Compare_string_string_r14) .ret))))
def slices_Compare_string_string_a : AFunc := ⟨36, [(.tmp 4)], slices_Compare_string_string_c⟩
/-! stringslite_Cut -/
def stringslite_Cut_r0 : List AStep := [⟨(some 4), (.mov (.con (.str []))), none⟩, ⟨(some 5), (.mov (.con (.str []))), none⟩, ⟨(some 6), (.mov (.con (.bool false))), none⟩]
def stringslite_Cut_r1 : List AStep := [⟨(some 8), (.mov (.tmp 0)), none⟩, ⟨(some 9), (.mov (.tmp 1)), none⟩, ⟨(some 10), (.call (.con (.func n_stringslite_Index [])) [(.tmp 8), (.tmp 9)]), none⟩, ⟨(some 7), (.mov (.tmp 10)), none⟩]
def stringslite_Cut_r2 : List AStep := [⟨(some 11), (.mov (.tmp 7)), none⟩, ⟨(some 12), (.bin .geq (.tmp 11) (.con (.int .i64 0))), none⟩]
def stringslite_Cut_r3 : List DStep := [⟨0, 0, ⟨(some 13), (.mov (.tmp 0)), none⟩⟩, ⟨1, 0, ⟨(some 14), (.mov (.tmp 7)), none⟩⟩, ⟨2, 3, ⟨(some 15), (.sliceT (.tmp 13) none (some (.tmp 14))), none⟩⟩, ⟨3, 0, ⟨(some 16), (.mov (.tmp 0)), none⟩⟩, ⟨4, 0, ⟨(some 17), (.mov (.tmp 7)), none⟩⟩, ⟨5, 0, ⟨(some 18), (.mov (.tmp 1)), none⟩⟩, ⟨6, 32, ⟨(some 19), (.lenT (.tmp 18)), none⟩⟩, ⟨7, 112, ⟨(some 20), (.bin .add (.tmp 17) (.tmp 19)), none⟩⟩, ⟨8, 248, ⟨(some 21), (.sliceT (.tmp 16) (some (.tmp 20)) none), none⟩⟩, ⟨9, 7, ⟨(some 4), (.mov (.tmp 15)), none⟩⟩, ⟨10, 1023, ⟨(some 5), (.mov (.tmp 21)), none⟩⟩, ⟨11, 2047, ⟨(some 6), (.mov (.con (.bool true))), none⟩⟩]
def stringslite_Cut_r4 : List AStep := [⟨(some 22), (.mov (.tmp 0)), none⟩, ⟨(some 4), (.mov (.tmp 22)), none⟩, ⟨(some 5), (.mov (.con (.str []))), none⟩, ⟨(some 6), (.mov (.con (.bool false))), none⟩]
def stringslite_Cut_c : ACode := (.seq (.ops stringslite_Cut_r0) (.seq (.seq (.ops stringslite_Cut_r1) (.seq (.ops stringslite_Cut_r2) (.cond (.tmp 12) (.seq (.draw stringslite_Cut_r3) .ret) .skip))) (.seq (.ops stringslite_Cut_r4) .ret)))
def stringslite_Cut_a : AFunc := ⟨23, [(.tmp 4), (.tmp 5), (.tmp 6)], stringslite_Cut_c⟩
/-! glyph_Name -/
def glyph_Name_r0 : List AStep := [⟨(some 2), (.mov (.con (.bool false))), none⟩]
def glyph_Name_r1 : List AStep := [⟨(some 5), (.mov (.tmp 0)), none⟩, ⟨(some 6), (.call (.con (.func n_glyph_Valid [])) [(.tmp 5)]), none⟩, ⟨(some 7), (.not (.tmp 6)), none⟩, ⟨(some 8), (.mov (.tmp 7)), none⟩, ⟨(some 9), (.mov (.tmp 0)), (some (8, false))⟩, ⟨(some 10), (.bin .eql (.tmp 9) (.con (.str []))), (some (8, false))⟩, ⟨(some 11), (.pick (.tmp 8) (.con (.bool true)) (.tmp 10)), none⟩, ⟨(some 12), (.mov (.tmp 11)), none⟩, ⟨(some 13), (.mov (.tmp 0)), (some (12, false))⟩, ⟨(some 14), (.call (.con (.func n_glyph_Count [])) [(.tmp 13)]), (some (12, false))⟩, ⟨(some 15), (.bin .gtr (.tmp 14) (.con (.int .i64 24))), (some (12, false))⟩, ⟨(some 16), (.pick (.tmp 12) (.con (.bool true)) (.tmp 15)), none⟩]
def glyph_Name_r2 : List AStep := [⟨(some 2), (.mov (.con (.bool false))), none⟩]
def glyph_Name_r3 : List AStep := [⟨(some 17), (.mov (.tmp 0)), none⟩, ⟨(some 18), (.rangeT (.tmp 17)), none⟩]
def glyph_Name_r4 : List AStep := [⟨(some 19), (.nextT (.tmp 18)), none⟩, ⟨(some 20), (.extract (.tmp 19) 0), none⟩]
def glyph_Name_r5 : List AStep := [⟨(some 21), (.extract (.tmp 19) 2), none⟩, ⟨(some 4), (.mov (.tmp 21)), none⟩]
def glyph_Name_r6 : List AStep := [⟨(some 22), (.mov (.tmp 4)), none⟩, ⟨(some 23), (.bin .lss (.tmp 22) (.con (.int .i32 161))), none⟩, ⟨(some 24), (.mov (.tmp 23)), none⟩, ⟨(some 25), (.mov (.tmp 4)), (some (24, true))⟩, ⟨(some 26), (.call (.con (.func n_strings_ContainsRune [])) [(.con (.str [97, 98, 99, 100, 101, 102, 103, 104, 105, 106, 107, 108, 109, 110, 111, 112, 113, 114, 115, 116, 117, 118, 119, 120, 121, 122, 65, 66, 67, 68, 69, 70, 71, 72, 73, 74, 75, 76, 77, 78, 79, 80, 81, 82, 83, 84, 85, 86, 87, 88, 89, 90, 48, 49, 50, 51, 52, 53, 54, 55, 56, 57, 95])), (.tmp 25)]), (some (24, true))⟩, ⟨(some 27), (.not (.tmp 26)), (some (24, true))⟩, ⟨(some 28), (.pick (.tmp 24) (.tmp 27) (.con (.bool false))), none⟩]
def glyph_Name_r7 : List AStep := [⟨(some 2), (.mov (.con (.bool false))), none⟩]
def glyph_Name_l8 : ACode := (.seq (.ops glyph_Name_r4) (.seq (.cond (.tmp 20) .skip (.exit 0)) (.block 1 (.seq (.ops glyph_Name_r5) (.seq (.ops glyph_Name_r6) (.cond (.tmp 28) (.seq (.ops glyph_Name_r7) .ret) .skip))))))
def glyph_Name_r9 : List AStep := [⟨(some 2), (.mov (.con (.bool true))), none⟩]
def glyph_Name_c : ACode := (.seq (.ops glyph_Name_r0) (.seq (.seq (.ops glyph_Name_r1) (.cond (.tmp 16) (.seq (.ops glyph_Name_r2) .ret) .skip)) (.seq (.seq (.ops glyph_Name_r3) (.block 0 (.loop glyph_Name_l8))) (.seq (.ops glyph_Name_r9) .ret))))
def glyph_Name_a : AFunc := ⟨29, [(.tmp 2)], glyph_Name_c⟩
/-! strings_genSplit -/
def strings_genSplit_r0 : List AStep := [⟨(some 8), (.mov (.con .nils)), none⟩]
def strings_genSplit_r1 : List AStep := [⟨(some 12), (.mov (.tmp 3)), none⟩, ⟨(some 13), (.bin .eql (.tmp 12) (.con (.int .i64 0))), none⟩]
def strings_genSplit_r2 : List AStep := [⟨(some 8), (.mov (.con .nils)), none⟩]
def strings_genSplit_r3 : List AStep := [⟨(some 14), (.mov (.tmp 1)), none⟩, ⟨(some 15), (.bin .eql (.tmp 14) (.con (.str []))), none⟩]
def strings_genSplit_r4 : List AStep := [⟨(some 16), (.mov (.tmp 0)), none⟩, ⟨(some 17), (.mov (.tmp 3)), none⟩, ⟨(some 18), (.call (.con (.func n_strings_explode [])) [(.tmp 16), (.tmp 17)]), none⟩, ⟨(some 8), (.mov (.tmp 18)), none⟩]
def strings_genSplit_r5 : List AStep := [⟨(some 19), (.mov (.tmp 3)), none⟩, ⟨(some 20), (.bin .lss (.tmp 19) (.con (.int .i64 0))), none⟩]
def strings_genSplit_r6 : List AStep := [⟨(some 21), (.mov (.tmp 0)), none⟩, ⟨(some 22), (.mov (.tmp 1)), none⟩, ⟨(some 23), (.call (.con (.func n_strings_Count [])) [(.tmp 21), (.tmp 22)]), none⟩, ⟨(some 24), (.bin .add (.tmp 23) (.con (.int .i64 1))), none⟩, ⟨(some 3), (.mov (.tmp 24)), none⟩]
def strings_genSplit_r7 : List AStep := [⟨(some 25), (.mov (.tmp 3)), none⟩, ⟨(some 26), (.mov (.tmp 0)), none⟩, ⟨(some 27), (.lenT (.tmp 26)), none⟩, ⟨(some 28), (.bin .add (.tmp 27) (.con (.int .i64 1))), none⟩, ⟨(some 29), (.min (.tmp 25) (.tmp 28)), none⟩, ⟨(some 3), (.mov (.tmp 29)), none⟩]
def strings_genSplit_r8 : List AStep := [⟨(some 30), (.mov (.tmp 3)), none⟩, ⟨(some 31), (.makeSlice 1 16 [(.str [])] (.tmp 30) (.tmp 30)), none⟩, ⟨(some 9), (.mov (.tmp 31)), none⟩]
def strings_genSplit_r9 : List AStep := [⟨(some 32), (.mov (.tmp 3)), none⟩, ⟨(some 33), (.bin .sub (.tmp 32) (.con (.int .i64 1))), none⟩, ⟨(some 3), (.mov (.tmp 33)), none⟩]
def strings_genSplit_r10 : List AStep := [⟨(some 10), (.mov (.con (.int .i64 0))), none⟩]
def strings_genSplit_r11 : List AStep := [⟨(some 34), (.mov (.tmp 10)), none⟩, ⟨(some 35), (.mov (.tmp 3)), none⟩, ⟨(some 36), (.bin .lss (.tmp 34) (.tmp 35)), none⟩]
def strings_genSplit_r12 : List AStep := [⟨(some 37), (.mov (.tmp 0)), none⟩, ⟨(some 38), (.mov (.tmp 1)), none⟩, ⟨(some 39), (.call (.con (.func n_strings_Index [])) [(.tmp 37), (.tmp 38)]), none⟩, ⟨(some 11), (.mov (.tmp 39)), none⟩]
def strings_genSplit_r13 : List AStep := [⟨(some 40), (.mov (.tmp 11)), none⟩, ⟨(some 41), (.bin .lss (.tmp 40) (.con (.int .i64 0))), none⟩]
def strings_genSplit_r14 : List AStep := [⟨(some 42), (.mov (.tmp 9)), none⟩, ⟨(some 43), (.mov (.tmp 10)), none⟩, ⟨(some 44), (.mov (.tmp 0)), none⟩, ⟨(some 45), (.mov (.tmp 11)), none⟩, ⟨(some 46), (.mov (.tmp 2)), none⟩, ⟨(some 47), (.bin .add (.tmp 45) (.tmp 46)), none⟩, ⟨(some 48), (.sliceT (.tmp 44) none (some (.tmp 47))), none⟩, ⟨(some 49), (.indexAddr 1 (.tmp 42) (.tmp 43)), none⟩, ⟨none, (.store 1 (.tmp 49) (.tmp 48)), none⟩]
def strings_genSplit_r15 : List AStep := [⟨(some 50), (.mov (.tmp 0)), none⟩, ⟨(some 51), (.mov (.tmp 11)), none⟩, ⟨(some 52), (.mov (.tmp 1)), none⟩, ⟨(some 53), (.lenT (.tmp 52)), none⟩, ⟨(some 54), (.bin .add (.tmp 51) (.tmp 53)), none⟩, ⟨(some 55), (.sliceT (.tmp 50) (some (.tmp 54)) none), none⟩, ⟨(some 0), (.mov (.tmp 55)), none⟩]
def strings_genSplit_r16 : List AStep := [⟨(some 56), (.mov (.tmp 10)), none⟩, ⟨(some 57), (.bin .add (.tmp 56) (.con (.int .i64 1))), none⟩, ⟨(some 10), (.mov (.tmp 57)), none⟩]
def strings_genSplit_l17 : ACode := (.seq (.seq (.ops strings_genSplit_r11) (.cond (.tmp 36) .skip (.exit 0))) (.block 1 (.seq (.ops strings_genSplit_r12) (.seq (.seq (.ops strings_genSplit_r13) (.cond (.tmp 41) (.exit 0) .skip)) (.seq (.ops strings_genSplit_r14) (.seq (.ops strings_genSplit_r15) (.ops strings_genSplit_r16)))))))
def strings_genSplit_r18 : List AStep := [⟨(some 58), (.mov (.tmp 9)), none⟩, ⟨(some 59), (.mov (.tmp 10)), none⟩, ⟨(some 60), (.mov (.tmp 0)), none⟩, ⟨(some 61), (.indexAddr 1 (.tmp 58) (.tmp 59)), none⟩, ⟨none, (.store 1 (.tmp 61) (.tmp 60)), none⟩]
def strings_genSplit_r19 : List AStep := [⟨(some 62), (.mov (.tmp 9)), none⟩, ⟨(some 63), (.mov (.tmp 10)), none⟩, ⟨(some 64), (.bin .add (.tmp 63) (.con (.int .i64 1))), none⟩, ⟨(some 65), (.sliceS 1 (.tmp 62) none (some (.tmp 64))), none⟩, ⟨(some 8), (.mov (.tmp 65)), none⟩]
def strings_genSplit_c : ACode := (.seq (.ops strings_genSplit_r0) (.seq (.seq (.ops strings_genSplit_r1) (.cond (.tmp 13) (.seq (.ops strings_genSplit_r2) .ret) .skip)) (.seq (.seq (.ops strings_genSplit_r3) (.cond (.tmp 15) (.seq (.ops strings_genSplit_r4) .ret) .skip)) (.seq (.seq (.ops strings_genSplit_r5) (.cond (.tmp 20) (.ops strings_genSplit_r6) .skip)) (.seq (.ops strings_genSplit_r7) (.seq (.ops strings_genSplit_r8) (.seq (.ops strings_genSplit_r9) (.seq (.ops strings_genSplit_r10) (.seq (.block 0 (.loop strings_genSplit_l17)) (.seq (.ops strings_genSplit_r18) (.seq (.ops strings_genSplit_r19) .ret)))))))))))
def strings_genSplit_a : AFunc := ⟨66, [(.tmp 8)], strings_genSplit_c⟩
/-! doormanref02_Step -/
def doormanref02_Step_r0 : List AStep := [⟨(some 4), (.mov (.con (.int .i64 0))), none⟩]
def doormanref02_Step_r1 : List AStep := [⟨(some 6), (.mov (.tmp 0)), none⟩, ⟨(some 7), (.mov (.tmp 1)), none⟩, ⟨(some 8), (.call (.con (.func n_doormanref02_Long [])) [(.tmp 6), (.tmp 7)]), none⟩, ⟨(some 5), (.mov (.tmp 8)), none⟩]
def doormanref02_Step_r2 : List AStep := [⟨(some 9), (.mov (.tmp 5)), none⟩, ⟨(some 10), (.bin .eql (.tmp 9) (.con (.int .i64 0))), none⟩]
def doormanref02_Step_r3 : List AStep := [⟨(some 11), (.mov (.tmp 1)), none⟩, ⟨(some 12), (.bin .add (.tmp 11) (.con (.int .i64 1))), none⟩, ⟨(some 4), (.mov (.tmp 12)), none⟩]
def doormanref02_Step_r4 : List AStep := [⟨(some 13), (.mov (.tmp 1)), none⟩, ⟨(some 14), (.mov (.tmp 5)), none⟩, ⟨(some 15), (.bin .add (.tmp 13) (.tmp 14)), none⟩, ⟨(some 4), (.mov (.tmp 15)), none⟩]
def doormanref02_Step_c : ACode := (.seq (.ops doormanref02_Step_r0) (.seq (.ops doormanref02_Step_r1) (.seq (.seq (.ops doormanref02_Step_r2) (.cond (.tmp 10) (.seq (.ops doormanref02_Step_r3) .ret) .skip)) (.seq (.ops doormanref02_Step_r4) .ret))))
def doormanref02_Step_a : AFunc := ⟨16, [(.tmp 4)], doormanref02_Step_c⟩
/-! doormanref02_May -/
def doormanref02_May_r0 : List AStep := [⟨(some 4), (.mov (.con (.bool false))), none⟩]
def doormanref02_May_r1 : List AStep := [⟨(some 7), (.mov (.tmp 0)), none⟩, ⟨(some 8), (.mov (.tmp 1)), none⟩, ⟨(some 9), (.indexStr (.tmp 7) (.tmp 8)), none⟩, ⟨(some 5), (.mov (.tmp 9)), none⟩]
def doormanref02_May_r2 : List AStep := [⟨(some 10), (.mov (.tmp 0)), none⟩, ⟨(some 11), (.mov (.tmp 1)), none⟩, ⟨(some 12), (.call (.con (.func n_doormanref02_Long [])) [(.tmp 10), (.tmp 11)]), none⟩, ⟨(some 6), (.mov (.tmp 12)), none⟩]
def doormanref02_May_r3 : List AStep := [⟨(some 13), (.mov (.tmp 6)), none⟩, ⟨(some 14), (.bin .eql (.tmp 13) (.con (.int .i64 1))), none⟩]
def doormanref02_May_r4 : List AStep := [⟨(some 15), (.mov (.tmp 5)), none⟩, ⟨(some 16), (.bin .eql (.tmp 15) (.con (.int .u8 95))), none⟩, ⟨(some 17), (.mov (.tmp 16)), none⟩, ⟨(some 18), (.mov (.tmp 5)), (some (17, false))⟩, ⟨(some 19), (.bin .geq (.tmp 18) (.con (.int .u8 97))), (some (17, false))⟩, ⟨(some 20), (.mov (.tmp 19)), (some (17, false))⟩, ⟨(some 21), (.mov (.tmp 5)), (some (20, true))⟩, ⟨(some 22), (.bin .leq (.tmp 21) (.con (.int .u8 122))), (some (20, true))⟩, ⟨(some 23), (.pick (.tmp 20) (.tmp 22) (.con (.bool false))), (some (17, false))⟩, ⟨(some 24), (.pick (.tmp 17) (.con (.bool true)) (.tmp 23)), none⟩, ⟨(some 25), (.mov (.tmp 24)), none⟩, ⟨(some 26), (.mov (.tmp 5)), (some (25, false))⟩, ⟨(some 27), (.bin .geq (.tmp 26) (.con (.int .u8 65))), (some (25, false))⟩, ⟨(some 28), (.mov (.tmp 27)), (some (25, false))⟩, ⟨(some 29), (.mov (.tmp 5)), (some (28, true))⟩, ⟨(some 30), (.bin .leq (.tmp 29) (.con (.int .u8 90))), (some (28, true))⟩, ⟨(some 31), (.pick (.tmp 28) (.tmp 30) (.con (.bool false))), (some (25, false))⟩, ⟨(some 32), (.pick (.tmp 25) (.con (.bool true)) (.tmp 31)), none⟩, ⟨(some 33), (.mov (.tmp 32)), none⟩, ⟨(some 34), (.mov (.tmp 5)), (some (33, false))⟩, ⟨(some 35), (.bin .geq (.tmp 34) (.con (.int .u8 48))), (some (33, false))⟩, ⟨(some 36), (.mov (.tmp 35)), (some (33, false))⟩, ⟨(some 37), (.mov (.tmp 5)), (some (36, true))⟩, ⟨(some 38), (.bin .leq (.tmp 37) (.con (.int .u8 57))), (some (36, true))⟩, ⟨(some 39), (.pick (.tmp 36) (.tmp 38) (.con (.bool false))), (some (33, false))⟩, ⟨(some 40), (.pick (.tmp 33) (.con (.bool true)) (.tmp 39)), none⟩, ⟨(some 4), (.mov (.tmp 40)), none⟩]
def doormanref02_May_r5 : List AStep := [⟨(some 41), (.mov (.tmp 6)), none⟩, ⟨(some 42), (.bin .gtr (.tmp 41) (.con (.int .i64 1))), none⟩, ⟨(some 43), (.mov (.tmp 42)), none⟩, ⟨(some 44), (.mov (.tmp 5)), (some (43, true))⟩, ⟨(some 45), (.bin .neq (.tmp 44) (.con (.int .u8 194))), (some (43, true))⟩, ⟨(some 46), (.mov (.tmp 45)), (some (43, true))⟩, ⟨(some 47), (.mov (.tmp 0)), (some (46, false))⟩, ⟨(some 48), (.mov (.tmp 1)), (some (46, false))⟩, ⟨(some 49), (.bin .add (.tmp 48) (.con (.int .i64 1))), (some (46, false))⟩, ⟨(some 50), (.indexStr (.tmp 47) (.tmp 49)), (some (46, false))⟩, ⟨(some 51), (.bin .gtr (.tmp 50) (.con (.int .u8 160))), (some (46, false))⟩, ⟨(some 52), (.pick (.tmp 46) (.con (.bool true)) (.tmp 51)), (some (43, true))⟩, ⟨(some 53), (.pick (.tmp 43) (.tmp 52) (.con (.bool false))), none⟩, ⟨(some 4), (.mov (.tmp 53)), none⟩]
def doormanref02_May_c : ACode := (.seq (.ops doormanref02_May_r0) (.seq (.ops doormanref02_May_r1) (.seq (.ops doormanref02_May_r2) (.seq (.seq (.ops doormanref02_May_r3) (.cond (.tmp 14) (.seq (.ops doormanref02_May_r4) .ret) .skip)) (.seq (.ops doormanref02_May_r5) .ret)))))
def doormanref02_May_a : AFunc := ⟨54, [(.tmp 4)], doormanref02_May_c⟩
/-! doormanref02_Count -/
def doormanref02_Count_r0 : List AStep := [⟨(some 2), (.mov (.con (.int .i64 0))), none⟩]
def doormanref02_Count_r1 : List AStep := [⟨(some 3), (.mov (.con (.int .i64 0))), none⟩]
def doormanref02_Count_r2 : List AStep := [⟨(some 4), (.mov (.con (.int .i64 0))), none⟩]
def doormanref02_Count_r3 : List AStep := [⟨(some 5), (.mov (.tmp 4)), none⟩, ⟨(some 6), (.mov (.tmp 0)), none⟩, ⟨(some 7), (.lenT (.tmp 6)), none⟩, ⟨(some 8), (.bin .lss (.tmp 5) (.tmp 7)), none⟩]
def doormanref02_Count_r4 : List AStep := [⟨(some 12), (.mov (.tmp 3)), none⟩, ⟨(some 13), (.bin .add (.tmp 12) (.con (.int .i64 1))), none⟩, ⟨(some 3), (.mov (.tmp 13)), none⟩]
def doormanref02_Count_r5 : List AStep := [⟨(some 9), (.mov (.tmp 0)), none⟩, ⟨(some 10), (.mov (.tmp 4)), none⟩, ⟨(some 11), (.call (.con (.func n_doormanref02_Step [])) [(.tmp 9), (.tmp 10)]), none⟩, ⟨(some 4), (.mov (.tmp 11)), none⟩]
def doormanref02_Count_l6 : ACode := (.seq (.seq (.ops doormanref02_Count_r3) (.cond (.tmp 8) .skip (.exit 0))) (.seq (.block 1 (.ops doormanref02_Count_r4)) (.ops doormanref02_Count_r5)))
def doormanref02_Count_r7 : List AStep := [⟨(some 14), (.mov (.tmp 3)), none⟩, ⟨(some 2), (.mov (.tmp 14)), none⟩]
def doormanref02_Count_c : ACode := (.seq (.ops doormanref02_Count_r0) (.seq (.ops doormanref02_Count_r1) (.seq (.seq (.ops doormanref02_Count_r2) (.block 0 (.loop doormanref02_Count_l6))) (.seq (.ops doormanref02_Count_r7) .ret))))
def doormanref02_Count_a : AFunc := ⟨15, [(.tmp 2)], doormanref02_Count_c⟩
/-! cmp_Compare_string -/
def cmp_Compare_string_r0 : List AStep := [⟨(some 4), (.mov (.con (.int .i64 0))), none⟩]
def cmp_Compare_string_r1 : List AStep := [⟨(some 7), (.mov (.tmp 0)), none⟩, ⟨(some 8), (.call (.con (.func n_cmp_isNaN_string [])) [(.tmp 7)]), none⟩, ⟨(some 5), (.mov (.tmp 8)), none⟩]
def cmp_Compare_string_r2 : List AStep := [⟨(some 9), (.mov (.tmp 1)), none⟩, ⟨(some 10), (.call (.con (.func n_cmp_isNaN_string [])) [(.tmp 9)]), none⟩, ⟨(some 6), (.mov (.tmp 10)), none⟩]
def cmp_Compare_string_r3 : List AStep := [⟨(some 11), (.mov (.tmp 5)), none⟩]
def cmp_Compare_string_r4 : List AStep := [⟨(some 12), (.mov (.tmp 6)), none⟩]
def cmp_Compare_string_r5 : List AStep := [⟨(some 4), (.mov (.con (.int .i64 0))), none⟩]
def cmp_Compare_string_r6 : List AStep := [⟨(some 4), (.mov (.con (.int .i64 (-1)))), none⟩]
def cmp_Compare_string_r7 : List AStep := [⟨(some 13), (.mov (.tmp 6)), none⟩]
def cmp_Compare_string_r8 : List AStep := [⟨(some 4), (.mov (.con (.int .i64 1))), none⟩]
def cmp_Compare_string_r9 : List AStep := [⟨(some 14), (.mov (.tmp 0)), none⟩, ⟨(some 15), (.mov (.tmp 1)), none⟩, ⟨(some 16), (.bin .lss (.tmp 14) (.tmp 15)), none⟩]
def cmp_Compare_string_r10 : List AStep := [⟨(some 4), (.mov (.con (.int .i64 (-1)))), none⟩]
def cmp_Compare_string_r11 : List AStep := [⟨(some 17), (.mov (.tmp 0)), none⟩, ⟨(some 18), (.mov (.tmp 1)), none⟩, ⟨(some 19), (.bin .gtr (.tmp 17) (.tmp 18)), none⟩]
def cmp_Compare_string_r12 : List AStep := [⟨(some 4), (.mov (.con (.int .i64 1))), none⟩]
def cmp_Compare_string_r13 : List AStep := [⟨(some 4), (.mov (.con (.int .i64 0))), none⟩]
def cmp_Compare_string_c : ACode := (.seq (.ops cmp_Compare_string_r0) (.seq (.ops cmp_Compare_string_r1) (.seq (.ops cmp_Compare_string_r2) (.seq (.seq (.ops cmp_Compare_string_r3) (.cond (.tmp 11) (.seq (.seq (.ops cmp_Compare_string_r4) (.cond (.tmp 12) (.seq (.ops cmp_Compare_string_r5) .ret) .skip)) (.seq (.ops cmp_Compare_string_r6) .ret)) .skip)) (.seq (.seq (.ops cmp_Compare_string_r7) (.cond (.tmp 13) (.seq (.ops cmp_Compare_string_r8) .ret) .skip)) (.seq (.seq (.ops cmp_Compare_string_r9) (.cond (.tmp 16) (.seq (.ops cmp_Compare_string_r10) .ret) .skip)) (.seq (.seq (.ops cmp_Compare_string_r11) (.cond (.tmp 19) (.seq (.ops cmp_Compare_string_r12) .ret) .skip)) (.seq (.ops cmp_Compare_string_r13) .ret))))))))
def cmp_Compare_string_a : AFunc := ⟨20, [(.tmp 4)], cmp_Compare_string_c⟩
/-! stringslite_Index -/
def stringslite_Index_r0 : List AStep := [⟨(some 4), (.mov (.con (.int .i64 0))), none⟩]
def stringslite_Index_r1 : List AStep := [⟨(some 14), (.mov (.tmp 1)), none⟩, ⟨(some 15), (.lenT (.tmp 14)), none⟩, ⟨(some 5), (.mov (.tmp 15)), none⟩]
def stringslite_Index_r2 : List AStep := [⟨(some 17), (.mov (.tmp 5)), none⟩, ⟨(some 18), (.bin .eql (.tmp 17) (.con (.int .i64 0))), none⟩, ⟨(some 19), (.mov (.tmp 18)), none⟩, ⟨(some 20), (.mov (.tmp 1)), (some (19, false))⟩, ⟨(some 21), (.mov (.tmp 0)), (some (19, false))⟩, ⟨(some 22), (.bin .eql (.tmp 20) (.tmp 21)), (some (19, false))⟩, ⟨(some 23), (.pick (.tmp 19) (.con (.bool true)) (.tmp 22)), none⟩, ⟨(some 16), (.mov (.tmp 23)), none⟩]
def stringslite_Index_r3 : List AStep := [⟨(some 4), (.mov (.con (.int .i64 0))), none⟩]
def stringslite_Index_r4 : List AStep := [⟨(some 25), (.mov (.tmp 5)), none⟩, ⟨(some 26), (.bin .eql (.tmp 25) (.con (.int .i64 1))), none⟩, ⟨(some 24), (.mov (.tmp 26)), none⟩]
def stringslite_Index_r5 : List AStep := [⟨(some 27), (.mov (.tmp 0)), none⟩, ⟨(some 28), (.mov (.tmp 1)), none⟩, ⟨(some 29), (.indexStr (.tmp 28) (.con (.int .i64 0))), none⟩, ⟨(some 30), (.call (.con (.func n_stringslite_IndexByte [])) [(.tmp 27), (.tmp 29)]), none⟩, ⟨(some 4), (.mov (.tmp 30)), none⟩]
def stringslite_Index_r6 : List AStep := [⟨(some 32), (.mov (.tmp 5)), none⟩, ⟨(some 33), (.mov (.tmp 0)), none⟩, ⟨(some 34), (.lenT (.tmp 33)), none⟩, ⟨(some 35), (.bin .geq (.tmp 32) (.tmp 34)), none⟩, ⟨(some 31), (.mov (.tmp 35)), none⟩]
def stringslite_Index_r7 : List AStep := [⟨(some 4), (.mov (.con (.int .i64 (-1)))), none⟩]
def stringslite_Index_r8 : List AStep := [⟨(some 37), (.mov (.tmp 5)), none⟩, ⟨(some 38), (.load false 1 (.con (.gptr g_bytealg_MaxLen))), none⟩, ⟨(some 39), (.bin .leq (.tmp 37) (.tmp 38)), none⟩, ⟨(some 40), (.mov (.tmp 39)), none⟩, ⟨(some 41), (.mov (.tmp 0)), (some (40, true))⟩, ⟨(some 42), (.lenT (.tmp 41)), (some (40, true))⟩, ⟨(some 43), (.bin .leq (.tmp 42) (.con (.int .i64 64))), (some (40, true))⟩, ⟨(some 44), (.pick (.tmp 40) (.tmp 43) (.con (.bool false))), none⟩, ⟨(some 36), (.mov (.tmp 44)), none⟩]
def stringslite_Index_r9 : List AStep := [⟨(some 45), (.mov (.tmp 0)), none⟩, ⟨(some 46), (.mov (.tmp 1)), none⟩, ⟨(some 47), (.call (.con (.func n_bytealg_IndexString [])) [(.tmp 45), (.tmp 46)]), none⟩, ⟨(some 4), (.mov (.tmp 47)), none⟩]
def stringslite_Index_r10 : List AStep := [⟨(some 48), (.mov (.tmp 1)), none⟩, ⟨(some 49), (.indexStr (.tmp 48) (.con (.int .i64 0))), none⟩, ⟨(some 6), (.mov (.tmp 49)), none⟩]
def stringslite_Index_r11 : List AStep := [⟨(some 50), (.mov (.tmp 1)), none⟩, ⟨(some 51), (.indexStr (.tmp 50) (.con (.int .i64 1))), none⟩, ⟨(some 7), (.mov (.tmp 51)), none⟩]
def stringslite_Index_r12 : List AStep := [⟨(some 8), (.mov (.con (.int .i64 0))), none⟩]
def stringslite_Index_r13 : List AStep := [⟨(some 52), (.mov (.tmp 0)), none⟩, ⟨(some 53), (.lenT (.tmp 52)), none⟩, ⟨(some 54), (.mov (.tmp 5)), none⟩, ⟨(some 55), (.bin .sub (.tmp 53) (.tmp 54)), none⟩, ⟨(some 56), (.bin .add (.tmp 55) (.con (.int .i64 1))), none⟩, ⟨(some 9), (.mov (.tmp 56)), none⟩]
def stringslite_Index_r14 : List AStep := [⟨(some 10), (.mov (.con (.int .i64 0))), none⟩]
def stringslite_Index_r15 : List AStep := [⟨(some 57), (.mov (.tmp 8)), none⟩, ⟨(some 58), (.mov (.tmp 9)), none⟩, ⟨(some 59), (.bin .lss (.tmp 57) (.tmp 58)), none⟩]
def stringslite_Index_r16 : List AStep := [⟨(some 60), (.mov (.tmp 0)), none⟩, ⟨(some 61), (.mov (.tmp 8)), none⟩, ⟨(some 62), (.indexStr (.tmp 60) (.tmp 61)), none⟩, ⟨(some 63), (.mov (.tmp 6)), none⟩, ⟨(some 64), (.bin .neq (.tmp 62) (.tmp 63)), none⟩]
def stringslite_Index_r17 : List AStep := [⟨(some 65), (.mov (.tmp 0)), none⟩, ⟨(some 66), (.mov (.tmp 8)), none⟩, ⟨(some 67), (.bin .add (.tmp 66) (.con (.int .i64 1))), none⟩, ⟨(some 68), (.mov (.tmp 9)), none⟩, ⟨(some 69), (.sliceT (.tmp 65) (some (.tmp 67)) (some (.tmp 68))), none⟩, ⟨(some 70), (.mov (.tmp 6)), none⟩, ⟨(some 71), (.call (.con (.func n_stringslite_IndexByte [])) [(.tmp 69), (.tmp 70)]), none⟩, ⟨(some 11), (.mov (.tmp 71)), none⟩]
def stringslite_Index_r18 : List AStep := [⟨(some 72), (.mov (.tmp 11)), none⟩, ⟨(some 73), (.bin .lss (.tmp 72) (.con (.int .i64 0))), none⟩]
def stringslite_Index_r19 : List AStep := [⟨(some 4), (.mov (.con (.int .i64 (-1)))), none⟩]
def stringslite_Index_r20 : List AStep := [⟨(some 74), (.mov (.tmp 8)), none⟩, ⟨(some 75), (.mov (.tmp 11)), none⟩, ⟨(some 76), (.bin .add (.tmp 75) (.con (.int .i64 1))), none⟩, ⟨(some 77), (.bin .add (.tmp 74) (.tmp 76)), none⟩, ⟨(some 8), (.mov (.tmp 77)), none⟩]
def stringslite_Index_r21 : List AStep := [⟨(some 78), (.mov (.tmp 0)), none⟩, ⟨(some 79), (.mov (.tmp 8)), none⟩, ⟨(some 80), (.bin .add (.tmp 79) (.con (.int .i64 1))), none⟩, ⟨(some 81), (.indexStr (.tmp 78) (.tmp 80)), none⟩, ⟨(some 82), (.mov (.tmp 7)), none⟩, ⟨(some 83), (.bin .eql (.tmp 81) (.tmp 82)), none⟩, ⟨(some 84), (.mov (.tmp 83)), none⟩, ⟨(some 85), (.mov (.tmp 0)), (some (84, true))⟩, ⟨(some 86), (.mov (.tmp 8)), (some (84, true))⟩, ⟨(some 87), (.mov (.tmp 8)), (some (84, true))⟩, ⟨(some 88), (.mov (.tmp 5)), (some (84, true))⟩, ⟨(some 89), (.bin .add (.tmp 87) (.tmp 88)), (some (84, true))⟩, ⟨(some 90), (.sliceT (.tmp 85) (some (.tmp 86)) (some (.tmp 89))), (some (84, true))⟩, ⟨(some 91), (.mov (.tmp 1)), (some (84, true))⟩, ⟨(some 92), (.bin .eql (.tmp 90) (.tmp 91)), (some (84, true))⟩, ⟨(some 93), (.pick (.tmp 84) (.tmp 92) (.con (.bool false))), none⟩]
def stringslite_Index_r22 : List AStep := [⟨(some 94), (.mov (.tmp 8)), none⟩, ⟨(some 4), (.mov (.tmp 94)), none⟩]
def stringslite_Index_r23 : List AStep := [⟨(some 95), (.mov (.tmp 8)), none⟩, ⟨(some 96), (.bin .add (.tmp 95) (.con (.int .i64 1))), none⟩, ⟨(some 8), (.mov (.tmp 96)), none⟩]
def stringslite_Index_r24 : List AStep := [⟨(some 97), (.mov (.tmp 10)), none⟩, ⟨(some 98), (.bin .add (.tmp 97) (.con (.int .i64 1))), none⟩, ⟨(some 10), (.mov (.tmp 98)), none⟩]
def stringslite_Index_r25 : List AStep := [⟨(some 99), (.mov (.tmp 5)), none⟩, ⟨(some 100), (.load false 1 (.con (.gptr g_bytealg_MaxLen))), none⟩, ⟨(some 101), (.bin .leq (.tmp 99) (.tmp 100)), none⟩, ⟨(some 102), (.mov (.tmp 101)), none⟩, ⟨(some 103), (.mov (.tmp 10)), (some (102, true))⟩, ⟨(some 104), (.mov (.tmp 8)), (some (102, true))⟩, ⟨(some 105), (.call (.con (.func n_bytealg_Cutover [])) [(.tmp 104)]), (some (102, true))⟩, ⟨(some 106), (.bin .gtr (.tmp 103) (.tmp 105)), (some (102, true))⟩, ⟨(some 107), (.pick (.tmp 102) (.tmp 106) (.con (.bool false))), none⟩]
def stringslite_Index_r26 : List AStep := [⟨(some 108), (.mov (.tmp 0)), none⟩, ⟨(some 109), (.mov (.tmp 8)), none⟩, ⟨(some 110), (.sliceT (.tmp 108) (some (.tmp 109)) none), none⟩, ⟨(some 111), (.mov (.tmp 1)), none⟩, ⟨(some 112), (.call (.con (.func n_bytealg_IndexString [])) [(.tmp 110), (.tmp 111)]), none⟩, ⟨(some 12), (.mov (.tmp 112)), none⟩]
def stringslite_Index_r27 : List AStep := [⟨(some 113), (.mov (.tmp 12)), none⟩, ⟨(some 114), (.bin .geq (.tmp 113) (.con (.int .i64 0))), none⟩]
def stringslite_Index_r28 : List AStep := [⟨(some 115), (.mov (.tmp 12)), none⟩, ⟨(some 116), (.mov (.tmp 8)), none⟩, ⟨(some 117), (.bin .add (.tmp 115) (.tmp 116)), none⟩, ⟨(some 4), (.mov (.tmp 117)), none⟩]
def stringslite_Index_r29 : List AStep := [⟨(some 4), (.mov (.con (.int .i64 (-1)))), none⟩]
def stringslite_Index_r30 : List AStep := [⟨(some 118), (.mov (.tmp 5)), none⟩, ⟨(some 119), (.load false 1 (.con (.gptr g_bytealg_MaxLen))), none⟩, ⟨(some 120), (.bin .gtr (.tmp 118) (.tmp 119)), none⟩, ⟨(some 121), (.mov (.tmp 120)), none⟩, ⟨(some 122), (.mov (.tmp 10)), (some (121, true))⟩, ⟨(some 123), (.mov (.tmp 8)), (some (121, true))⟩, ⟨(some 124), (.bin .shr (.tmp 123) (.con (.int .u64 4))), (some (121, true))⟩, ⟨(some 125), (.bin .add (.con (.int .i64 4)) (.tmp 124)), (some (121, true))⟩, ⟨(some 126), (.bin .geq (.tmp 122) (.tmp 125)), (some (121, true))⟩, ⟨(some 127), (.pick (.tmp 121) (.tmp 126) (.con (.bool false))), none⟩, ⟨(some 128), (.mov (.tmp 127)), none⟩, ⟨(some 129), (.mov (.tmp 8)), (some (128, true))⟩, ⟨(some 130), (.mov (.tmp 9)), (some (128, true))⟩, ⟨(some 131), (.bin .lss (.tmp 129) (.tmp 130)), (some (128, true))⟩, ⟨(some 132), (.pick (.tmp 128) (.tmp 131) (.con (.bool false))), none⟩]
def stringslite_Index_r31 : List AStep := [⟨(some 133), (.mov (.tmp 0)), none⟩, ⟨(some 134), (.mov (.tmp 8)), none⟩, ⟨(some 135), (.sliceT (.tmp 133) (some (.tmp 134)) none), none⟩, ⟨(some 136), (.mov (.tmp 1)), none⟩, ⟨(some 137), (.call (.con (.func n_bytealg_IndexRabinKarp_string [])) [(.tmp 135), (.tmp 136)]), none⟩, ⟨(some 13), (.mov (.tmp 137)), none⟩]
def stringslite_Index_r32 : List AStep := [⟨(some 138), (.mov (.tmp 13)), none⟩, ⟨(some 139), (.bin .lss (.tmp 138) (.con (.int .i64 0))), none⟩]
def stringslite_Index_r33 : List AStep := [⟨(some 4), (.mov (.con (.int .i64 (-1)))), none⟩]
def stringslite_Index_r34 : List AStep := [⟨(some 140), (.mov (.tmp 8)), none⟩, ⟨(some 141), (.mov (.tmp 13)), none⟩, ⟨(some 142), (.bin .add (.tmp 140) (.tmp 141)), none⟩, ⟨(some 4), (.mov (.tmp 142)), none⟩]
def stringslite_Index_l35 : ACode := (.seq (.seq (.ops stringslite_Index_r15) (.cond (.tmp 59) .skip (.exit 1))) (.block 2 (.seq (.seq (.ops stringslite_Index_r16) (.cond (.tmp 64) (.seq (.ops stringslite_Index_r17) (.seq (.seq (.ops stringslite_Index_r18) (.cond (.tmp 73) (.seq (.ops stringslite_Index_r19) .ret) .skip)) (.ops stringslite_Index_r20))) .skip)) (.seq (.seq (.ops stringslite_Index_r21) (.cond (.tmp 93) (.seq (.ops stringslite_Index_r22) .ret) .skip)) (.seq (.ops stringslite_Index_r23) (.seq (.ops stringslite_Index_r24) (.seq (.ops stringslite_Index_r25) (.cond (.tmp 107) (.seq (.ops stringslite_Index_r26) (.seq (.seq (.ops stringslite_Index_r27) (.cond (.tmp 114) (.seq (.ops stringslite_Index_r28) .ret) .skip)) (.seq (.ops stringslite_Index_r29) .ret))) (.seq (.ops stringslite_Index_r30) (.cond (.tmp 132) (.seq (.ops stringslite_Index_r31) (.seq (.seq (.ops stringslite_Index_r32) (.cond (.tmp 139) (.seq (.ops stringslite_Index_r33) .ret) .skip)) (.seq (.ops stringslite_Index_r34) .ret))) .skip))))))))))
def stringslite_Index_r36 : List AStep := [⟨(some 4), (.mov (.con (.int .i64 (-1)))), none⟩]
def stringslite_Index_c : ACode := (.seq (.ops stringslite_Index_r0) (.seq (.ops stringslite_Index_r1) (.seq (.block 0 (.seq (.ops stringslite_Index_r2) (.cond (.tmp 16) (.seq (.ops stringslite_Index_r3) .ret) (.seq (.ops stringslite_Index_r4) (.cond (.tmp 24) (.seq (.ops stringslite_Index_r5) .ret) (.seq (.ops stringslite_Index_r6) (.cond (.tmp 31) (.seq (.ops stringslite_Index_r7) .ret) (.seq (.ops stringslite_Index_r8) (.cond (.tmp 36) (.seq (.ops stringslite_Index_r9) .ret) .skip))))))))) (.seq (.ops stringslite_Index_r10) (.seq (.ops stringslite_Index_r11) (.seq (.ops stringslite_Index_r12) (.seq (.ops stringslite_Index_r13) (.seq (.ops stringslite_Index_r14) (.seq (.block 1 (.loop stringslite_Index_l35)) (.seq (.ops stringslite_Index_r36) .ret))))))))))
def stringslite_Index_a : AFunc := ⟨143, [(.tmp 4)], stringslite_Index_c⟩
/-! glyph_Valid -/
def glyph_Valid_r0 : List AStep := [⟨(some 2), (.mov (.con (.bool false))), none⟩]
def glyph_Valid_r1 : List AStep := [⟨(some 5), (.mov (.tmp 0)), none⟩, ⟨(some 6), (.rangeT (.tmp 5)), none⟩]
def glyph_Valid_r2 : List AStep := [⟨(some 7), (.nextT (.tmp 6)), none⟩, ⟨(some 8), (.extract (.tmp 7) 0), none⟩]
def glyph_Valid_r3 : List AStep := [⟨(some 9), (.extract (.tmp 7) 1), none⟩, ⟨(some 10), (.extract (.tmp 7) 2), none⟩, ⟨(some 3), (.mov (.tmp 9)), none⟩, ⟨(some 4), (.mov (.tmp 10)), none⟩]
def glyph_Valid_r4 : List AStep := [⟨(some 11), (.mov (.tmp 4)), none⟩, ⟨(some 12), (.bin .eql (.tmp 11) (.con (.int .i32 65533))), none⟩, ⟨(some 13), (.mov (.tmp 12)), none⟩, ⟨(some 14), (.mov (.tmp 0)), (some (13, true))⟩, ⟨(some 15), (.mov (.tmp 3)), (some (13, true))⟩, ⟨(some 16), (.sliceT (.tmp 14) (some (.tmp 15)) none), (some (13, true))⟩, ⟨(some 17), (.call (.con (.func n_strings_HasPrefix [])) [(.tmp 16), (.con (.str [239, 191, 189]))]), (some (13, true))⟩, ⟨(some 18), (.not (.tmp 17)), (some (13, true))⟩, ⟨(some 19), (.pick (.tmp 13) (.tmp 18) (.con (.bool false))), none⟩]
def glyph_Valid_r5 : List AStep := [⟨(some 2), (.mov (.con (.bool false))), none⟩]
def glyph_Valid_l6 : ACode := (.seq (.ops glyph_Valid_r2) (.seq (.cond (.tmp 8) .skip (.exit 0)) (.block 1 (.seq (.ops glyph_Valid_r3) (.seq (.ops glyph_Valid_r4) (.cond (.tmp 19) (.seq (.ops glyph_Valid_r5) .ret) .skip))))))
def glyph_Valid_r7 : List AStep := [⟨(some 2), (.mov (.con (.bool true))), none⟩]
def glyph_Valid_c : ACode := (.seq (.ops glyph_Valid_r0) (.seq (.seq (.ops glyph_Valid_r1) (.block 0 (.loop glyph_Valid_l6))) (.seq (.ops glyph_Valid_r7) .ret)))
def glyph_Valid_a : AFunc := ⟨20, [(.tmp 2)], glyph_Valid_c⟩
/-! glyph_Count -/
def glyph_Count_r0 : List AStep := [⟨(some 2), (.mov (.con (.int .i64 0))), none⟩]
def glyph_Count_r1 : List AStep := [⟨(some 3), (.mov (.con (.int .i64 0))), none⟩]
def glyph_Count_r2 : List AStep := [⟨(some 4), (.mov (.tmp 0)), none⟩, ⟨(some 5), (.rangeT (.tmp 4)), none⟩]
def glyph_Count_r3 : List AStep := [⟨(some 6), (.nextT (.tmp 5)), none⟩, ⟨(some 7), (.extract (.tmp 6) 0), none⟩]
def glyph_Count_r4 : List AStep := [⟨(some 8), (.mov (.tmp 3)), none⟩, ⟨(some 9), (.bin .add (.tmp 8) (.con (.int .i64 1))), none⟩, ⟨(some 3), (.mov (.tmp 9)), none⟩]
def glyph_Count_l5 : ACode := (.seq (.ops glyph_Count_r3) (.seq (.cond (.tmp 7) .skip (.exit 0)) (.block 1 (.ops glyph_Count_r4))))
def glyph_Count_r6 : List AStep := [⟨(some 10), (.mov (.tmp 3)), none⟩, ⟨(some 2), (.mov (.tmp 10)), none⟩]
def glyph_Count_c : ACode := (.seq (.ops glyph_Count_r0) (.seq (.ops glyph_Count_r1) (.seq (.seq (.ops glyph_Count_r2) (.block 0 (.loop glyph_Count_l5))) (.seq (.ops glyph_Count_r6) .ret))))
def glyph_Count_a : AFunc := ⟨11, [(.tmp 2)], glyph_Count_c⟩
/-! strings_Count -/
def strings_Count_r0 : List AStep := [⟨(some 4), (.mov (.con (.int .i64 0))), none⟩]
def strings_Count_r1 : List AStep := [⟨(some 7), (.mov (.tmp 1)), none⟩, ⟨(some 8), (.lenT (.tmp 7)), none⟩, ⟨(some 9), (.bin .eql (.tmp 8) (.con (.int .i64 0))), none⟩]
def strings_Count_r2 : List AStep := [⟨(some 10), (.mov (.tmp 0)), none⟩, ⟨(some 11), (.call (.con (.func n_utf8_RuneCountInString [])) [(.tmp 10)]), none⟩, ⟨(some 12), (.bin .add (.tmp 11) (.con (.int .i64 1))), none⟩, ⟨(some 4), (.mov (.tmp 12)), none⟩]
def strings_Count_r3 : List AStep := [⟨(some 13), (.mov (.tmp 1)), none⟩, ⟨(some 14), (.lenT (.tmp 13)), none⟩, ⟨(some 15), (.bin .eql (.tmp 14) (.con (.int .i64 1))), none⟩]
def strings_Count_r4 : List AStep := [⟨(some 16), (.mov (.tmp 0)), none⟩, ⟨(some 17), (.mov (.tmp 1)), none⟩, ⟨(some 18), (.indexStr (.tmp 17) (.con (.int .i64 0))), none⟩, ⟨(some 19), (.call (.con (.func n_bytealg_CountString [])) [(.tmp 16), (.tmp 18)]), none⟩, ⟨(some 4), (.mov (.tmp 19)), none⟩]
def strings_Count_r5 : List AStep := [⟨(some 5), (.mov (.con (.int .i64 0))), none⟩]
def strings_Count_r6 : List AStep := [⟨(some 20), (.mov (.tmp 0)), none⟩, ⟨(some 21), (.mov (.tmp 1)), none⟩, ⟨(some 22), (.call (.con (.func n_strings_Index [])) [(.tmp 20), (.tmp 21)]), none⟩, ⟨(some 6), (.mov (.tmp 22)), none⟩]
def strings_Count_r7 : List AStep := [⟨(some 23), (.mov (.tmp 6)), none⟩, ⟨(some 24), (.bin .eql (.tmp 23) (.con (.int .i64 (-1)))), none⟩]
def strings_Count_r8 : List AStep := [⟨(some 25), (.mov (.tmp 5)), none⟩, ⟨(some 4), (.mov (.tmp 25)), none⟩]
def strings_Count_r9 : List AStep := [⟨(some 26), (.mov (.tmp 5)), none⟩, ⟨(some 27), (.bin .add (.tmp 26) (.con (.int .i64 1))), none⟩, ⟨(some 5), (.mov (.tmp 27)), none⟩]
def strings_Count_r10 : List AStep := [⟨(some 28), (.mov (.tmp 0)), none⟩, ⟨(some 29), (.mov (.tmp 6)), none⟩, ⟨(some 30), (.mov (.tmp 1)), none⟩, ⟨(some 31), (.lenT (.tmp 30)), none⟩, ⟨(some 32), (.bin .add (.tmp 29) (.tmp 31)), none⟩, ⟨(some 33), (.sliceT (.tmp 28) (some (.tmp 32)) none), none⟩, ⟨(some 0), (.mov (.tmp 33)), none⟩]
def strings_Count_l11 : ACode := (.block 1 (.seq (.ops strings_Count_r6) (.seq (.seq (.ops strings_Count_r7) (.cond (.tmp 24) (.seq (.ops strings_Count_r8) .ret) .skip)) (.seq (.ops strings_Count_r9) (.ops strings_Count_r10)))))
def strings_Count_c : ACode := (.seq (.ops strings_Count_r0) (.seq (.seq (.ops strings_Count_r1) (.cond (.tmp 9) (.seq (.ops strings_Count_r2) .ret) .skip)) (.seq (.seq (.ops strings_Count_r3) (.cond (.tmp 15) (.seq (.ops strings_Count_r4) .ret) .skip)) (.seq (.ops strings_Count_r5) (.block 0 (.loop strings_Count_l11))))))
def strings_Count_a : AFunc := ⟨34, [(.tmp 4)], strings_Count_c⟩
/-! strings_Index -/
def strings_Index_r0 : List AStep := [⟨(some 4), (.mov (.con (.int .i64 0))), none⟩]
def strings_Index_r1 : List AStep := [⟨(some 5), (.mov (.tmp 0)), none⟩, ⟨(some 6), (.mov (.tmp 1)), none⟩, ⟨(some 7), (.call (.con (.func n_stringslite_Index [])) [(.tmp 5), (.tmp 6)]), none⟩, ⟨(some 4), (.mov (.tmp 7)), none⟩]
def strings_Index_c : ACode := (.seq (.ops strings_Index_r0) (.seq (.ops strings_Index_r1) .ret))
def strings_Index_a : AFunc := ⟨8, [(.tmp 4)], strings_Index_c⟩
/-! doormanref02_Long -/
def doormanref02_Long_r0 : List AStep := [⟨(some 4), (.mov (.con (.int .i64 0))), none⟩]
def doormanref02_Long_r1 : List AStep := [⟨(some 9), (.mov (.tmp 0)), none⟩, ⟨(some 10), (.mov (.tmp 1)), none⟩, ⟨(some 11), (.indexStr (.tmp 9) (.tmp 10)), none⟩, ⟨(some 5), (.mov (.tmp 11)), none⟩]
def doormanref02_Long_r2 : List AStep := [⟨(some 12), (.mov (.tmp 0)), none⟩, ⟨(some 13), (.mov (.tmp 1)), none⟩, ⟨(some 14), (.bin .add (.tmp 13) (.con (.int .i64 1))), none⟩, ⟨(some 15), (.call (.con (.func n_doormanref02_in [])) [(.tmp 12), (.tmp 14), (.con (.int .u8 128)), (.con (.int .u8 191))]), none⟩, ⟨(some 6), (.mov (.tmp 15)), none⟩]
def doormanref02_Long_r3 : List AStep := [⟨(some 16), (.mov (.tmp 0)), none⟩, ⟨(some 17), (.mov (.tmp 1)), none⟩, ⟨(some 18), (.bin .add (.tmp 17) (.con (.int .i64 2))), none⟩, ⟨(some 19), (.call (.con (.func n_doormanref02_in [])) [(.tmp 16), (.tmp 18), (.con (.int .u8 128)), (.con (.int .u8 191))]), none⟩, ⟨(some 7), (.mov (.tmp 19)), none⟩]
def doormanref02_Long_r4 : List AStep := [⟨(some 20), (.mov (.tmp 0)), none⟩, ⟨(some 21), (.mov (.tmp 1)), none⟩, ⟨(some 22), (.bin .add (.tmp 21) (.con (.int .i64 3))), none⟩, ⟨(some 23), (.call (.con (.func n_doormanref02_in [])) [(.tmp 20), (.tmp 22), (.con (.int .u8 128)), (.con (.int .u8 191))]), none⟩, ⟨(some 8), (.mov (.tmp 23)), none⟩]
def doormanref02_Long_r5 : List AStep := [⟨(some 25), (.mov (.tmp 5)), none⟩, ⟨(some 26), (.bin .lss (.tmp 25) (.con (.int .u8 128))), none⟩, ⟨(some 24), (.mov (.tmp 26)), none⟩]
def doormanref02_Long_r6 : List AStep := [⟨(some 4), (.mov (.con (.int .i64 1))), none⟩]
def doormanref02_Long_r7 : List AStep := [⟨(some 28), (.mov (.tmp 5)), none⟩, ⟨(some 29), (.bin .geq (.tmp 28) (.con (.int .u8 194))), none⟩, ⟨(some 30), (.mov (.tmp 29)), none⟩, ⟨(some 31), (.mov (.tmp 5)), (some (30, true))⟩, ⟨(some 32), (.bin .leq (.tmp 31) (.con (.int .u8 223))), (some (30, true))⟩, ⟨(some 33), (.pick (.tmp 30) (.tmp 32) (.con (.bool false))), none⟩, ⟨(some 27), (.mov (.tmp 33)), none⟩]
def doormanref02_Long_r8 : List AStep := [⟨(some 34), (.mov (.tmp 6)), none⟩]
def doormanref02_Long_r9 : List AStep := [⟨(some 4), (.mov (.con (.int .i64 2))), none⟩]
def doormanref02_Long_r10 : List AStep := [⟨(some 4), (.mov (.con (.int .i64 0))), none⟩]
def doormanref02_Long_r11 : List AStep := [⟨(some 36), (.mov (.tmp 5)), none⟩, ⟨(some 37), (.bin .geq (.tmp 36) (.con (.int .u8 224))), none⟩, ⟨(some 38), (.mov (.tmp 37)), none⟩, ⟨(some 39), (.mov (.tmp 5)), (some (38, true))⟩, ⟨(some 40), (.bin .leq (.tmp 39) (.con (.int .u8 239))), (some (38, true))⟩, ⟨(some 41), (.pick (.tmp 38) (.tmp 40) (.con (.bool false))), none⟩, ⟨(some 35), (.mov (.tmp 41)), none⟩]
def doormanref02_Long_r12 : List AStep := [⟨(some 42), (.mov (.tmp 5)), none⟩, ⟨(some 43), (.bin .eql (.tmp 42) (.con (.int .u8 224))), none⟩]
def doormanref02_Long_r13 : List AStep := [⟨(some 44), (.mov (.tmp 0)), none⟩, ⟨(some 45), (.mov (.tmp 1)), none⟩, ⟨(some 46), (.bin .add (.tmp 45) (.con (.int .i64 1))), none⟩, ⟨(some 47), (.call (.con (.func n_doormanref02_in [])) [(.tmp 44), (.tmp 46), (.con (.int .u8 160)), (.con (.int .u8 191))]), none⟩, ⟨(some 6), (.mov (.tmp 47)), none⟩]
def doormanref02_Long_r14 : List AStep := [⟨(some 48), (.mov (.tmp 5)), none⟩, ⟨(some 49), (.bin .eql (.tmp 48) (.con (.int .u8 237))), none⟩]
def doormanref02_Long_r15 : List AStep := [⟨(some 50), (.mov (.tmp 0)), none⟩, ⟨(some 51), (.mov (.tmp 1)), none⟩, ⟨(some 52), (.bin .add (.tmp 51) (.con (.int .i64 1))), none⟩, ⟨(some 53), (.call (.con (.func n_doormanref02_in [])) [(.tmp 50), (.tmp 52), (.con (.int .u8 128)), (.con (.int .u8 159))]), none⟩, ⟨(some 6), (.mov (.tmp 53)), none⟩]
def doormanref02_Long_r16 : List AStep := [⟨(some 54), (.mov (.tmp 6)), none⟩, ⟨(some 55), (.mov (.tmp 54)), none⟩, ⟨(some 56), (.mov (.tmp 7)), (some (55, true))⟩, ⟨(some 57), (.pick (.tmp 55) (.tmp 56) (.con (.bool false))), none⟩]
def doormanref02_Long_r17 : List AStep := [⟨(some 4), (.mov (.con (.int .i64 3))), none⟩]
def doormanref02_Long_r18 : List AStep := [⟨(some 4), (.mov (.con (.int .i64 0))), none⟩]
def doormanref02_Long_r19 : List AStep := [⟨(some 59), (.mov (.tmp 5)), none⟩, ⟨(some 60), (.bin .geq (.tmp 59) (.con (.int .u8 240))), none⟩, ⟨(some 61), (.mov (.tmp 60)), none⟩, ⟨(some 62), (.mov (.tmp 5)), (some (61, true))⟩, ⟨(some 63), (.bin .leq (.tmp 62) (.con (.int .u8 244))), (some (61, true))⟩, ⟨(some 64), (.pick (.tmp 61) (.tmp 63) (.con (.bool false))), none⟩, ⟨(some 58), (.mov (.tmp 64)), none⟩]
def doormanref02_Long_r20 : List AStep := [⟨(some 65), (.mov (.tmp 5)), none⟩, ⟨(some 66), (.bin .eql (.tmp 65) (.con (.int .u8 240))), none⟩]
def doormanref02_Long_r21 : List AStep := [⟨(some 67), (.mov (.tmp 0)), none⟩, ⟨(some 68), (.mov (.tmp 1)), none⟩, ⟨(some 69), (.bin .add (.tmp 68) (.con (.int .i64 1))), none⟩, ⟨(some 70), (.call (.con (.func n_doormanref02_in [])) [(.tmp 67), (.tmp 69), (.con (.int .u8 144)), (.con (.int .u8 191))]), none⟩, ⟨(some 6), (.mov (.tmp 70)), none⟩]
def doormanref02_Long_r22 : List AStep := [⟨(some 71), (.mov (.tmp 5)), none⟩, ⟨(some 72), (.bin .eql (.tmp 71) (.con (.int .u8 244))), none⟩]
def doormanref02_Long_r23 : List AStep := [⟨(some 73), (.mov (.tmp 0)), none⟩, ⟨(some 74), (.mov (.tmp 1)), none⟩, ⟨(some 75), (.bin .add (.tmp 74) (.con (.int .i64 1))), none⟩, ⟨(some 76), (.call (.con (.func n_doormanref02_in [])) [(.tmp 73), (.tmp 75), (.con (.int .u8 128)), (.con (.int .u8 143))]), none⟩, ⟨(some 6), (.mov (.tmp 76)), none⟩]
def doormanref02_Long_r24 : List AStep := [⟨(some 77), (.mov (.tmp 6)), none⟩, ⟨(some 78), (.mov (.tmp 77)), none⟩, ⟨(some 79), (.mov (.tmp 7)), (some (78, true))⟩, ⟨(some 80), (.pick (.tmp 78) (.tmp 79) (.con (.bool false))), none⟩, ⟨(some 81), (.mov (.tmp 80)), none⟩, ⟨(some 82), (.mov (.tmp 8)), (some (81, true))⟩, ⟨(some 83), (.pick (.tmp 81) (.tmp 82) (.con (.bool false))), none⟩]
def doormanref02_Long_r25 : List AStep := [⟨(some 4), (.mov (.con (.int .i64 4))), none⟩]
def doormanref02_Long_r26 : List AStep := [⟨(some 4), (.mov (.con (.int .i64 0))), none⟩]
def doormanref02_Long_c : ACode := (.seq (.ops doormanref02_Long_r0) (.seq (.ops doormanref02_Long_r1) (.seq (.ops doormanref02_Long_r2) (.seq (.ops doormanref02_Long_r3) (.seq (.ops doormanref02_Long_r4) (.seq (.block 0 (.seq (.ops doormanref02_Long_r5) (.cond (.tmp 24) (.seq (.ops doormanref02_Long_r6) .ret) (.seq (.ops doormanref02_Long_r7) (.cond (.tmp 27) (.seq (.seq (.ops doormanref02_Long_r8) (.cond (.tmp 34) (.seq (.ops doormanref02_Long_r9) .ret) .skip)) (.seq (.ops doormanref02_Long_r10) .ret)) (.seq (.ops doormanref02_Long_r11) (.cond (.tmp 35) (.seq (.seq (.ops doormanref02_Long_r12) (.cond (.tmp 43) (.ops doormanref02_Long_r13) .skip)) (.seq (.seq (.ops doormanref02_Long_r14) (.cond (.tmp 49) (.ops doormanref02_Long_r15) .skip)) (.seq (.seq (.ops doormanref02_Long_r16) (.cond (.tmp 57) (.seq (.ops doormanref02_Long_r17) .ret) .skip)) (.seq (.ops doormanref02_Long_r18) .ret)))) (.seq (.ops doormanref02_Long_r19) (.cond (.tmp 58) (.seq (.seq (.ops doormanref02_Long_r20) (.cond (.tmp 66) (.ops doormanref02_Long_r21) .skip)) (.seq (.seq (.ops doormanref02_Long_r22) (.cond (.tmp 72) (.ops doormanref02_Long_r23) .skip)) (.seq (.ops doormanref02_Long_r24) (.cond (.tmp 83) (.seq (.ops doormanref02_Long_r25) .ret) .skip)))) .skip))))))))) (.seq (.ops doormanref02_Long_r26) .ret)))))))
def doormanref02_Long_a : AFunc := ⟨84, [(.tmp 4)], doormanref02_Long_c⟩
/-! cmp_isNaN_string -/
def cmp_isNaN_string_r0 : List AStep := [⟨(some 2), (.mov (.con (.bool false))), none⟩]
def cmp_isNaN_string_r1 : List AStep := [⟨(some 3), (.mov (.tmp 0)), none⟩, ⟨(some 4), (.mov (.tmp 0)), none⟩, ⟨(some 5), (.bin .neq (.tmp 3) (.tmp 4)), none⟩, ⟨(some 2), (.mov (.tmp 5)), none⟩]
def cmp_isNaN_string_c : ACode := (.seq (.ops cmp_isNaN_string_r0) (.seq (.ops cmp_isNaN_string_r1) .ret))
def cmp_isNaN_string_a : AFunc := ⟨6, [(.tmp 2)], cmp_isNaN_string_c⟩
/-! parse_reader_pass -/
def parse_reader_pass_r0 : List AStep := [⟨(some 4), (.mov (.con (.bool false))), none⟩]
def parse_reader_pass_r1 : List AStep := [⟨(some 5), (.mov (.tmp 0)), none⟩, ⟨(some 6), (.mov (.tmp 1)), none⟩, ⟨(some 7), (.call (.con (.func n_parse_reader_is [])) [(.tmp 5), (.tmp 6)]), none⟩, ⟨(some 8), (.not (.tmp 7)), none⟩]
def parse_reader_pass_r2 : List AStep := [⟨(some 4), (.mov (.con (.bool false))), none⟩]
def parse_reader_pass_r3 : List AStep := [⟨(some 9), (.mov (.tmp 0)), none⟩, ⟨(some 10), (.mov (.tmp 0)), none⟩, ⟨(some 11), (.nilCheck (.tmp 10)), none⟩, ⟨(some 12), (.fieldAddr 0 (.tmp 11)), none⟩, ⟨(some 13), (.load false 1 (.tmp 12)), none⟩, ⟨(some 14), (.sliceS 3 (.tmp 13) (some (.con (.int .i64 1))) none), none⟩, ⟨(some 15), (.nilCheck (.tmp 9)), none⟩, ⟨(some 16), (.fieldAddr 0 (.tmp 15)), none⟩, ⟨none, (.store 1 (.tmp 16) (.tmp 14)), none⟩]
def parse_reader_pass_r4 : List AStep := [⟨(some 4), (.mov (.con (.bool true))), none⟩]
def parse_reader_pass_c : ACode := (.seq (.ops parse_reader_pass_r0) (.seq (.seq (.ops parse_reader_pass_r1) (.cond (.tmp 8) (.seq (.ops parse_reader_pass_r2) .ret) .skip)) (.seq (.ops parse_reader_pass_r3) (.seq (.ops parse_reader_pass_r4) .ret))))
def parse_reader_pass_a : AFunc := ⟨17, [(.tmp 4)], parse_reader_pass_c⟩
/-! slices_Contains_string_string -/
def slices_Contains_string_string_r0 : List AStep := [⟨(some 4), (.mov (.con (.bool false))), none⟩]
def slices_Contains_string_string_r1 : List AStep := [⟨(some 5), (.mov (.tmp 0)), none⟩, ⟨(some 6), (.mov (.tmp 1)), none⟩, ⟨(some 7), (.call (.con (.func n_slices_Index_string_string [])) [(.tmp 5), (.tmp 6)]), none⟩, ⟨(some 8), (.bin .geq (.tmp 7) (.con (.int .i64 0))), none⟩, ⟨(some 4), (.mov (.tmp 8)), none⟩]
def slices_Contains_string_string_c : ACode := (.seq (.ops slices_Contains_string_string_r0) (.seq (.ops slices_Contains_string_string_r1) .ret))
def slices_Contains_string_string_a : AFunc := ⟨9, [(.tmp 4)], slices_Contains_string_string_c⟩
/-! stringslite_IndexByte -/
def stringslite_IndexByte_r0 : List AStep := [⟨(some 4), (.mov (.con (.int .i64 0))), none⟩]
def stringslite_IndexByte_r1 : List AStep := [⟨(some 5), (.mov (.tmp 0)), none⟩, ⟨(some 6), (.mov (.tmp 1)), none⟩, ⟨(some 7), (.call (.con (.func n_bytealg_IndexByteString [])) [(.tmp 5), (.tmp 6)]), none⟩, ⟨(some 4), (.mov (.tmp 7)), none⟩]
def stringslite_IndexByte_c : ACode := (.seq (.ops stringslite_IndexByte_r0) (.seq (.ops stringslite_IndexByte_r1) .ret))
def stringslite_IndexByte_a : AFunc := ⟨8, [(.tmp 4)], stringslite_IndexByte_c⟩
/-! strings_HasPrefix -/
def strings_HasPrefix_r0 : List AStep := [⟨(some 4), (.mov (.con (.bool false))), none⟩]
def strings_HasPrefix_r1 : List AStep := [⟨(some 5), (.mov (.tmp 0)), none⟩, ⟨(some 6), (.mov (.tmp 1)), none⟩, ⟨(some 7), (.call (.con (.func n_stringslite_HasPrefix [])) [(.tmp 5), (.tmp 6)]), none⟩, ⟨(some 4), (.mov (.tmp 7)), none⟩]
def strings_HasPrefix_c : ACode := (.seq (.ops strings_HasPrefix_r0) (.seq (.ops strings_HasPrefix_r1) .ret))
def strings_HasPrefix_a : AFunc := ⟨8, [(.tmp 4)], strings_HasPrefix_c⟩
/-! doormanref02_in -/
def doormanref02_in_r0 : List AStep := [⟨(some 8), (.mov (.con (.bool false))), none⟩]
def doormanref02_in_r1 : List AStep := [⟨(some 9), (.mov (.tmp 1)), none⟩, ⟨(some 10), (.mov (.tmp 0)), none⟩, ⟨(some 11), (.lenT (.tmp 10)), none⟩, ⟨(some 12), (.bin .lss (.tmp 9) (.tmp 11)), none⟩, ⟨(some 13), (.mov (.tmp 12)), none⟩, ⟨(some 14), (.mov (.tmp 0)), (some (13, true))⟩, ⟨(some 15), (.mov (.tmp 1)), (some (13, true))⟩, ⟨(some 16), (.indexStr (.tmp 14) (.tmp 15)), (some (13, true))⟩, ⟨(some 17), (.mov (.tmp 2)), (some (13, true))⟩, ⟨(some 18), (.bin .geq (.tmp 16) (.tmp 17)), (some (13, true))⟩, ⟨(some 19), (.pick (.tmp 13) (.tmp 18) (.con (.bool false))), none⟩, ⟨(some 20), (.mov (.tmp 19)), none⟩, ⟨(some 21), (.mov (.tmp 0)), (some (20, true))⟩, ⟨(some 22), (.mov (.tmp 1)), (some (20, true))⟩, ⟨(some 23), (.indexStr (.tmp 21) (.tmp 22)), (some (20, true))⟩, ⟨(some 24), (.mov (.tmp 3)), (some (20, true))⟩, ⟨(some 25), (.bin .leq (.tmp 23) (.tmp 24)), (some (20, true))⟩, ⟨(some 26), (.pick (.tmp 20) (.tmp 25) (.con (.bool false))), none⟩, ⟨(some 8), (.mov (.tmp 26)), none⟩]
def doormanref02_in_c : ACode := (.seq (.ops doormanref02_in_r0) (.seq (.ops doormanref02_in_r1) .ret))
def doormanref02_in_a : AFunc := ⟨27, [(.tmp 8)], doormanref02_in_c⟩
/-! parse_reader_is -/
def parse_reader_is_r0 : List AStep := [⟨(some 4), (.mov (.con (.bool false))), none⟩]
def parse_reader_is_r1 : List AStep := [⟨(some 5), (.mov (.tmp 0)), none⟩, ⟨(some 6), (.nilCheck (.tmp 5)), none⟩, ⟨(some 7), (.fieldAddr 0 (.tmp 6)), none⟩, ⟨(some 8), (.load false 1 (.tmp 7)), none⟩, ⟨(some 9), (.indexAddr 3 (.tmp 8) (.con (.int .i64 0))), none⟩, ⟨(some 10), (.fieldAddr 1 (.tmp 9)), none⟩, ⟨(some 11), (.load false 1 (.tmp 10)), none⟩, ⟨(some 12), (.mov (.tmp 1)), none⟩, ⟨(some 13), (.bin .eql (.tmp 11) (.tmp 12)), none⟩, ⟨(some 14), (.mov (.tmp 13)), none⟩, ⟨(some 15), (.mov (.tmp 0)), (some (14, true))⟩, ⟨(some 16), (.nilCheck (.tmp 15)), (some (14, true))⟩, ⟨(some 17), (.fieldAddr 0 (.tmp 16)), (some (14, true))⟩, ⟨(some 18), (.load false 1 (.tmp 17)), (some (14, true))⟩, ⟨(some 19), (.indexAddr 3 (.tmp 18) (.con (.int .i64 0))), (some (14, true))⟩, ⟨(some 20), (.fieldAddr 0 (.tmp 19)), (some (14, true))⟩, ⟨(some 21), (.load false 1 (.tmp 20)), (some (14, true))⟩, ⟨(some 22), (.bin .eql (.tmp 21) (.con (.int .i64 2))), (some (14, true))⟩, ⟨(some 23), (.mov (.tmp 22)), (some (14, true))⟩, ⟨(some 24), (.mov (.tmp 1)), (some (23, false))⟩, ⟨(some 25), (.call (.con (.func n_token_Key [])) [(.tmp 24)]), (some (23, false))⟩, ⟨(some 26), (.pick (.tmp 23) (.con (.bool true)) (.tmp 25)), (some (14, true))⟩, ⟨(some 27), (.pick (.tmp 14) (.tmp 26) (.con (.bool false))), none⟩, ⟨(some 4), (.mov (.tmp 27)), none⟩]
def parse_reader_is_c : ACode := (.seq (.ops parse_reader_is_r0) (.seq (.ops parse_reader_is_r1) .ret))
def parse_reader_is_a : AFunc := ⟨28, [(.tmp 4)], parse_reader_is_c⟩
/-! token_Key -/
def token_Key_r0 : List AStep := [⟨(some 2), (.mov (.con (.bool false))), none⟩]
def token_Key_r1 : List AStep := [⟨(some 3), (.load false 1 (.con (.gptr g_token_keys))), none⟩, ⟨(some 4), (.mov (.tmp 0)), none⟩, ⟨(some 5), (.call (.con (.func n_slices_Contains_string_string [])) [(.tmp 3), (.tmp 4)]), none⟩, ⟨(some 2), (.mov (.tmp 5)), none⟩]
def token_Key_c : ACode := (.seq (.ops token_Key_r0) (.seq (.ops token_Key_r1) .ret))
def token_Key_a : AFunc := ⟨6, [(.tmp 2)], token_Key_c⟩
/-! slices_Index_string_string -/
def slices_Index_string_string_r0 : List AStep := [⟨(some 4), (.mov (.con (.int .i64 0))), none⟩]
def slices_Index_string_string_r1 : List AStep := [⟨(some 6), (.mov (.tmp 0)), none⟩, ⟨(some 7), (.len (.tmp 6)), none⟩, ⟨(some 8), (.mov (.con (.int .i64 0))), none⟩]
def slices_Index_string_string_r2 : List AStep := [⟨(some 9), (.bin .lss (.tmp 8) (.tmp 7)), none⟩]
def slices_Index_string_string_r3 : List AStep := [⟨(some 10), (.mov (.tmp 8)), none⟩, ⟨(some 5), (.mov (.tmp 10)), none⟩]
def slices_Index_string_string_r4 : List AStep := [⟨(some 11), (.mov (.tmp 1)), none⟩, ⟨(some 12), (.mov (.tmp 0)), none⟩, ⟨(some 13), (.mov (.tmp 5)), none⟩, ⟨(some 14), (.indexAddr 1 (.tmp 12) (.tmp 13)), none⟩, ⟨(some 15), (.load false 1 (.tmp 14)), none⟩, ⟨(some 16), (.bin .eql (.tmp 11) (.tmp 15)), none⟩]
def slices_Index_string_string_r5 : List AStep := [⟨(some 17), (.mov (.tmp 5)), none⟩, ⟨(some 4), (.mov (.tmp 17)), none⟩]
def slices_Index_string_string_r6 : List AStep := [⟨(some 18), (.bin .add (.tmp 8) (.con (.int .i64 1))), none⟩, ⟨(some 8), (.mov (.tmp 18)), none⟩]
def slices_Index_string_string_l7 : ACode := (.seq (.ops slices_Index_string_string_r2) (.seq (.cond (.tmp 9) .skip (.exit 0)) (.seq (.block 1 (.seq (.ops slices_Index_string_string_r3) (.seq (.ops slices_Index_string_string_r4) (.cond (.tmp 16) (.seq (.ops slices_Index_string_string_r5) .ret) .skip)))) (.ops slices_Index_string_string_r6))))
def slices_Index_string_string_r8 : List AStep := [⟨(some 4), (.mov (.con (.int .i64 (-1)))), none⟩]
def slices_Index_string_string_c : ACode := (.seq (.ops slices_Index_string_string_r0) (.seq (.seq (.ops slices_Index_string_string_r1) (.block 0 (.loop slices_Index_string_string_l7))) (.seq (.ops slices_Index_string_string_r8) .ret)))
def slices_Index_string_string_a : AFunc := ⟨19, [(.tmp 4)], slices_Index_string_string_c⟩
/-! stringslite_HasPrefix -/
def stringslite_HasPrefix_r0 : List AStep := [⟨(some 4), (.mov (.con (.bool false))), none⟩]
def stringslite_HasPrefix_r1 : List AStep := [⟨(some 5), (.mov (.tmp 0)), none⟩, ⟨(some 6), (.lenT (.tmp 5)), none⟩, ⟨(some 7), (.mov (.tmp 1)), none⟩, ⟨(some 8), (.lenT (.tmp 7)), none⟩, ⟨(some 9), (.bin .geq (.tmp 6) (.tmp 8)), none⟩, ⟨(some 10), (.mov (.tmp 9)), none⟩, ⟨(some 11), (.mov (.tmp 0)), (some (10, true))⟩, ⟨(some 12), (.mov (.tmp 1)), (some (10, true))⟩, ⟨(some 13), (.lenT (.tmp 12)), (some (10, true))⟩, ⟨(some 14), (.sliceT (.tmp 11) none (some (.tmp 13))), (some (10, true))⟩, ⟨(some 15), (.mov (.tmp 1)), (some (10, true))⟩, ⟨(some 16), (.bin .eql (.tmp 14) (.tmp 15)), (some (10, true))⟩, ⟨(some 17), (.pick (.tmp 10) (.tmp 16) (.con (.bool false))), none⟩, ⟨(some 4), (.mov (.tmp 17)), none⟩]
def stringslite_HasPrefix_c : ACode := (.seq (.ops stringslite_HasPrefix_r0) (.seq (.ops stringslite_HasPrefix_r1) .ret))
def stringslite_HasPrefix_a : AFunc := ⟨18, [(.tmp 4)], stringslite_HasPrefix_c⟩
/-! parse_reader_sign -/
def parse_reader_sign_r0 : List AStep := [⟨(some 2), (.mov (.con (.int .i64 0))), none⟩]
def parse_reader_sign_r1 : List AStep := [⟨(some 5), .makeMap, none⟩, ⟨none, (.mapPut .str (.tmp 5) (.con (.str [124])) (.con (.int .i64 4))), none⟩, ⟨none, (.mapPut .str (.tmp 5) (.con (.str [38])) (.con (.int .i64 5))), none⟩, ⟨none, (.mapPut .str (.tmp 5) (.con (.str [45])) (.con (.int .i64 6))), none⟩, ⟨(some 6), (.mov (.tmp 5)), none⟩, ⟨(some 7), (.rangeM (.tmp 6)), none⟩]
def parse_reader_sign_r2 : List AStep := [⟨(some 8), (.nextM (.tmp 7)), none⟩, ⟨(some 9), (.extract (.tmp 8) 0), none⟩]
def parse_reader_sign_r3 : List AStep := [⟨(some 10), (.entryM (.tmp 7)), none⟩, ⟨(some 11), (.extract (.tmp 10) 0), none⟩, ⟨(some 12), (.extract (.tmp 10) 1), none⟩, ⟨(some 3), (.mov (.tmp 11)), none⟩, ⟨(some 4), (.mov (.tmp 12)), none⟩]
def parse_reader_sign_r4 : List AStep := [⟨(some 13), (.mov (.tmp 0)), none⟩, ⟨(some 14), (.mov (.tmp 3)), none⟩, ⟨(some 15), (.call (.con (.func n_parse_reader_pass [])) [(.tmp 13), (.tmp 14)]), none⟩]
def parse_reader_sign_r5 : List AStep := [⟨(some 16), (.mov (.tmp 4)), none⟩, ⟨(some 2), (.mov (.tmp 16)), none⟩]
def parse_reader_sign_l6 : ACode := (.seq (.ops parse_reader_sign_r2) (.seq (.cond (.tmp 9) .skip (.exit 0)) (.block 1 (.seq (.ops parse_reader_sign_r3) (.seq (.ops parse_reader_sign_r4) (.cond (.tmp 15) (.seq (.ops parse_reader_sign_r5) .ret) .skip))))))
def parse_reader_sign_r7 : List AStep := [⟨(some 2), (.mov (.con (.int .i64 0))), none⟩]
def parse_reader_sign_c : ACode := (.seq (.ops parse_reader_sign_r0) (.seq (.seq (.ops parse_reader_sign_r1) (.block 0 (.loop parse_reader_sign_l6))) (.seq (.ops parse_reader_sign_r7) .ret)))
def parse_reader_sign_a : AFunc := ⟨17, [(.tmp 2)], parse_reader_sign_c⟩
set_option maxRecDepth 100000 in
theorem T_doormanlaw12_TupleTexts : table PP n_doormanlaw12_TupleTexts = some doormanlaw12_TupleTexts_a := by kernel_rfl
set_option maxRecDepth 100000 in
theorem T_doormanlaw12_TupleBack : table PP n_doormanlaw12_TupleBack = some doormanlaw12_TupleBack_a := by kernel_rfl
set_option maxRecDepth 100000 in
theorem T_doormanlaw12_TupleOrder : table PP n_doormanlaw12_TupleOrder = some doormanlaw12_TupleOrder_a := by kernel_rfl
set_option maxRecDepth 100000 in
theorem T_doormanlaw12_TupleNodes : table PP n_doormanlaw12_TupleNodes = some doormanlaw12_TupleNodes_a := by kernel_rfl
set_option maxRecDepth 100000 in
theorem T_doormanlaw12_TupleLong : table PP n_doormanlaw12_TupleLong = some doormanlaw12_TupleLong_a := by kernel_rfl
set_option maxRecDepth 100000 in
theorem T_doormanlaw12_few : table PP n_doormanlaw12_few = some doormanlaw12_few_a := by kernel_rfl
set_option maxRecDepth 100000 in
theorem T_tuple_Read : table PP n_tuple_Read = some tuple_Read_a := by kernel_rfl
set_option maxRecDepth 100000 in
theorem T_doormanref12_Read : table PP n_doormanref12_Read = some doormanref12_Read_a := by kernel_rfl
set_option maxRecDepth 100000 in
theorem T_tuple_Parse : table PP n_tuple_Parse = some tuple_Parse_a := by kernel_rfl
set_option maxRecDepth 100000 in
theorem T_doormanref12_Parse : table PP n_doormanref12_Parse = some doormanref12_Parse_a := by kernel_rfl
set_option maxRecDepth 100000 in
theorem T_tuple_From : table PP n_tuple_From = some tuple_From_a := by kernel_rfl
set_option maxRecDepth 100000 in
theorem T_doormanref12_From : table PP n_doormanref12_From = some doormanref12_From_a := by kernel_rfl
set_option maxRecDepth 100000 in
theorem T_tuple_Show : table PP n_tuple_Show = some tuple_Show_a := by kernel_rfl
set_option maxRecDepth 100000 in
theorem T_doormanref12_Show : table PP n_doormanref12_Show = some doormanref12_Show_a := by kernel_rfl
set_option maxRecDepth 100000 in
theorem T_tuple_Text : table PP n_tuple_Text = some tuple_Text_a := by kernel_rfl
set_option maxRecDepth 100000 in
theorem T_doormanref12_Text : table PP n_doormanref12_Text = some doormanref12_Text_a := by kernel_rfl
set_option maxRecDepth 100000 in
theorem T_tuple_Key : table PP n_tuple_Key = some tuple_Key_a := by kernel_rfl
set_option maxRecDepth 100000 in
theorem T_doormanref12_Key : table PP n_doormanref12_Key = some doormanref12_Key_a := by kernel_rfl
set_option maxRecDepth 100000 in
theorem T_doormanref12_Formed : table PP n_doormanref12_Formed = some doormanref12_Formed_a := by kernel_rfl
set_option maxRecDepth 100000 in
theorem T_tuple_Compare : table PP n_tuple_Compare = some tuple_Compare_a := by kernel_rfl
set_option maxRecDepth 100000 in
theorem T_doormanref12_Compare : table PP n_doormanref12_Compare = some doormanref12_Compare_a := by kernel_rfl
set_option maxRecDepth 100000 in
theorem T_doormanref12_Names : table PP n_doormanref12_Names = some doormanref12_Names_a := by kernel_rfl
set_option maxRecDepth 100000 in
theorem T_strings_Cut : table PP n_strings_Cut = some strings_Cut_a := by kernel_rfl
set_option maxRecDepth 100000 in
theorem T_tuple_formed : table PP n_tuple_formed = some tuple_formed_a := by kernel_rfl
set_option maxRecDepth 100000 in
theorem T_doormanref12_cut : table PP n_doormanref12_cut = some doormanref12_cut_a := by kernel_rfl
set_option maxRecDepth 100000 in
theorem T_strings_Split : table PP n_strings_Split = some strings_Split_a := by kernel_rfl
set_option maxRecDepth 100000 in
theorem T_tuple_names_formed : table PP n_tuple_names_formed = some tuple_names_formed_a := by kernel_rfl
set_option maxRecDepth 100000 in
theorem T_tuple_names_tuple : table PP n_tuple_names_tuple = some tuple_names_tuple_a := by kernel_rfl
set_option maxRecDepth 100000 in
theorem T_tuple_of : table PP n_tuple_of = some tuple_of_a := by kernel_rfl
set_option maxRecDepth 100000 in
theorem T_doormanref02_Name : table PP n_doormanref02_Name = some doormanref02_Name_a := by kernel_rfl
set_option maxRecDepth 100000 in
theorem T_slices_Compare_string_string : table PP n_slices_Compare_string_string = some slices_Compare_string_string_a := by kernel_rfl
set_option maxRecDepth 100000 in
theorem T_stringslite_Cut : table PP n_stringslite_Cut = some stringslite_Cut_a := by kernel_rfl
set_option maxRecDepth 100000 in
theorem T_glyph_Name : table PP n_glyph_Name = some glyph_Name_a := by kernel_rfl
set_option maxRecDepth 100000 in
theorem T_strings_genSplit : table PP n_strings_genSplit = some strings_genSplit_a := by kernel_rfl
set_option maxRecDepth 100000 in
theorem T_doormanref02_Step : table PP n_doormanref02_Step = some doormanref02_Step_a := by kernel_rfl
set_option maxRecDepth 100000 in
theorem T_doormanref02_May : table PP n_doormanref02_May = some doormanref02_May_a := by kernel_rfl
set_option maxRecDepth 100000 in
theorem T_doormanref02_Count : table PP n_doormanref02_Count = some doormanref02_Count_a := by kernel_rfl
set_option maxRecDepth 100000 in
theorem T_cmp_Compare_string : table PP n_cmp_Compare_string = some cmp_Compare_string_a := by kernel_rfl
set_option maxRecDepth 100000 in
theorem T_stringslite_Index : table PP n_stringslite_Index = some stringslite_Index_a := by kernel_rfl
set_option maxRecDepth 100000 in
theorem T_glyph_Valid : table PP n_glyph_Valid = some glyph_Valid_a := by kernel_rfl
set_option maxRecDepth 100000 in
theorem T_glyph_Count : table PP n_glyph_Count = some glyph_Count_a := by kernel_rfl
set_option maxRecDepth 100000 in
theorem T_strings_Count : table PP n_strings_Count = some strings_Count_a := by kernel_rfl
set_option maxRecDepth 100000 in
theorem T_strings_Index : table PP n_strings_Index = some strings_Index_a := by kernel_rfl
set_option maxRecDepth 100000 in
theorem T_doormanref02_Long : table PP n_doormanref02_Long = some doormanref02_Long_a := by kernel_rfl
set_option maxRecDepth 100000 in
theorem T_cmp_isNaN_string : table PP n_cmp_isNaN_string = some cmp_isNaN_string_a := by kernel_rfl
set_option maxRecDepth 100000 in
theorem T_parse_reader_pass : table PP n_parse_reader_pass = some parse_reader_pass_a := by kernel_rfl
set_option maxRecDepth 100000 in
theorem T_slices_Contains_string_string : table PP n_slices_Contains_string_string = some slices_Contains_string_string_a := by kernel_rfl
set_option maxRecDepth 100000 in
theorem T_stringslite_IndexByte : table PP n_stringslite_IndexByte = some stringslite_IndexByte_a := by kernel_rfl
set_option maxRecDepth 100000 in
theorem T_strings_HasPrefix : table PP n_strings_HasPrefix = some strings_HasPrefix_a := by kernel_rfl
set_option maxRecDepth 100000 in
theorem T_doormanref02_in : table PP n_doormanref02_in = some doormanref02_in_a := by kernel_rfl
set_option maxRecDepth 100000 in
theorem T_parse_reader_is : table PP n_parse_reader_is = some parse_reader_is_a := by kernel_rfl
set_option maxRecDepth 100000 in
theorem T_token_Key : table PP n_token_Key = some token_Key_a := by kernel_rfl
set_option maxRecDepth 100000 in
theorem T_slices_Index_string_string : table PP n_slices_Index_string_string = some slices_Index_string_string_a := by kernel_rfl
set_option maxRecDepth 100000 in
theorem T_stringslite_HasPrefix : table PP n_stringslite_HasPrefix = some stringslite_HasPrefix_a := by kernel_rfl
set_option maxRecDepth 100000 in
theorem T_parse_reader_sign : table PP n_parse_reader_sign = some parse_reader_sign_a := by kernel_rfl
end Go.Proofs.YtgjcdpanabjcmaaGreatDoor.Ev.C
