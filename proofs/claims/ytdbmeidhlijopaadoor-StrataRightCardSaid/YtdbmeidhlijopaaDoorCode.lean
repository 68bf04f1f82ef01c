/- The functions of the program as the interpreter has them, printed by a program of ours. -/
import Derived.Test.YtdbmeidhlijopaaDoorProg
import Derived.Test.YtdbmeidhlijopaaDoorEv24
namespace Go.Proofs.YtdbmeidhlijopaaDoor.Ev.C
open Go Go.Proofs.YtdbmeidhlijopaaDoor.Ev
noncomputable abbrev PP:Program:=Go.Proofs.Tryd.prog
def n_bytealg_Cutover:Nat:=95
def n_bytealg_IndexByteString:Nat:=99
def n_bytealg_IndexRabinKarp_string:Nat:=96
def n_bytealg_IndexString:Nat:=94
def n_check_Check:Nat:=6
def n_check_Find:Nat:=40
def n_check_Find_1:Nat:=62
def n_check_counts:Nat:=12
def n_check_has:Nat:=14
def n_check_has_1:Nat:=38
def n_check_kind:Nat:=36
def n_check_kind_1:Nat:=59
def n_check_leads:Nat:=41
def n_check_leads_1:Nat:=64
def n_check_op:Nat:=16
def n_check_path:Nat:=13
def n_check_subs:Nat:=15
def n_cmp_Compare_int:Nat:=47
def n_cmp_Or_int:Nat:=46
def n_cmp_isNaN_int:Nat:=75
def n_doormanlaw10_StrataRight:Nat:=3
def n_doormanlaw10_awake:Nat:=4
def n_glyph_Count:Nat:=78
def n_glyph_Cut:Nat:=49
def n_glyph_Name:Nat:=53
def n_glyph_Valid:Nat:=50
def n_parse_Parse:Nat:=5
def n_parse_Parse_1:Nat:=10
def n_parse_reader_fail:Nat:=35
def n_parse_reader_is:Nat:=54
def n_parse_reader_name:Nat:=32
def n_parse_reader_need:Nat:=33
def n_parse_reader_part:Nat:=81
def n_parse_reader_pass:Nat:=31
def n_parse_reader_rel:Nat:=34
def n_parse_reader_rewrite:Nat:=57
def n_parse_reader_schema:Nat:=11
def n_parse_reader_sign:Nat:=82
def n_parse_reader_subs:Nat:=56
def n_slices_Compact_strata_Edge_strata_Edge:Nat:=22
def n_slices_ContainsFunc_parse_Rel_parse_Rel:Nat:=37
def n_slices_ContainsFunc_parse_Sub_parse_Sub:Nat:=63
def n_slices_ContainsFunc_strata_Edge_strata_Edge:Nat:=24
def n_slices_Contains_parse_Sub_parse_Sub:Nat:=39
def n_slices_Contains_string_string:Nat:=80
def n_slices_IndexFunc_parse_Rel_parse_Rel:Nat:=60
def n_slices_IndexFunc_parse_Sub_parse_Sub:Nat:=83
def n_slices_IndexFunc_parse_Type_parse_Type:Nat:=58
def n_slices_IndexFunc_strata_Edge_strata_Edge:Nat:=48
def n_slices_Index_parse_Sub_parse_Sub:Nat:=61
def n_slices_Index_string_string:Nat:=91
def n_slices_SortFunc_strata_Edge_strata_Edge:Nat:=20
def n_strata_Edges:Nat:=7
def n_strata_Levels:Nat:=8
def n_strata_Levels_1:Nat:=23
def n_strata_compare:Nat:=21
def n_strata_compare_1:Nat:=45
def n_strata_nots:Nat:=18
def n_strata_numbers:Nat:=17
def n_strata_objects:Nat:=42
def n_strata_to:Nat:=19
def n_strings_ContainsRune:Nat:=79
def n_strings_Cut:Nat:=52
def n_strings_HasPrefix:Nat:=51
def n_stringslite_Cut:Nat:=77
def n_stringslite_HasPrefix:Nat:=76
def n_stringslite_Index:Nat:=89
def n_stringslite_IndexByte:Nat:=93
def n_token_All:Nat:=9
def n_token_Key:Nat:=55
def n_token_broken:Nat:=25
def n_token_reader_blank:Nat:=26
def n_token_reader_note:Nat:=27
def n_token_reader_put:Nat:=30
def n_token_reader_sign:Nat:=28
def n_token_reader_word:Nat:=29
def t_parse_fault:Nat:=46
def g_token_keys:Nat:=0
def g_bytealg_MaxLen:Nat:=1
/-! doormanlaw10_StrataRight -/
def doormanlaw10_StrataRight_r0:List AStep := [⟨some 2,.mov (.con (.bool false)),none⟩]
def doormanlaw10_StrataRight_r1:List AStep := [⟨some 19,.call (.con (.func n_doormanlaw10_awake [])) [],none⟩,⟨some 3,.mov (.tmp 19),none⟩]
def doormanlaw10_StrataRight_r2:List AStep := [⟨some 20,.mov (.tmp 3),none⟩,⟨some 21,.not (.tmp 20),none⟩]
def doormanlaw10_StrataRight_r3:List AStep := [⟨some 2,.mov (.con (.bool false)),none⟩]
def doormanlaw10_StrataRight_r4:List AStep := [⟨some 22,.mov (.tmp 0),none⟩,⟨some 23,.lenT (.tmp 22),none⟩,⟨some 24,.bin .gtr (.tmp 23) (.con (.int .i64 2048)),none⟩]
def doormanlaw10_StrataRight_r5:List AStep := [⟨some 2,.mov (.con (.bool true)),none⟩]
def doormanlaw10_StrataRight_r6:List AStep := [⟨some 26,.mov (.tmp 0),none⟩,⟨some 27,.call (.con (.func n_parse_Parse [])) [(.tmp 26)],none⟩,⟨some 25,.mov (.tmp 27),none⟩,⟨some 28,.extract (.tmp 25) 0,none⟩,⟨some 29,.extract (.tmp 25) 1,none⟩,⟨some 30,.extract (.tmp 25) 2,none⟩,⟨some 4,.alloc [.nils],none⟩,⟨none,.store 1 (.tmp 4) (.tmp 28),none⟩,⟨some 5,.mov (.tmp 29),none⟩,⟨some 6,.mov (.tmp 30),none⟩]
def doormanlaw10_StrataRight_r7:List AStep := [⟨some 32,.load true 1 (.tmp 4),none⟩,⟨some 33,.call (.con (.func n_check_Check [])) [(.tmp 32)],none⟩,⟨some 31,.mov (.tmp 33),none⟩,⟨some 34,.extract (.tmp 31) 0,none⟩,⟨some 35,.extract (.tmp 31) 1,none⟩,⟨some 7,.mov (.tmp 34),none⟩,⟨some 8,.mov (.tmp 35),none⟩]
def doormanlaw10_StrataRight_r8:List AStep := [⟨some 36,.mov (.tmp 5),none⟩,⟨some 37,.bin .neq (.tmp 36) (.con (.int .i64 0)),none⟩,⟨some 38,.mov (.tmp 37),none⟩,⟨some 39,.mov (.tmp 7),(some (38,false))⟩,⟨some 40,.bin .neq (.tmp 39) (.con (.int .i64 0)),(some (38,false))⟩,⟨some 41,.pick (.tmp 38) (.con (.bool true)) (.tmp 40),none⟩]
def doormanlaw10_StrataRight_r9:List AStep := [⟨some 2,.mov (.con (.bool true)),none⟩]
def doormanlaw10_StrataRight_r10:List AStep := [⟨some 9,.mov (.con (.int .i64 0)),none⟩]
def doormanlaw10_StrataRight_r11:List AStep := [⟨some 10,.mov (.con (.int .i64 0)),none⟩]
def doormanlaw10_StrataRight_r12:List AStep := [⟨some 42,.mov (.tmp 10),none⟩,⟨some 43,.fieldAddr 0 (.tmp 4),none⟩,⟨some 44,.load false 1 (.tmp 43),none⟩,⟨some 45,.len (.tmp 44),none⟩,⟨some 46,.bin .lss (.tmp 42) (.tmp 45),none⟩]
def doormanlaw10_StrataRight_r13:List AStep := [⟨some 49,.mov (.tmp 9),none⟩,⟨some 50,.fieldAddr 0 (.tmp 4),none⟩,⟨some 51,.load false 1 (.tmp 50),none⟩,⟨some 52,.mov (.tmp 10),none⟩,⟨some 53,.indexAddr 2 (.tmp 51) (.tmp 52),none⟩,⟨some 54,.fieldAddr 1 (.tmp 53),none⟩,⟨some 55,.load false 1 (.tmp 54),none⟩,⟨some 56,.len (.tmp 55),none⟩,⟨some 57,.bin .add (.tmp 49) (.tmp 56),none⟩,⟨some 9,.mov (.tmp 57),none⟩]
def doormanlaw10_StrataRight_r14:List AStep := [⟨some 47,.mov (.tmp 10),none⟩,⟨some 48,.bin .add (.tmp 47) (.con (.int .i64 1)),none⟩,⟨some 10,.mov (.tmp 48),none⟩]
def doormanlaw10_StrataRight_l15:ACode:=(.seq (.seq (.ops doormanlaw10_StrataRight_r12) (.cond (.tmp 46) .skip (.exit 0))) (.seq (.block 1 (.ops doormanlaw10_StrataRight_r13)) (.ops doormanlaw10_StrataRight_r14)))
def doormanlaw10_StrataRight_r16:List AStep := [⟨some 11,.mov (.con (.bool false)),none⟩]
def doormanlaw10_StrataRight_r17:List AStep := [⟨some 12,.mov (.con (.int .i64 0)),none⟩]
def doormanlaw10_StrataRight_r18:List AStep := [⟨some 58,.mov (.tmp 12),none⟩,⟨some 59,.mov (.tmp 0),none⟩,⟨some 60,.lenT (.tmp 59),none⟩,⟨some 61,.bin .lss (.tmp 58) (.tmp 60),none⟩]
def doormanlaw10_StrataRight_r19:List AStep := [⟨some 64,.mov (.tmp 11),none⟩,⟨some 65,.mov (.tmp 64),none⟩,⟨some 66,.mov (.tmp 0),(some (65,false))⟩,⟨some 67,.mov (.tmp 12),(some (65,false))⟩,⟨some 68,.indexStr (.tmp 66) (.tmp 67),(some (65,false))⟩,⟨some 69,.bin .eql (.tmp 68) (.con (.int .u8 45)),(some (65,false))⟩,⟨some 70,.pick (.tmp 65) (.con (.bool true)) (.tmp 69),none⟩,⟨some 11,.mov (.tmp 70),none⟩]
def doormanlaw10_StrataRight_r20:List AStep := [⟨some 62,.mov (.tmp 12),none⟩,⟨some 63,.bin .add (.tmp 62) (.con (.int .i64 1)),none⟩,⟨some 12,.mov (.tmp 63),none⟩]
def doormanlaw10_StrataRight_l21:ACode:=(.seq (.seq (.ops doormanlaw10_StrataRight_r18) (.cond (.tmp 61) .skip (.exit 2))) (.seq (.block 3 (.ops doormanlaw10_StrataRight_r19)) (.ops doormanlaw10_StrataRight_r20)))
def doormanlaw10_StrataRight_r22:List AStep := [⟨some 71,.load true 1 (.tmp 4),none⟩,⟨some 72,.call (.con (.func n_strata_Edges [])) [(.tmp 71)],none⟩,⟨some 13,.mov (.tmp 72),none⟩]
def doormanlaw10_StrataRight_r23:List AStep := [⟨some 14,.mov (.con (.int .i64 0)),none⟩]
def doormanlaw10_StrataRight_r24:List AStep := [⟨some 73,.mov (.tmp 14),none⟩,⟨some 74,.mov (.tmp 13),none⟩,⟨some 75,.len (.tmp 74),none⟩,⟨some 76,.bin .lss (.tmp 73) (.tmp 75),none⟩]
def doormanlaw10_StrataRight_r25:List AStep := [⟨some 79,.mov (.tmp 13),none⟩,⟨some 80,.mov (.tmp 14),none⟩,⟨some 81,.indexAddr 3 (.tmp 79) (.tmp 80),none⟩,⟨some 82,.load true 3 (.tmp 81),none⟩,⟨some 15,.alloc [(.int .i64 0),(.int .i64 0),(.bool false)],none⟩,⟨none,.store 3 (.tmp 15) (.tmp 82),none⟩]
def doormanlaw10_StrataRight_r26:List AStep := [⟨some 83,.fieldAddr 0 (.tmp 15),none⟩,⟨some 84,.load false 1 (.tmp 83),none⟩,⟨some 85,.bin .lss (.tmp 84) (.con (.int .i64 0)),none⟩,⟨some 86,.mov (.tmp 85),none⟩,⟨some 87,.fieldAddr 0 (.tmp 15),(some (86,false))⟩,⟨some 88,.load false 1 (.tmp 87),(some (86,false))⟩,⟨some 89,.mov (.tmp 9),(some (86,false))⟩,⟨some 90,.bin .geq (.tmp 88) (.tmp 89),(some (86,false))⟩,⟨some 91,.pick (.tmp 86) (.con (.bool true)) (.tmp 90),none⟩,⟨some 92,.mov (.tmp 91),none⟩,⟨some 93,.fieldAddr 1 (.tmp 15),(some (92,false))⟩,⟨some 94,.load false 1 (.tmp 93),(some (92,false))⟩,⟨some 95,.bin .lss (.tmp 94) (.con (.int .i64 0)),(some (92,false))⟩,⟨some 96,.pick (.tmp 92) (.con (.bool true)) (.tmp 95),none⟩,⟨some 97,.mov (.tmp 96),none⟩,⟨some 98,.fieldAddr 1 (.tmp 15),(some (97,false))⟩,⟨some 99,.load false 1 (.tmp 98),(some (97,false))⟩,⟨some 100,.mov (.tmp 9),(some (97,false))⟩,⟨some 101,.bin .geq (.tmp 99) (.tmp 100),(some (97,false))⟩,⟨some 102,.pick (.tmp 97) (.con (.bool true)) (.tmp 101),none⟩,⟨some 103,.mov (.tmp 102),none⟩,⟨some 104,.fieldAddr 2 (.tmp 15),(some (103,false))⟩,⟨some 105,.load false 1 (.tmp 104),(some (103,false))⟩,⟨some 106,.mov (.tmp 105),(some (103,false))⟩,⟨some 107,.mov (.tmp 11),(some (106,true))⟩,⟨some 108,.not (.tmp 107),(some (106,true))⟩,⟨some 109,.pick (.tmp 106) (.tmp 108) (.con (.bool false)),(some (103,false))⟩,⟨some 110,.pick (.tmp 103) (.con (.bool true)) (.tmp 109),none⟩]
def doormanlaw10_StrataRight_r27:List AStep := [⟨some 2,.mov (.con (.bool false)),none⟩]
def doormanlaw10_StrataRight_r28:List AStep := [⟨some 111,.mov (.tmp 14),none⟩,⟨some 112,.bin .eql (.tmp 111) (.con (.int .i64 0)),none⟩]
def doormanlaw10_StrataRight_r29:List AStep := [⟨some 113,.mov (.tmp 13),none⟩,⟨some 114,.mov (.tmp 14),none⟩,⟨some 115,.bin .sub (.tmp 114) (.con (.int .i64 1)),none⟩,⟨some 116,.indexAddr 3 (.tmp 113) (.tmp 115),none⟩,⟨some 117,.load true 3 (.tmp 116),none⟩,⟨some 16,.alloc [(.int .i64 0),(.int .i64 0),(.bool false)],none⟩,⟨none,.store 3 (.tmp 16) (.tmp 117),none⟩]
def doormanlaw10_StrataRight_r30:List AStep := [⟨some 118,.fieldAddr 0 (.tmp 16),none⟩,⟨some 119,.load false 1 (.tmp 118),none⟩,⟨some 120,.fieldAddr 0 (.tmp 15),none⟩,⟨some 121,.load false 1 (.tmp 120),none⟩,⟨some 122,.bin .gtr (.tmp 119) (.tmp 121),none⟩,⟨some 123,.mov (.tmp 122),none⟩,⟨some 124,.fieldAddr 0 (.tmp 16),(some (123,false))⟩,⟨some 125,.load false 1 (.tmp 124),(some (123,false))⟩,⟨some 126,.fieldAddr 0 (.tmp 15),(some (123,false))⟩,⟨some 127,.load false 1 (.tmp 126),(some (123,false))⟩,⟨some 128,.bin .eql (.tmp 125) (.tmp 127),(some (123,false))⟩,⟨some 129,.mov (.tmp 128),(some (123,false))⟩,⟨some 130,.fieldAddr 1 (.tmp 16),(some (129,true))⟩,⟨some 131,.load false 1 (.tmp 130),(some (129,true))⟩,⟨some 132,.fieldAddr 1 (.tmp 15),(some (129,true))⟩,⟨some 133,.load false 1 (.tmp 132),(some (129,true))⟩,⟨some 134,.bin .gtr (.tmp 131) (.tmp 133),(some (129,true))⟩,⟨some 135,.pick (.tmp 129) (.tmp 134) (.con (.bool false)),(some (123,false))⟩,⟨some 136,.pick (.tmp 123) (.con (.bool true)) (.tmp 135),none⟩,⟨some 137,.mov (.tmp 136),none⟩,⟨some 138,.fieldAddr 0 (.tmp 16),(some (137,false))⟩,⟨some 139,.load false 1 (.tmp 138),(some (137,false))⟩,⟨some 140,.fieldAddr 0 (.tmp 15),(some (137,false))⟩,⟨some 141,.load false 1 (.tmp 140),(some (137,false))⟩,⟨some 142,.bin .eql (.tmp 139) (.tmp 141),(some (137,false))⟩,⟨some 143,.mov (.tmp 142),(some (137,false))⟩,⟨some 144,.fieldAddr 1 (.tmp 16),(some (143,true))⟩,⟨some 145,.load false 1 (.tmp 144),(some (143,true))⟩,⟨some 146,.fieldAddr 1 (.tmp 15),(some (143,true))⟩,⟨some 147,.load false 1 (.tmp 146),(some (143,true))⟩,⟨some 148,.bin .eql (.tmp 145) (.tmp 147),(some (143,true))⟩,⟨some 149,.pick (.tmp 143) (.tmp 148) (.con (.bool false)),(some (137,false))⟩,⟨some 150,.mov (.tmp 149),(some (137,false))⟩,⟨some 151,.fieldAddr 2 (.tmp 16),(some (150,true))⟩,⟨some 152,.load false 1 (.tmp 151),(some (150,true))⟩,⟨some 153,.mov (.tmp 152),(some (150,true))⟩,⟨some 154,.fieldAddr 2 (.tmp 15),(some (153,false))⟩,⟨some 155,.load false 1 (.tmp 154),(some (153,false))⟩,⟨some 156,.not (.tmp 155),(some (153,false))⟩,⟨some 157,.pick (.tmp 153) (.con (.bool true)) (.tmp 156),(some (150,true))⟩,⟨some 158,.pick (.tmp 150) (.tmp 157) (.con (.bool false)),(some (137,false))⟩,⟨some 159,.pick (.tmp 137) (.con (.bool true)) (.tmp 158),none⟩]
def doormanlaw10_StrataRight_r31:List AStep := [⟨some 2,.mov (.con (.bool false)),none⟩]
def doormanlaw10_StrataRight_r32:List AStep := [⟨some 77,.mov (.tmp 14),none⟩,⟨some 78,.bin .add (.tmp 77) (.con (.int .i64 1)),none⟩,⟨some 14,.mov (.tmp 78),none⟩]
def doormanlaw10_StrataRight_l33:ACode:=(.seq (.seq (.ops doormanlaw10_StrataRight_r24) (.cond (.tmp 76) .skip (.exit 4))) (.seq (.block 5 (.seq (.ops doormanlaw10_StrataRight_r25) (.seq (.seq (.ops doormanlaw10_StrataRight_r26) (.cond (.tmp 110) (.seq (.ops doormanlaw10_StrataRight_r27) .ret) .skip)) (.seq (.seq (.ops doormanlaw10_StrataRight_r28) (.cond (.tmp 112) (.exit 5) .skip)) (.seq (.ops doormanlaw10_StrataRight_r29) (.seq (.ops doormanlaw10_StrataRight_r30) (.cond (.tmp 159) (.seq (.ops doormanlaw10_StrataRight_r31) .ret) .skip))))))) (.ops doormanlaw10_StrataRight_r32)))
def doormanlaw10_StrataRight_r34:List AStep := [⟨some 161,.mov (.tmp 9),none⟩,⟨some 162,.mov (.tmp 13),none⟩,⟨some 163,.call (.con (.func n_strata_Levels [])) [(.tmp 161),(.tmp 162)],none⟩,⟨some 160,.mov (.tmp 163),none⟩,⟨some 164,.extract (.tmp 160) 0,none⟩,⟨some 165,.extract (.tmp 160) 1,none⟩,⟨some 17,.mov (.tmp 164),none⟩,⟨some 18,.mov (.tmp 165),none⟩]
def doormanlaw10_StrataRight_r35:List AStep := [⟨some 166,.mov (.tmp 11),none⟩,⟨some 167,.mov (.tmp 166),none⟩,⟨some 168,.mov (.tmp 18),(some (167,false))⟩,⟨some 169,.bin .eql (.tmp 168) (.con (.int .i64 0)),(some (167,false))⟩,⟨some 170,.mov (.tmp 169),(some (167,false))⟩,⟨some 171,.mov (.tmp 17),(some (170,true))⟩,⟨some 172,.len (.tmp 171),(some (170,true))⟩,⟨some 173,.mov (.tmp 9),(some (170,true))⟩,⟨some 174,.bin .eql (.tmp 172) (.tmp 173),(some (170,true))⟩,⟨some 175,.pick (.tmp 170) (.tmp 174) (.con (.bool false)),(some (167,false))⟩,⟨some 176,.pick (.tmp 167) (.con (.bool true)) (.tmp 175),none⟩,⟨some 2,.mov (.tmp 176),none⟩]
def doormanlaw10_StrataRight_c:ACode:=(.seq (.ops doormanlaw10_StrataRight_r0) (.seq (.ops doormanlaw10_StrataRight_r1) (.seq (.seq (.ops doormanlaw10_StrataRight_r2) (.cond (.tmp 21) (.seq (.ops doormanlaw10_StrataRight_r3) .ret) .skip)) (.seq (.seq (.ops doormanlaw10_StrataRight_r4) (.cond (.tmp 24) (.seq (.ops doormanlaw10_StrataRight_r5) .ret) .skip)) (.seq (.ops doormanlaw10_StrataRight_r6) (.seq (.ops doormanlaw10_StrataRight_r7) (.seq (.seq (.ops doormanlaw10_StrataRight_r8) (.cond (.tmp 41) (.seq (.ops doormanlaw10_StrataRight_r9) .ret) .skip)) (.seq (.ops doormanlaw10_StrataRight_r10) (.seq (.seq (.ops doormanlaw10_StrataRight_r11) (.block 0 (.loop doormanlaw10_StrataRight_l15))) (.seq (.ops doormanlaw10_StrataRight_r16) (.seq (.seq (.ops doormanlaw10_StrataRight_r17) (.block 2 (.loop doormanlaw10_StrataRight_l21))) (.seq (.ops doormanlaw10_StrataRight_r22) (.seq (.seq (.ops doormanlaw10_StrataRight_r23) (.block 4 (.loop doormanlaw10_StrataRight_l33))) (.seq (.ops doormanlaw10_StrataRight_r34) (.seq (.ops doormanlaw10_StrataRight_r35) .ret)))))))))))))))
def doormanlaw10_StrataRight_a:AFunc:=⟨177,[(.tmp 2)],doormanlaw10_StrataRight_c⟩
/-! parse_Parse -/
def parse_Parse_r0:List AStep := [⟨some 2,.alloc [.nils],none⟩,⟨some 3,.alloc [(.int .i64 0)],none⟩,⟨some 4,.alloc [(.int .i64 0)],none⟩]
def parse_Parse_r1:List AStep := [⟨some 8,.mov (.tmp 0),none⟩,⟨some 9,.call (.con (.func n_token_All [])) [(.tmp 8)],none⟩,⟨some 7,.mov (.tmp 9),none⟩,⟨some 10,.extract (.tmp 7) 0,none⟩,⟨some 11,.extract (.tmp 7) 1,none⟩,⟨some 12,.extract (.tmp 7) 2,none⟩,⟨some 5,.mov (.tmp 10),none⟩,⟨none,.store 1 (.tmp 3) (.tmp 11),none⟩,⟨none,.store 1 (.tmp 4) (.tmp 12),none⟩]
def parse_Parse_r2:List AStep := [⟨some 13,.load false 1 (.tmp 3),none⟩,⟨some 14,.bin .neq (.tmp 13) (.con (.int .i64 0)),none⟩]
def parse_Parse_r3:List DStep := [⟨0,0,⟨(some 15),(.build [.nils] []),none⟩⟩,⟨1,0,⟨(some 16),(.load false 1 (.tmp 3)),none⟩⟩,⟨2,0,⟨(some 17),(.load false 1 (.tmp 4)),none⟩⟩,⟨3,1,⟨none,(.store 1 (.tmp 2) (.tmp 15)),none⟩⟩,⟨4,11,⟨none,(.store 1 (.tmp 3) (.tmp 16)),none⟩⟩,⟨5,31,⟨none,(.store 1 (.tmp 4) (.tmp 17)),none⟩⟩]
def parse_Parse_r4:List AStep := [⟨some 18,.makeFunc n_parse_Parse_1 [(.tmp 2),(.tmp 3),(.tmp 4)],none⟩]
def parse_Parse_r5:List AStep := [⟨some 19,.mov (.tmp 5),none⟩,⟨some 20,.build [.nils,(.int .i64 0)] [(0,(1,(.tmp 19)))],none⟩,⟨some 21,.box (.tmp 20),none⟩,⟨some 6,.mov (.tmp 21),none⟩]
def parse_Parse_r6:List AStep := [⟨some 22,.mov (.tmp 6),none⟩,⟨some 23,.call (.con (.func n_parse_reader_schema [])) [(.tmp 22)],none⟩,⟨none,.store 1 (.tmp 2) (.tmp 23),none⟩,⟨none,.store 1 (.tmp 3) (.con (.int .i64 0)),none⟩,⟨none,.store 1 (.tmp 4) (.con (.int .i64 0)),none⟩]
def parse_Parse_c:DCode:=(.seq (.ops parse_Parse_r0) (.seq (.ops parse_Parse_r1) (.seq (.seq (.ops parse_Parse_r2) (.cond (.tmp 14) (.seq (.draw parse_Parse_r3) .ret) .skip)) (.dfr parse_Parse_r4 (.tmp 18) (.seq (.ops parse_Parse_r5) (.seq (.ops parse_Parse_r6) .ret))))))
def parse_Parse_a:ADef:=⟨24,[(.cell 2 true 1),(.cell 3 false 1),(.cell 4 false 1)],parse_Parse_c⟩
/-! check_Check -/
def check_Check_r0:List AStep := [⟨some 1,.box (.tmp 0),none⟩,⟨some 2,.mov (.con (.int .i64 0)),none⟩,⟨some 3,.mov (.con (.str [])),none⟩]
def check_Check_r1:List AStep := [⟨some 12,.load true 1 (.tmp 1),none⟩,⟨some 13,.call (.con (.func n_check_counts [])) [(.tmp 12)],none⟩,⟨some 11,.mov (.tmp 13),none⟩,⟨some 14,.extract (.tmp 11) 0,none⟩,⟨some 15,.extract (.tmp 11) 1,none⟩,⟨some 2,.mov (.tmp 14),none⟩,⟨some 3,.mov (.tmp 15),none⟩]
def check_Check_r2:List AStep := [⟨some 16,.mov (.tmp 2),none⟩,⟨some 17,.bin .neq (.tmp 16) (.con (.int .i64 0)),none⟩]
def check_Check_r3:List AStep := [⟨some 18,.mov (.tmp 2),none⟩,⟨some 19,.mov (.tmp 3),none⟩,⟨some 2,.mov (.tmp 18),none⟩,⟨some 3,.mov (.tmp 19),none⟩]
def check_Check_r4:List AStep := [⟨some 20,.fieldAddr 0 (.tmp 1),none⟩,⟨some 21,.load false 1 (.tmp 20),none⟩,⟨some 22,.len (.tmp 21),none⟩,⟨some 23,.mov (.con (.int .i64 0)),none⟩]
def check_Check_r5:List AStep := [⟨some 24,.bin .lss (.tmp 23) (.tmp 22),none⟩]
def check_Check_r6:List AStep := [⟨some 25,.indexAddr 2 (.tmp 21) (.tmp 23),none⟩,⟨some 26,.load true 2 (.tmp 25),none⟩,⟨some 5,.alloc [(.str []),.nils],none⟩,⟨none,.store 2 (.tmp 5) (.tmp 26),none⟩]
def check_Check_r7:List AStep := [⟨some 27,.fieldAddr 1 (.tmp 5),none⟩,⟨some 28,.load false 1 (.tmp 27),none⟩,⟨some 29,.len (.tmp 28),none⟩,⟨some 30,.mov (.con (.int .i64 0)),none⟩]
def check_Check_r8:List AStep := [⟨some 31,.bin .lss (.tmp 30) (.tmp 29),none⟩]
def check_Check_r9:List AStep := [⟨some 32,.indexAddr 6 (.tmp 28) (.tmp 30),none⟩,⟨some 33,.load true 6 (.tmp 32),none⟩,⟨some 7,.alloc [(.str []),(.str []),(.str []),(.str []),.nils,.nils],none⟩,⟨none,.store 6 (.tmp 7) (.tmp 33),none⟩]
def check_Check_r10:List AStep := [⟨some 34,.load true 2 (.tmp 5),none⟩,⟨some 35,.load true 6 (.tmp 7),none⟩,⟨some 36,.call (.con (.func n_check_path [])) [(.tmp 34),(.tmp 35)],none⟩,⟨some 2,.mov (.con (.int .i64 31)),none⟩,⟨some 3,.mov (.tmp 36),none⟩]
def check_Check_r11:List AStep := [⟨some 37,.load true 2 (.tmp 5),none⟩,⟨some 38,.fieldAddr 1 (.tmp 7),none⟩,⟨some 39,.load false 1 (.tmp 38),none⟩,⟨some 40,.call (.con (.func n_check_has [])) [(.tmp 37),(.tmp 39)],none⟩,⟨some 41,.not (.tmp 40),none⟩,⟨some 42,.mov (.tmp 41),none⟩,⟨some 43,.load true 2 (.tmp 5),(some (42,false))⟩,⟨some 44,.fieldAddr 2 (.tmp 7),(some (42,false))⟩,⟨some 45,.load false 1 (.tmp 44),(some (42,false))⟩,⟨some 46,.call (.con (.func n_check_has [])) [(.tmp 43),(.tmp 45)],(some (42,false))⟩,⟨some 47,.not (.tmp 46),(some (42,false))⟩,⟨some 48,.pick (.tmp 42) (.con (.bool true)) (.tmp 47),none⟩,⟨some 49,.mov (.tmp 48),none⟩,⟨some 50,.load true 2 (.tmp 5),(some (49,false))⟩,⟨some 51,.fieldAddr 3 (.tmp 7),(some (49,false))⟩,⟨some 52,.load false 1 (.tmp 51),(some (49,false))⟩,⟨some 53,.call (.con (.func n_check_has [])) [(.tmp 50),(.tmp 52)],(some (49,false))⟩,⟨some 54,.not (.tmp 53),(some (49,false))⟩,⟨some 55,.pick (.tmp 49) (.con (.bool true)) (.tmp 54),none⟩]
def check_Check_r12:List AStep := [⟨some 56,.load true 1 (.tmp 1),none⟩,⟨some 57,.fieldAddr 4 (.tmp 7),none⟩,⟨some 58,.load false 1 (.tmp 57),none⟩,⟨some 59,.call (.con (.func n_check_subs [])) [(.tmp 56),(.tmp 58)],none⟩,⟨some 8,.mov (.tmp 59),none⟩]
def check_Check_r13:List AStep := [⟨some 60,.mov (.tmp 8),none⟩,⟨some 61,.bin .neq (.tmp 60) (.con (.int .i64 0)),none⟩]
def check_Check_r14:List AStep := [⟨some 62,.mov (.tmp 8),none⟩,⟨some 2,.mov (.tmp 62),none⟩]
def check_Check_r15:List AStep := [⟨some 63,.fieldAddr 5 (.tmp 7),none⟩,⟨some 64,.load false 1 (.tmp 63),none⟩,⟨some 65,.len (.tmp 64),none⟩,⟨some 66,.mov (.con (.int .i64 0)),none⟩]
def check_Check_r16:List AStep := [⟨some 67,.bin .lss (.tmp 66) (.tmp 65),none⟩]
def check_Check_r17:List AStep := [⟨some 68,.indexAddr 3 (.tmp 64) (.tmp 66),none⟩,⟨some 69,.load true 3 (.tmp 68),none⟩,⟨some 10,.alloc [(.int .i64 0),(.str []),(.str [])],none⟩,⟨none,.store 3 (.tmp 10) (.tmp 69),none⟩]
def check_Check_r18:List AStep := [⟨some 70,.load true 1 (.tmp 1),none⟩,⟨some 71,.load true 2 (.tmp 5),none⟩,⟨some 72,.load true 3 (.tmp 10),none⟩,⟨some 73,.call (.con (.func n_check_op [])) [(.tmp 70),(.tmp 71),(.tmp 72)],none⟩,⟨some 74,.not (.tmp 73),none⟩]
def check_Check_r19:List AStep := [⟨some 75,.bin .add (.tmp 66) (.con (.int .i64 1)),none⟩,⟨some 66,.mov (.tmp 75),none⟩]
def check_Check_l20:ACode:=(.seq (.ops check_Check_r16) (.seq (.cond (.tmp 67) .skip (.exit 4)) (.seq (.block 5 (.seq (.ops check_Check_r17) (.seq (.ops check_Check_r18) (.cond (.tmp 74) (.exit 0) .skip)))) (.ops check_Check_r19))))
def check_Check_r21:List AStep := [⟨some 2,.mov (.con (.int .i64 0)),none⟩,⟨some 3,.mov (.con (.str [])),none⟩]
def check_Check_r22:List AStep := [⟨some 76,.bin .add (.tmp 30) (.con (.int .i64 1)),none⟩,⟨some 30,.mov (.tmp 76),none⟩]
def check_Check_l23:ACode:=(.seq (.ops check_Check_r8) (.seq (.cond (.tmp 31) .skip (.exit 2)) (.seq (.block 3 (.seq (.ops check_Check_r9) (.seq (.ops check_Check_r10) (.seq (.seq (.ops check_Check_r11) (.cond (.tmp 55) (.exit 0) .skip)) (.seq (.seq (.ops check_Check_r12) (.seq (.ops check_Check_r13) (.cond (.tmp 61) (.seq (.ops check_Check_r14) (.exit 0)) .skip))) (.seq (.seq (.ops check_Check_r15) (.block 4 (.loop check_Check_l20))) (.ops check_Check_r21))))))) (.ops check_Check_r22))))
def check_Check_r24:List AStep := [⟨some 77,.bin .add (.tmp 23) (.con (.int .i64 1)),none⟩,⟨some 23,.mov (.tmp 77),none⟩]
def check_Check_l25:ACode:=(.seq (.ops check_Check_r5) (.seq (.cond (.tmp 24) .skip (.exit 0)) (.seq (.block 1 (.seq (.ops check_Check_r6) (.seq (.ops check_Check_r7) (.block 2 (.loop check_Check_l23))))) (.ops check_Check_r24))))
def check_Check_r26:List AStep := [⟨some 78,.mov (.tmp 2),none⟩,⟨some 79,.mov (.tmp 3),none⟩,⟨some 2,.mov (.tmp 78),none⟩,⟨some 3,.mov (.tmp 79),none⟩]
def check_Check_c:ACode:=(.seq (.ops check_Check_r0) (.scope (.seq (.seq (.ops check_Check_r1) (.seq (.ops check_Check_r2) (.cond (.tmp 17) (.seq (.ops check_Check_r3) .ret) .skip))) (.seq .skip (.seq (.seq (.ops check_Check_r4) (.block 0 (.loop check_Check_l25))) (.seq (.ops check_Check_r26) .ret))))))
def check_Check_a:AFunc:=⟨80,[(.tmp 2),(.tmp 3)],check_Check_c⟩
/-! strata_Edges -/
def strata_Edges_r0:List AStep := [⟨some 1,.box (.tmp 0),none⟩,⟨some 2,.mov (.con .nils),none⟩]
def strata_Edges_r1:List AStep := [⟨some 16,.load true 1 (.tmp 1),none⟩,⟨some 17,.call (.con (.func n_strata_numbers [])) [(.tmp 16)],none⟩,⟨some 3,.mov (.tmp 17),none⟩]
def strata_Edges_r2:List AStep := [⟨some 4,.mov (.con .nils),none⟩]
def strata_Edges_r3:List AStep := [⟨some 18,.fieldAddr 0 (.tmp 1),none⟩,⟨some 19,.load false 1 (.tmp 18),none⟩,⟨some 20,.len (.tmp 19),none⟩,⟨some 21,.mov (.con (.int .i64 0)),none⟩]
def strata_Edges_r4:List AStep := [⟨some 22,.bin .lss (.tmp 21) (.tmp 20),none⟩]
def strata_Edges_r5:List AStep := [⟨some 23,.indexAddr 2 (.tmp 19) (.tmp 21),none⟩,⟨some 24,.load true 2 (.tmp 23),none⟩,⟨some 6,.alloc [(.str []),.nils],none⟩,⟨none,.store 2 (.tmp 6) (.tmp 24),none⟩]
def strata_Edges_r6:List AStep := [⟨some 25,.fieldAddr 1 (.tmp 6),none⟩,⟨some 26,.load false 1 (.tmp 25),none⟩,⟨some 27,.len (.tmp 26),none⟩,⟨some 28,.mov (.con (.int .i64 0)),none⟩]
def strata_Edges_r7:List AStep := [⟨some 29,.bin .lss (.tmp 28) (.tmp 27),none⟩]
def strata_Edges_r8:List AStep := [⟨some 30,.indexAddr 6 (.tmp 26) (.tmp 28),none⟩,⟨some 31,.load true 6 (.tmp 30),none⟩,⟨some 8,.alloc [(.str []),(.str []),(.str []),(.str []),.nils,.nils],none⟩,⟨none,.store 6 (.tmp 8) (.tmp 31),none⟩]
def strata_Edges_r9:List AStep := [⟨some 32,.fieldAddr 5 (.tmp 8),none⟩,⟨some 33,.load false 1 (.tmp 32),none⟩,⟨some 34,.call (.con (.func n_strata_nots [])) [(.tmp 33)],none⟩,⟨some 9,.mov (.tmp 34),none⟩]
def strata_Edges_r10:List AStep := [⟨some 35,.fieldAddr 5 (.tmp 8),none⟩,⟨some 36,.load false 1 (.tmp 35),none⟩,⟨some 37,.len (.tmp 36),none⟩,⟨some 38,.mov (.con (.int .i64 0)),none⟩]
def strata_Edges_r11:List AStep := [⟨some 39,.bin .lss (.tmp 38) (.tmp 37),none⟩]
def strata_Edges_r12:List AStep := [⟨some 40,.mov (.tmp 38),none⟩,⟨some 41,.indexAddr 3 (.tmp 36) (.tmp 38),none⟩,⟨some 42,.load true 3 (.tmp 41),none⟩,⟨some 11,.alloc [(.int .i64 0),(.str []),(.str [])],none⟩,⟨some 10,.mov (.tmp 40),none⟩,⟨none,.store 3 (.tmp 11) (.tmp 42),none⟩]
def strata_Edges_r13:List AStep := [⟨some 43,.load true 2 (.tmp 6),none⟩,⟨some 44,.load true 6 (.tmp 8),none⟩,⟨some 45,.load true 3 (.tmp 11),none⟩,⟨some 46,.call (.con (.func n_strata_to [])) [(.tmp 43),(.tmp 44),(.tmp 45)],none⟩,⟨some 47,.len (.tmp 46),none⟩,⟨some 48,.mov (.con (.int .i64 0)),none⟩]
def strata_Edges_r14:List AStep := [⟨some 49,.bin .lss (.tmp 48) (.tmp 47),none⟩]
def strata_Edges_r15:List AStep := [⟨some 50,.indexAddr 2 (.tmp 46) (.tmp 48),none⟩,⟨some 51,.load true 2 (.tmp 50),none⟩,⟨some 13,.alloc [(.str []),(.str [])],none⟩,⟨none,.store 2 (.tmp 13) (.tmp 51),none⟩]
def strata_Edges_r16:List AStep := [⟨some 53,.mov (.tmp 3),none⟩,⟨some 54,.load true 2 (.tmp 13),none⟩,⟨some 55,.mapGet (.flat [.s,.s]) true (.int .i64 0) (.tmp 53) (.tmp 54),none⟩,⟨some 52,.mov (.tmp 55),none⟩,⟨some 56,.extract (.tmp 52) 0,none⟩,⟨some 57,.extract (.tmp 52) 1,none⟩,⟨some 14,.mov (.tmp 56),none⟩,⟨some 15,.mov (.tmp 57),none⟩]
def strata_Edges_r17:List AStep := [⟨some 58,.mov (.tmp 15),none⟩]
def strata_Edges_r18:List DStep := [⟨0,0,⟨(some 59),(.mov (.tmp 4)),none⟩⟩,⟨1,0,⟨(some 60),(.mov (.tmp 3)),none⟩⟩,⟨2,0,⟨(some 61),(.fieldAddr 0 (.tmp 6)),none⟩⟩,⟨3,4,⟨(some 62),(.load false 1 (.tmp 61)),none⟩⟩,⟨4,0,⟨(some 63),(.fieldAddr 0 (.tmp 8)),none⟩⟩,⟨5,16,⟨(some 64),(.load false 1 (.tmp 63)),none⟩⟩,⟨6,60,⟨(some 65),(.build [(.str []),(.str [])] [(0,(1,(.tmp 62))),(1,(1,(.tmp 64)))]),none⟩⟩,⟨7,126,⟨(some 66),(.mapGet (.flat [.s,.s]) false (.int .i64 0) (.tmp 60) (.tmp 65)),none⟩⟩,⟨8,0,⟨(some 67),(.mov (.tmp 14)),none⟩⟩,⟨9,0,⟨(some 68),(.mov (.tmp 9)),none⟩⟩,⟨10,0,⟨(some 69),(.mov (.tmp 10)),none⟩⟩,⟨11,1536,⟨(some 70),(.indexAddr 1 (.tmp 68) (.tmp 69)),none⟩⟩,⟨12,3584,⟨(some 71),(.load false 1 (.tmp 70)),none⟩⟩,⟨13,8190,⟨(some 72),(.build [(.int .i64 0),(.int .i64 0),(.bool false)] [(0,(1,(.tmp 66))),(1,(1,(.tmp 67))),(2,(1,(.tmp 71)))]),none⟩⟩,⟨14,16382,⟨(some 73),(.buildSlice 3 1 [(.int .i64 0),(.int .i64 0),(.bool false)] [(0,(3,(.tmp 72)))]),none⟩⟩,⟨15,32767,⟨(some 74),(.append 3 (.tmp 59) (.tmp 73)),none⟩⟩,⟨16,65535,⟨(some 4),(.mov (.tmp 74)),none⟩⟩]
def strata_Edges_r19:List AStep := [⟨some 75,.bin .add (.tmp 48) (.con (.int .i64 1)),none⟩,⟨some 48,.mov (.tmp 75),none⟩]
def strata_Edges_l20:ACode:=(.seq (.ops strata_Edges_r14) (.seq (.cond (.tmp 49) .skip (.exit 6)) (.seq (.block 7 (.seq (.ops strata_Edges_r15) (.seq (.ops strata_Edges_r16) (.seq (.ops strata_Edges_r17) (.cond (.tmp 58) (.draw strata_Edges_r18) .skip))))) (.ops strata_Edges_r19))))
def strata_Edges_r21:List AStep := [⟨some 76,.bin .add (.tmp 38) (.con (.int .i64 1)),none⟩,⟨some 38,.mov (.tmp 76),none⟩]
def strata_Edges_l22:ACode:=(.seq (.ops strata_Edges_r11) (.seq (.cond (.tmp 39) .skip (.exit 4)) (.seq (.block 5 (.seq (.ops strata_Edges_r12) (.seq (.ops strata_Edges_r13) (.block 6 (.loop strata_Edges_l20))))) (.ops strata_Edges_r21))))
def strata_Edges_r23:List AStep := [⟨some 77,.bin .add (.tmp 28) (.con (.int .i64 1)),none⟩,⟨some 28,.mov (.tmp 77),none⟩]
def strata_Edges_l24:ACode:=(.seq (.ops strata_Edges_r7) (.seq (.cond (.tmp 29) .skip (.exit 2)) (.seq (.block 3 (.seq (.ops strata_Edges_r8) (.seq (.ops strata_Edges_r9) (.seq (.ops strata_Edges_r10) (.block 4 (.loop strata_Edges_l22)))))) (.ops strata_Edges_r23))))
def strata_Edges_r25:List AStep := [⟨some 78,.bin .add (.tmp 21) (.con (.int .i64 1)),none⟩,⟨some 21,.mov (.tmp 78),none⟩]
def strata_Edges_l26:ACode:=(.seq (.ops strata_Edges_r4) (.seq (.cond (.tmp 22) .skip (.exit 0)) (.seq (.block 1 (.seq (.ops strata_Edges_r5) (.seq (.ops strata_Edges_r6) (.block 2 (.loop strata_Edges_l24))))) (.ops strata_Edges_r25))))
def strata_Edges_r27:List AStep := [⟨some 79,.mov (.tmp 4),none⟩,⟨some 80,.call (.con (.func n_slices_SortFunc_strata_Edge_strata_Edge [])) [(.tmp 79),(.con (.func n_strata_compare []))],none⟩]
def strata_Edges_r28:List AStep := [⟨some 81,.mov (.tmp 4),none⟩,⟨some 82,.call (.con (.func n_slices_Compact_strata_Edge_strata_Edge [])) [(.tmp 81)],none⟩,⟨some 2,.mov (.tmp 82),none⟩]
def strata_Edges_c:ACode:=(.seq (.ops strata_Edges_r0) (.seq (.ops strata_Edges_r1) (.seq (.ops strata_Edges_r2) (.seq (.seq (.ops strata_Edges_r3) (.block 0 (.loop strata_Edges_l26))) (.seq (.ops strata_Edges_r27) (.seq (.ops strata_Edges_r28) .ret))))))
def strata_Edges_a:AFunc:=⟨83,[(.tmp 2)],strata_Edges_c⟩
/-! strata_Levels -/
def strata_Levels_r0:List AStep := [⟨some 2,.box (.tmp 0),none⟩,⟨some 4,.mov (.con .nils),none⟩,⟨some 5,.mov (.con (.int .i64 0)),none⟩]
def strata_Levels_r1:List AStep := [⟨some 12,.makeFunc n_strata_Levels_1 [(.tmp 2)],none⟩,⟨some 6,.mov (.tmp 12),none⟩]
def strata_Levels_r2:List AStep := [⟨some 13,.load false 1 (.tmp 2),none⟩,⟨some 14,.bin .lss (.tmp 13) (.con (.int .i64 0)),none⟩,⟨some 15,.mov (.tmp 14),none⟩,⟨some 16,.load false 1 (.tmp 2),(some (15,false))⟩,⟨some 17,.bin .gtr (.tmp 16) (.con (.int .i64 4096)),(some (15,false))⟩,⟨some 18,.pick (.tmp 15) (.con (.bool true)) (.tmp 17),none⟩,⟨some 19,.mov (.tmp 18),none⟩,⟨some 20,.mov (.tmp 1),(some (19,false))⟩,⟨some 21,.mov (.tmp 6),(some (19,false))⟩,⟨some 22,.call (.con (.func n_slices_ContainsFunc_strata_Edge_strata_Edge [])) [(.tmp 20),(.tmp 21)],(some (19,false))⟩,⟨some 23,.pick (.tmp 19) (.con (.bool true)) (.tmp 22),none⟩]
def strata_Levels_r3:List AStep := [⟨some 4,.mov (.con .nils),none⟩,⟨some 5,.mov (.con (.int .i64 1)),none⟩]
def strata_Levels_r4:List AStep := [⟨some 24,.load false 1 (.tmp 2),none⟩,⟨some 25,.makeSlice 1 8 [(.int .i64 0)] (.tmp 24) (.tmp 24),none⟩,⟨some 7,.mov (.tmp 25),none⟩]
def strata_Levels_r5:List AStep := [⟨some 8,.mov (.con (.bool true)),none⟩]
def strata_Levels_r6:List AStep := [⟨some 26,.mov (.tmp 8),none⟩]
def strata_Levels_r7:List AStep := [⟨some 8,.mov (.con (.bool false)),none⟩]
def strata_Levels_r8:List AStep := [⟨some 27,.mov (.tmp 1),none⟩,⟨some 28,.len (.tmp 27),none⟩,⟨some 29,.mov (.con (.int .i64 0)),none⟩]
def strata_Levels_r9:List AStep := [⟨some 30,.bin .lss (.tmp 29) (.tmp 28),none⟩]
def strata_Levels_r10:List AStep := [⟨some 31,.indexAddr 3 (.tmp 27) (.tmp 29),none⟩,⟨some 32,.load true 3 (.tmp 31),none⟩,⟨some 10,.alloc [(.int .i64 0),(.int .i64 0),(.bool false)],none⟩,⟨none,.store 3 (.tmp 10) (.tmp 32),none⟩]
def strata_Levels_r11:List AStep := [⟨some 33,.mov (.tmp 7),none⟩,⟨some 34,.fieldAddr 1 (.tmp 10),none⟩,⟨some 35,.load false 1 (.tmp 34),none⟩,⟨some 36,.indexAddr 1 (.tmp 33) (.tmp 35),none⟩,⟨some 37,.load false 1 (.tmp 36),none⟩,⟨some 11,.mov (.tmp 37),none⟩]
def strata_Levels_r12:List AStep := [⟨some 38,.fieldAddr 2 (.tmp 10),none⟩,⟨some 39,.load false 1 (.tmp 38),none⟩]
def strata_Levels_r13:List AStep := [⟨some 40,.mov (.tmp 11),none⟩,⟨some 41,.bin .add (.tmp 40) (.con (.int .i64 1)),none⟩,⟨some 11,.mov (.tmp 41),none⟩]
def strata_Levels_r14:List AStep := [⟨some 42,.mov (.tmp 7),none⟩,⟨some 43,.fieldAddr 0 (.tmp 10),none⟩,⟨some 44,.load false 1 (.tmp 43),none⟩,⟨some 45,.indexAddr 1 (.tmp 42) (.tmp 44),none⟩,⟨some 46,.load false 1 (.tmp 45),none⟩,⟨some 47,.mov (.tmp 11),none⟩,⟨some 48,.bin .lss (.tmp 46) (.tmp 47),none⟩]
def strata_Levels_r15:List AStep := [⟨some 49,.mov (.tmp 7),none⟩,⟨some 50,.fieldAddr 0 (.tmp 10),none⟩,⟨some 51,.load false 1 (.tmp 50),none⟩,⟨some 52,.mov (.tmp 11),none⟩,⟨some 53,.indexAddr 1 (.tmp 49) (.tmp 51),none⟩,⟨none,.store 1 (.tmp 53) (.tmp 52),none⟩]
def strata_Levels_r16:List AStep := [⟨some 8,.mov (.con (.bool true)),none⟩]
def strata_Levels_r17:List AStep := [⟨some 54,.mov (.tmp 11),none⟩,⟨some 55,.load false 1 (.tmp 2),none⟩,⟨some 56,.bin .gtr (.tmp 54) (.tmp 55),none⟩]
def strata_Levels_r18:List AStep := [⟨some 4,.mov (.con .nils),none⟩,⟨some 5,.mov (.con (.int .i64 33)),none⟩]
def strata_Levels_r19:List AStep := [⟨some 57,.bin .add (.tmp 29) (.con (.int .i64 1)),none⟩,⟨some 29,.mov (.tmp 57),none⟩]
def strata_Levels_l20:ACode:=(.seq (.ops strata_Levels_r9) (.seq (.cond (.tmp 30) .skip (.exit 2)) (.seq (.block 3 (.seq (.ops strata_Levels_r10) (.seq (.ops strata_Levels_r11) (.seq (.seq (.ops strata_Levels_r12) (.cond (.tmp 39) (.ops strata_Levels_r13) .skip)) (.seq (.seq (.ops strata_Levels_r14) (.cond (.tmp 48) (.seq (.ops strata_Levels_r15) (.ops strata_Levels_r16)) .skip)) (.seq (.ops strata_Levels_r17) (.cond (.tmp 56) (.seq (.ops strata_Levels_r18) .ret) .skip))))))) (.ops strata_Levels_r19))))
def strata_Levels_l21:ACode:=(.seq (.seq (.ops strata_Levels_r6) (.cond (.tmp 26) .skip (.exit 0))) (.block 1 (.seq (.ops strata_Levels_r7) (.seq (.ops strata_Levels_r8) (.block 2 (.loop strata_Levels_l20))))))
def strata_Levels_r22:List AStep := [⟨some 58,.mov (.tmp 7),none⟩,⟨some 4,.mov (.tmp 58),none⟩,⟨some 5,.mov (.con (.int .i64 0)),none⟩]
def strata_Levels_c:ACode:=(.seq (.ops strata_Levels_r0) (.seq (.ops strata_Levels_r1) (.seq (.seq (.ops strata_Levels_r2) (.cond (.tmp 23) (.seq (.ops strata_Levels_r3) .ret) .skip)) (.seq (.ops strata_Levels_r4) (.seq (.seq (.ops strata_Levels_r5) (.block 0 (.loop strata_Levels_l21))) (.seq (.ops strata_Levels_r22) .ret))))))
def strata_Levels_a:AFunc:=⟨59,[(.tmp 4),(.tmp 5)],strata_Levels_c⟩
/-! token_All -/
def token_All_r0:List AStep := [⟨some 2,.mov (.con .nils),none⟩,⟨some 3,.mov (.con (.int .i64 0)),none⟩,⟨some 4,.mov (.con (.int .i64 0)),none⟩]
def token_All_r1:List AStep := [⟨some 12,.mov (.tmp 0),none⟩,⟨some 13,.lenT (.tmp 12),none⟩,⟨some 14,.bin .gtr (.tmp 13) (.con (.int .i64 2048)),none⟩]
def token_All_r2:List AStep := [⟨some 2,.mov (.con .nils),none⟩,⟨some 3,.mov (.con (.int .i64 13)),none⟩,⟨some 4,.mov (.con (.int .i64 0)),none⟩]
def token_All_r3:List AStep := [⟨some 15,.mov (.tmp 0),none⟩,⟨some 16,.call (.con (.func n_token_broken [])) [(.tmp 15)],none⟩,⟨some 5,.mov (.tmp 16),none⟩]
def token_All_r4:List AStep := [⟨some 17,.mov (.tmp 5),none⟩,⟨some 18,.bin .geq (.tmp 17) (.con (.int .i64 0)),none⟩]
def token_All_r5:List AStep := [⟨some 19,.mov (.tmp 5),none⟩,⟨some 2,.mov (.con .nils),none⟩,⟨some 3,.mov (.con (.int .i64 11)),none⟩,⟨some 4,.mov (.tmp 19),none⟩]
def token_All_r6:List AStep := [⟨some 20,.mov (.tmp 0),none⟩,⟨some 21,.build [(.str []),(.int .i64 0),.nils,(.int .i64 0)] [(0,(1,(.tmp 20)))],none⟩,⟨some 22,.box (.tmp 21),none⟩,⟨some 6,.mov (.tmp 22),none⟩]
def token_All_r7:List AStep := [⟨(some 23),.makeMap,none⟩,⟨some 24,.mov (.tmp 6),none⟩,⟨some 25,.makeMeth n_token_reader_blank (.tmp 24),none⟩,⟨none,.mapPut .int (.tmp 23) (.con (.int .u8 32)) (.tmp 25),none⟩,⟨some 26,.mov (.tmp 6),none⟩,⟨some 27,.makeMeth n_token_reader_blank (.tmp 26),none⟩,⟨none,.mapPut .int (.tmp 23) (.con (.int .u8 9)) (.tmp 27),none⟩,⟨some 28,.mov (.tmp 6),none⟩,⟨some 29,.makeMeth n_token_reader_blank (.tmp 28),none⟩,⟨none,.mapPut .int (.tmp 23) (.con (.int .u8 10)) (.tmp 29),none⟩,⟨some 30,.mov (.tmp 6),none⟩,⟨some 31,.makeMeth n_token_reader_note (.tmp 30),none⟩,⟨none,.mapPut .int (.tmp 23) (.con (.int .u8 47)) (.tmp 31),none⟩,⟨some 32,.mov (.tmp 23),none⟩,⟨some 7,.mov (.tmp 32),none⟩]
def token_All_r8:List AStep := [⟨some 33,.buildSlice 1 12 [(.int .u8 0)] [(0,(1,(.con (.int .u8 123)))),(1,(1,(.con (.int .u8 125)))),(2,(1,(.con (.int .u8 40)))),(3,(1,(.con (.int .u8 41)))),(4,(1,(.con (.int .u8 58)))),(5,(1,(.con (.int .u8 44)))),(6,(1,(.con (.int .u8 59)))),(7,(1,(.con (.int .u8 124)))),(8,(1,(.con (.int .u8 38)))),(9,(1,(.con (.int .u8 45)))),(10,(1,(.con (.int .u8 46)))),(11,(1,(.con (.int .u8 35))))],none⟩,⟨some 34,.cvB2B (.tmp 33),none⟩,⟨some 35,.len (.tmp 34),none⟩,⟨some 36,.mov (.con (.int .i64 0)),none⟩]
def token_All_r9:List AStep := [⟨some 37,.bin .lss (.tmp 36) (.tmp 35),none⟩]
def token_All_r10:List AStep := [⟨some 38,.indexAddr 1 (.tmp 34) (.tmp 36),none⟩,⟨some 39,.load false 1 (.tmp 38),none⟩,⟨some 9,.mov (.tmp 39),none⟩]
def token_All_r11:List AStep := [⟨some 40,.mov (.tmp 7),none⟩,⟨some 41,.mov (.tmp 9),none⟩,⟨some 42,.mov (.tmp 6),none⟩,⟨some 43,.makeMeth n_token_reader_sign (.tmp 42),none⟩,⟨none,.mapPut .int (.tmp 40) (.tmp 41) (.tmp 43),none⟩]
def token_All_r12:List AStep := [⟨some 44,.bin .add (.tmp 36) (.con (.int .i64 1)),none⟩,⟨some 36,.mov (.tmp 44),none⟩]
def token_All_l13:ACode:=(.seq (.ops token_All_r9) (.seq (.cond (.tmp 37) .skip (.exit 0)) (.seq (.block 1 (.seq (.ops token_All_r10) (.ops token_All_r11))) (.ops token_All_r12))))
def token_All_r14:List AStep := [⟨some 45,.mov (.tmp 6),none⟩,⟨some 46,.nilCheck (.tmp 45),none⟩,⟨some 47,.fieldAddr 1 (.tmp 46),none⟩,⟨some 48,.load false 1 (.tmp 47),none⟩,⟨some 49,.mov (.tmp 0),none⟩,⟨some 50,.lenT (.tmp 49),none⟩,⟨some 51,.bin .lss (.tmp 48) (.tmp 50),none⟩]
def token_All_r15:List AStep := [⟨some 53,.mov (.tmp 7),none⟩,⟨some 54,.mov (.tmp 0),none⟩,⟨some 55,.mov (.tmp 6),none⟩,⟨some 56,.nilCheck (.tmp 55),none⟩,⟨some 57,.fieldAddr 1 (.tmp 56),none⟩,⟨some 58,.load false 1 (.tmp 57),none⟩,⟨some 59,.indexStr (.tmp 54) (.tmp 58),none⟩,⟨some 60,.mapGet .int true .nilf (.tmp 53) (.tmp 59),none⟩,⟨some 52,.mov (.tmp 60),none⟩,⟨some 61,.extract (.tmp 52) 0,none⟩,⟨some 62,.extract (.tmp 52) 1,none⟩,⟨some 10,.mov (.tmp 61),none⟩,⟨some 11,.mov (.tmp 62),none⟩]
def token_All_r16:List AStep := [⟨some 63,.mov (.tmp 11),none⟩,⟨some 64,.not (.tmp 63),none⟩]
def token_All_r17:List AStep := [⟨some 65,.mov (.tmp 6),none⟩,⟨some 66,.makeMeth n_token_reader_word (.tmp 65),none⟩,⟨some 10,.mov (.tmp 66),none⟩]
def token_All_r18:List AStep := [⟨some 67,.mov (.tmp 10),none⟩,⟨some 68,.call (.tmp 67) [],none⟩]
def token_All_r19:List AStep := [⟨some 69,.mov (.tmp 6),none⟩,⟨some 70,.nilCheck (.tmp 69),none⟩,⟨some 71,.fieldAddr 3 (.tmp 70),none⟩,⟨some 72,.load false 1 (.tmp 71),none⟩,⟨some 73,.bin .neq (.tmp 72) (.con (.int .i64 0)),none⟩]
def token_All_r20:List DStep := [⟨0,0,⟨(some 74),(.mov (.tmp 6)),none⟩⟩,⟨1,1,⟨(some 75),(.nilCheck (.tmp 74)),none⟩⟩,⟨2,3,⟨(some 76),(.fieldAddr 3 (.tmp 75)),none⟩⟩,⟨3,7,⟨(some 77),(.load false 1 (.tmp 76)),none⟩⟩,⟨4,0,⟨(some 78),(.mov (.tmp 6)),none⟩⟩,⟨5,16,⟨(some 79),(.nilCheck (.tmp 78)),none⟩⟩,⟨6,48,⟨(some 80),(.fieldAddr 1 (.tmp 79)),none⟩⟩,⟨7,112,⟨(some 81),(.load false 1 (.tmp 80)),none⟩⟩,⟨8,0,⟨(some 2),(.mov (.con .nils)),none⟩⟩,⟨9,271,⟨(some 3),(.mov (.tmp 77)),none⟩⟩,⟨10,1023,⟨(some 4),(.mov (.tmp 81)),none⟩⟩]
def token_All_l21:ACode:=(.seq (.seq (.ops token_All_r14) (.cond (.tmp 51) .skip (.exit 2))) (.block 3 (.seq (.ops token_All_r15) (.seq (.seq (.ops token_All_r16) (.cond (.tmp 64) (.ops token_All_r17) .skip)) (.seq (.ops token_All_r18) (.seq (.ops token_All_r19) (.cond (.tmp 73) (.seq (.draw token_All_r20) .ret) .skip)))))))
def token_All_r22:List AStep := [⟨some 82,.mov (.tmp 6),none⟩,⟨some 83,.call (.con (.func n_token_reader_put [])) [(.tmp 82),(.con (.int .i64 3)),(.con (.int .i64 0))],none⟩]
def token_All_r23:List AStep := [⟨some 84,.mov (.tmp 6),none⟩,⟨some 85,.nilCheck (.tmp 84),none⟩,⟨some 86,.fieldAddr 2 (.tmp 85),none⟩,⟨some 87,.load false 1 (.tmp 86),none⟩,⟨some 2,.mov (.tmp 87),none⟩,⟨some 3,.mov (.con (.int .i64 0)),none⟩,⟨some 4,.mov (.con (.int .i64 0)),none⟩]
def token_All_c:ACode:=(.seq (.ops token_All_r0) (.seq (.seq (.ops token_All_r1) (.cond (.tmp 14) (.seq (.ops token_All_r2) .ret) .skip)) (.seq (.seq (.ops token_All_r3) (.seq (.ops token_All_r4) (.cond (.tmp 18) (.seq (.ops token_All_r5) .ret) .skip))) (.seq (.ops token_All_r6) (.seq (.ops token_All_r7) (.seq (.seq (.ops token_All_r8) (.block 0 (.loop token_All_l13))) (.seq (.block 2 (.loop token_All_l21)) (.seq (.ops token_All_r22) (.seq (.ops token_All_r23) .ret)))))))))
def token_All_a:AFunc:=⟨88,[(.tmp 2),(.tmp 3),(.tmp 4)],token_All_c⟩
/-! parse_Parse_1 -/
def parse_Parse_1_r0:List AStep := [⟨some 3,.mov (.tmp 6),none⟩]
def parse_Parse_1_r1:List AStep := [⟨some 8,.mov (.tmp 3),none⟩,⟨some 9,.assert t_parse_fault (.agg [(.int .i64 0),(.int .i64 0)]) true (.tmp 8),none⟩,⟨some 7,.mov (.tmp 9),none⟩,⟨some 10,.extract (.tmp 7) 0,none⟩,⟨some 11,.extract (.tmp 7) 1,none⟩,⟨some 4,.alloc [(.int .i64 0),(.int .i64 0)],none⟩,⟨none,.store 2 (.tmp 4) (.tmp 10),none⟩,⟨some 5,.mov (.tmp 11),none⟩]
def parse_Parse_1_r2:List AStep := [⟨some 12,.mov (.tmp 5),none⟩]
def parse_Parse_1_r3:List DStep := [⟨0,0,⟨(some 13),(.build [.nils] []),none⟩⟩,⟨1,0,⟨(some 14),(.fieldAddr 0 (.tmp 4)),none⟩⟩,⟨2,2,⟨(some 15),(.load false 1 (.tmp 14)),none⟩⟩,⟨3,0,⟨(some 16),(.fieldAddr 1 (.tmp 4)),none⟩⟩,⟨4,8,⟨(some 17),(.load false 1 (.tmp 16)),none⟩⟩,⟨5,1,⟨none,(.store 1 (.tmp 0) (.tmp 13)),none⟩⟩,⟨6,39,⟨none,(.store 1 (.tmp 1) (.tmp 15)),none⟩⟩,⟨7,127,⟨none,(.store 1 (.tmp 2) (.tmp 17)),none⟩⟩]
def parse_Parse_1_r4:List AStep := [⟨some 18,.mov (.tmp 3),none⟩,⟨some 19,.eq .nilI true (.tmp 18) (.con .nili),none⟩]
def parse_Parse_1_r5:List AStep := [⟨some 20,.mov (.tmp 3),none⟩,⟨none,.panic (.tmp 20),none⟩]
def parse_Parse_1_c:ACode:=(.seq (.ops parse_Parse_1_r1) (.seq (.ops parse_Parse_1_r2) (.cond (.tmp 12) (.draw parse_Parse_1_r3) (.seq (.ops parse_Parse_1_r4) (.cond (.tmp 19) (.ops parse_Parse_1_r5) .skip)))))
def parse_Parse_1_a:ARec:=⟨21,6,parse_Parse_1_r0,parse_Parse_1_c⟩
/-! parse_reader_schema -/
def parse_reader_schema_r0:List AStep := [⟨some 2,.alloc [.nils],none⟩]
def parse_reader_schema_r1:List AStep := [⟨some 3,.alloc [.nils],none⟩]
def parse_reader_schema_r2:List AStep := [⟨some 5,.mov (.tmp 0),none⟩,⟨some 6,.call (.con (.func n_parse_reader_pass [])) [(.tmp 5),(.con (.str [116,121,112,101]))],none⟩]
def parse_reader_schema_r3:List AStep := [⟨some 7,.mov (.tmp 0),none⟩,⟨some 8,.call (.con (.func n_parse_reader_name [])) [(.tmp 7)],none⟩,⟨some 9,.build [(.str []),.nils] [(0,(1,(.tmp 8)))],none⟩,⟨some 4,.alloc [(.str []),.nils],none⟩,⟨none,.store 2 (.tmp 4) (.tmp 9),none⟩]
def parse_reader_schema_r4:List AStep := [⟨some 10,.mov (.tmp 0),none⟩,⟨some 11,.call (.con (.func n_parse_reader_need [])) [(.tmp 10),(.con (.str [123]))],none⟩]
def parse_reader_schema_r5:List AStep := [⟨some 12,.mov (.tmp 0),none⟩,⟨some 13,.call (.con (.func n_parse_reader_pass [])) [(.tmp 12),(.con (.str [114,101,108]))],none⟩]
def parse_reader_schema_r6:List DStep := [⟨0,0,⟨(some 14),(.fieldAddr 1 (.tmp 4)),none⟩⟩,⟨1,1,⟨(some 15),(.load false 1 (.tmp 14)),none⟩⟩,⟨2,0,⟨(some 16),(.mov (.tmp 0)),none⟩⟩,⟨3,4,⟨(some 17),(.call (.con (.func n_parse_reader_rel [])) [(.tmp 16)]),none⟩⟩,⟨4,12,⟨(some 18),(.buildSlice 6 1 [(.str []),(.str []),(.str []),(.str []),.nils,.nils] [(0,(6,(.tmp 17)))]),none⟩⟩,⟨5,31,⟨(some 19),(.append 6 (.tmp 15) (.tmp 18)),none⟩⟩,⟨6,63,⟨(some 20),(.fieldAddr 1 (.tmp 4)),none⟩⟩,⟨7,127,⟨none,(.store 1 (.tmp 20) (.tmp 19)),none⟩⟩]
def parse_reader_schema_l7:ACode:=(.seq (.seq (.ops parse_reader_schema_r5) (.cond (.tmp 13) .skip (.exit 2))) (.block 3 (.draw parse_reader_schema_r6)))
def parse_reader_schema_r8:List AStep := [⟨some 21,.mov (.tmp 0),none⟩,⟨some 22,.call (.con (.func n_parse_reader_need [])) [(.tmp 21),(.con (.str [125]))],none⟩]
def parse_reader_schema_r9:List AStep := [⟨some 23,.fieldAddr 0 (.tmp 3),none⟩,⟨some 24,.load false 1 (.tmp 23),none⟩,⟨some 25,.load true 2 (.tmp 4),none⟩,⟨some 26,.buildSlice 2 1 [(.str []),.nils] [(0,(2,(.tmp 25)))],none⟩,⟨some 27,.append 2 (.tmp 24) (.tmp 26),none⟩,⟨some 28,.fieldAddr 0 (.tmp 3),none⟩,⟨none,.store 1 (.tmp 28) (.tmp 27),none⟩]
def parse_reader_schema_l10:ACode:=(.seq (.seq (.ops parse_reader_schema_r2) (.cond (.tmp 6) .skip (.exit 0))) (.block 1 (.seq (.ops parse_reader_schema_r3) (.seq (.ops parse_reader_schema_r4) (.seq (.block 2 (.loop parse_reader_schema_l7)) (.seq (.ops parse_reader_schema_r8) (.ops parse_reader_schema_r9)))))))
def parse_reader_schema_r11:List AStep := [⟨some 29,.mov (.tmp 0),none⟩,⟨some 30,.nilCheck (.tmp 29),none⟩,⟨some 31,.fieldAddr 0 (.tmp 30),none⟩,⟨some 32,.load false 1 (.tmp 31),none⟩,⟨some 33,.indexAddr 3 (.tmp 32) (.con (.int .i64 0)),none⟩,⟨some 34,.fieldAddr 0 (.tmp 33),none⟩,⟨some 35,.load false 1 (.tmp 34),none⟩,⟨some 36,.bin .neq (.tmp 35) (.con (.int .i64 3)),none⟩]
def parse_reader_schema_r12:List AStep := [⟨some 37,.mov (.tmp 0),none⟩,⟨some 38,.call (.con (.func n_parse_reader_fail [])) [(.tmp 37),(.con (.int .i64 30))],none⟩]
def parse_reader_schema_r13:List AStep := [⟨some 39,.load true 1 (.tmp 3),none⟩,⟨none,.store 1 (.tmp 2) (.tmp 39),none⟩]
def parse_reader_schema_c:ACode:=(.seq (.ops parse_reader_schema_r0) (.seq (.ops parse_reader_schema_r1) (.seq (.block 0 (.loop parse_reader_schema_l10)) (.seq (.seq (.ops parse_reader_schema_r11) (.cond (.tmp 36) (.ops parse_reader_schema_r12) .skip)) (.seq (.ops parse_reader_schema_r13) .ret)))))
def parse_reader_schema_a:AFunc:=⟨40,[(.cell 2 true 1)],parse_reader_schema_c⟩
/-! check_counts -/
def check_counts_r0:List AStep := [⟨some 1,.box (.tmp 0),none⟩,⟨some 2,.mov (.con (.int .i64 0)),none⟩,⟨some 3,.mov (.con (.str [])),none⟩]
def check_counts_r1:List AStep := [⟨some 10,.fieldAddr 0 (.tmp 1),none⟩,⟨some 11,.load false 1 (.tmp 10),none⟩,⟨some 12,.len (.tmp 11),none⟩,⟨some 13,.bin .gtr (.tmp 12) (.con (.int .i64 8)),none⟩]
def check_counts_r2:List AStep := [⟨some 2,.mov (.con (.int .i64 13)),none⟩,⟨some 3,.mov (.con (.str [])),none⟩]
def check_counts_r3:List AStep := [⟨some 14,.fieldAddr 0 (.tmp 1),none⟩,⟨some 15,.load false 1 (.tmp 14),none⟩,⟨some 16,.len (.tmp 15),none⟩,⟨some 17,.mov (.con (.int .i64 0)),none⟩]
def check_counts_r4:List AStep := [⟨some 18,.bin .lss (.tmp 17) (.tmp 16),none⟩]
def check_counts_r5:List AStep := [⟨some 19,.mov (.tmp 17),none⟩,⟨some 20,.indexAddr 2 (.tmp 15) (.tmp 17),none⟩,⟨some 21,.load true 2 (.tmp 20),none⟩,⟨some 5,.alloc [(.str []),.nils],none⟩,⟨some 4,.mov (.tmp 19),none⟩,⟨none,.store 2 (.tmp 5) (.tmp 21),none⟩]
def check_counts_r6:List DStep := [⟨0,0,⟨(some 23),(.fieldAddr 0 (.tmp 1)),none⟩⟩,⟨1,1,⟨(some 24),(.load false 1 (.tmp 23)),none⟩⟩,⟨2,0,⟨(some 25),(.mov (.tmp 4)),none⟩⟩,⟨3,7,⟨(some 26),(.sliceS 2 (.tmp 24) none (some (.tmp 25))),none⟩⟩,⟨4,15,⟨(some 27),(.build [.nils] [(0,(1,(.tmp 26)))]),none⟩⟩,⟨5,0,⟨(some 28),(.fieldAddr 0 (.tmp 5)),none⟩⟩,⟨6,32,⟨(some 29),(.load false 1 (.tmp 28)),none⟩⟩,⟨11,0,⟨(some 6),(.alloc [(.str []),.nils]),none⟩⟩,⟨7,127,⟨(some 30),(.call (.con (.func n_check_kind [])) [(.tmp 27),(.tmp 29)]),none⟩⟩,⟨8,255,⟨(some 22),(.mov (.tmp 30)),none⟩⟩,⟨9,511,⟨(some 31),(.extract (.tmp 22) 0),none⟩⟩,⟨10,511,⟨(some 32),(.extract (.tmp 22) 1),none⟩⟩,⟨12,3071,⟨none,(.store 2 (.tmp 6) (.tmp 31)),none⟩⟩,⟨13,8191,⟨(some 7),(.mov (.tmp 32)),none⟩⟩]
def check_counts_r7:List AStep := [⟨some 33,.mov (.tmp 7),none⟩]
def check_counts_r8:List DStep := [⟨0,0,⟨(some 34),(.fieldAddr 0 (.tmp 5)),none⟩⟩,⟨1,1,⟨(some 35),(.load false 1 (.tmp 34)),none⟩⟩,⟨2,0,⟨(some 2),(.mov (.con (.int .i64 32))),none⟩⟩,⟨3,7,⟨(some 3),(.mov (.tmp 35)),none⟩⟩]
def check_counts_r9:List AStep := [⟨some 36,.fieldAddr 1 (.tmp 5),none⟩,⟨some 37,.load false 1 (.tmp 36),none⟩,⟨some 38,.len (.tmp 37),none⟩,⟨some 39,.bin .gtr (.tmp 38) (.con (.int .i64 12)),none⟩]
def check_counts_r10:List DStep := [⟨0,0,⟨(some 40),(.fieldAddr 0 (.tmp 5)),none⟩⟩,⟨1,1,⟨(some 41),(.load false 1 (.tmp 40)),none⟩⟩,⟨2,0,⟨(some 2),(.mov (.con (.int .i64 13))),none⟩⟩,⟨3,7,⟨(some 3),(.mov (.tmp 41)),none⟩⟩]
def check_counts_r11:List AStep := [⟨some 42,.fieldAddr 1 (.tmp 5),none⟩,⟨some 43,.load false 1 (.tmp 42),none⟩,⟨some 44,.len (.tmp 43),none⟩,⟨some 45,.mov (.con (.int .i64 0)),none⟩]
def check_counts_r12:List AStep := [⟨some 46,.bin .lss (.tmp 45) (.tmp 44),none⟩]
def check_counts_r13:List AStep := [⟨some 47,.mov (.tmp 45),none⟩,⟨some 48,.indexAddr 6 (.tmp 43) (.tmp 45),none⟩,⟨some 49,.load true 6 (.tmp 48),none⟩,⟨some 9,.alloc [(.str []),(.str []),(.str []),(.str []),.nils,.nils],none⟩,⟨some 8,.mov (.tmp 47),none⟩,⟨none,.store 6 (.tmp 9) (.tmp 49),none⟩]
def check_counts_r14:List DStep := [⟨0,0,⟨(some 50),(.fieldAddr 1 (.tmp 5)),none⟩⟩,⟨1,1,⟨(some 51),(.load false 1 (.tmp 50)),none⟩⟩,⟨2,0,⟨(some 52),(.mov (.tmp 8)),none⟩⟩,⟨3,7,⟨(some 53),(.sliceS 6 (.tmp 51) none (some (.tmp 52))),none⟩⟩,⟨4,15,⟨(some 54),(.build [(.str []),.nils] [(1,(1,(.tmp 53)))]),none⟩⟩,⟨5,0,⟨(some 55),(.fieldAddr 0 (.tmp 9)),none⟩⟩,⟨6,32,⟨(some 56),(.load false 1 (.tmp 55)),none⟩⟩,⟨7,127,⟨(some 57),(.call (.con (.func n_check_has [])) [(.tmp 54),(.tmp 56)]),none⟩⟩]
def check_counts_r15:List AStep := [⟨some 58,.load true 2 (.tmp 5),none⟩,⟨some 59,.load true 6 (.tmp 9),none⟩,⟨some 60,.call (.con (.func n_check_path [])) [(.tmp 58),(.tmp 59)],none⟩,⟨some 2,.mov (.con (.int .i64 32)),none⟩,⟨some 3,.mov (.tmp 60),none⟩]
def check_counts_r16:List AStep := [⟨some 61,.fieldAddr 5 (.tmp 9),none⟩,⟨some 62,.load false 1 (.tmp 61),none⟩,⟨some 63,.len (.tmp 62),none⟩,⟨some 64,.bin .gtr (.tmp 63) (.con (.int .i64 16)),none⟩]
def check_counts_r17:List AStep := [⟨some 65,.load true 2 (.tmp 5),none⟩,⟨some 66,.load true 6 (.tmp 9),none⟩,⟨some 67,.call (.con (.func n_check_path [])) [(.tmp 65),(.tmp 66)],none⟩,⟨some 2,.mov (.con (.int .i64 13)),none⟩,⟨some 3,.mov (.tmp 67),none⟩]
def check_counts_r18:List AStep := [⟨some 68,.bin .add (.tmp 45) (.con (.int .i64 1)),none⟩,⟨some 45,.mov (.tmp 68),none⟩]
def check_counts_l19:ACode:=(.seq (.ops check_counts_r12) (.seq (.cond (.tmp 46) .skip (.exit 2)) (.seq (.block 3 (.seq (.ops check_counts_r13) (.seq (.seq (.draw check_counts_r14) (.cond (.tmp 57) (.seq (.ops check_counts_r15) .ret) .skip)) (.seq (.ops check_counts_r16) (.cond (.tmp 64) (.seq (.ops check_counts_r17) .ret) .skip))))) (.ops check_counts_r18))))
def check_counts_r20:List AStep := [⟨some 69,.bin .add (.tmp 17) (.con (.int .i64 1)),none⟩,⟨some 17,.mov (.tmp 69),none⟩]
def check_counts_l21:ACode:=(.seq (.ops check_counts_r4) (.seq (.cond (.tmp 18) .skip (.exit 0)) (.seq (.block 1 (.seq (.ops check_counts_r5) (.seq (.seq (.draw check_counts_r6) (.seq (.ops check_counts_r7) (.cond (.tmp 33) (.seq (.draw check_counts_r8) .ret) .skip))) (.seq (.seq (.ops check_counts_r9) (.cond (.tmp 39) (.seq (.draw check_counts_r10) .ret) .skip)) (.seq (.ops check_counts_r11) (.block 2 (.loop check_counts_l19))))))) (.ops check_counts_r20))))
def check_counts_r22:List AStep := [⟨some 2,.mov (.con (.int .i64 0)),none⟩,⟨some 3,.mov (.con (.str [])),none⟩]
def check_counts_c:ACode:=(.seq (.ops check_counts_r0) (.seq (.seq (.ops check_counts_r1) (.cond (.tmp 13) (.seq (.ops check_counts_r2) .ret) .skip)) (.seq (.seq (.ops check_counts_r3) (.block 0 (.loop check_counts_l21))) (.seq (.ops check_counts_r22) .ret))))
def check_counts_a:AFunc:=⟨70,[(.tmp 2),(.tmp 3)],check_counts_c⟩
/-! check_path -/
def check_path_r0:List AStep := [⟨some 2,.box (.tmp 0),none⟩,⟨some 3,.box (.tmp 1),none⟩,⟨some 4,.mov (.con (.str [])),none⟩]
def check_path_r1:List AStep := [⟨some 5,.fieldAddr 0 (.tmp 2),none⟩,⟨some 6,.load false 1 (.tmp 5),none⟩,⟨some 7,.bin .add (.tmp 6) (.con (.str [46])),none⟩,⟨some 8,.fieldAddr 0 (.tmp 3),none⟩,⟨some 9,.load false 1 (.tmp 8),none⟩,⟨some 10,.bin .add (.tmp 7) (.tmp 9),none⟩,⟨some 4,.mov (.tmp 10),none⟩]
def check_path_c:ACode:=(.seq (.ops check_path_r0) (.seq (.ops check_path_r1) .ret))
def check_path_a:AFunc:=⟨11,[(.tmp 4)],check_path_c⟩
/-! check_has -/
def check_has_r0:List AStep := [⟨some 2,.box (.tmp 0),none⟩,⟨some 3,.box (.tmp 1),none⟩,⟨some 4,.mov (.con (.bool false)),none⟩]
def check_has_r1:List AStep := [⟨some 5,.fieldAddr 1 (.tmp 2),none⟩,⟨some 6,.load false 1 (.tmp 5),none⟩,⟨some 7,.makeFunc n_check_has_1 [(.tmp 3)],none⟩,⟨some 8,.call (.con (.func n_slices_ContainsFunc_parse_Rel_parse_Rel [])) [(.tmp 6),(.tmp 7)],none⟩,⟨some 4,.mov (.tmp 8),none⟩]
def check_has_c:ACode:=(.seq (.ops check_has_r0) (.seq (.ops check_has_r1) .ret))
def check_has_a:AFunc:=⟨9,[(.tmp 4)],check_has_c⟩
/-! check_subs -/
def check_subs_r0:List AStep := [⟨some 2,.box (.tmp 0),none⟩,⟨some 4,.mov (.con (.int .i64 0)),none⟩]
def check_subs_r1:List AStep := [⟨some 9,.mov (.tmp 1),none⟩,⟨some 10,.len (.tmp 9),none⟩,⟨some 11,.mov (.con (.int .i64 0)),none⟩]
def check_subs_r2:List AStep := [⟨some 12,.bin .lss (.tmp 11) (.tmp 10),none⟩]
def check_subs_r3:List AStep := [⟨some 13,.mov (.tmp 11),none⟩,⟨some 14,.indexAddr 2 (.tmp 9) (.tmp 11),none⟩,⟨some 15,.load true 2 (.tmp 14),none⟩,⟨some 6,.alloc [(.str []),(.str [])],none⟩,⟨some 5,.mov (.tmp 13),none⟩,⟨none,.store 2 (.tmp 6) (.tmp 15),none⟩]
def check_subs_r4:List AStep := [⟨some 17,.load true 1 (.tmp 2),none⟩,⟨some 18,.fieldAddr 0 (.tmp 6),none⟩,⟨some 19,.load false 1 (.tmp 18),none⟩,⟨some 20,.call (.con (.func n_check_kind [])) [(.tmp 17),(.tmp 19)],none⟩,⟨some 16,.mov (.tmp 20),none⟩,⟨some 21,.extract (.tmp 16) 0,none⟩,⟨some 22,.extract (.tmp 16) 1,none⟩,⟨some 7,.alloc [(.str []),.nils],none⟩,⟨none,.store 2 (.tmp 7) (.tmp 21),none⟩,⟨some 8,.mov (.tmp 22),none⟩]
def check_subs_r5:List AStep := [⟨some 24,.mov (.tmp 8),none⟩,⟨some 25,.not (.tmp 24),none⟩,⟨some 26,.mov (.tmp 25),none⟩,⟨some 27,.fieldAddr 1 (.tmp 6),(some (26,false))⟩,⟨some 28,.load false 1 (.tmp 27),(some (26,false))⟩,⟨some 29,.bin .neq (.tmp 28) (.con (.str [])),(some (26,false))⟩,⟨some 30,.mov (.tmp 29),(some (26,false))⟩,⟨some 31,.load true 2 (.tmp 7),(some (30,true))⟩,⟨some 32,.fieldAddr 1 (.tmp 6),(some (30,true))⟩,⟨some 33,.load false 1 (.tmp 32),(some (30,true))⟩,⟨some 34,.call (.con (.func n_check_has [])) [(.tmp 31),(.tmp 33)],(some (30,true))⟩,⟨some 35,.not (.tmp 34),(some (30,true))⟩,⟨some 36,.pick (.tmp 30) (.tmp 35) (.con (.bool false)),(some (26,false))⟩,⟨some 37,.pick (.tmp 26) (.con (.bool true)) (.tmp 36),none⟩,⟨some 23,.mov (.tmp 37),none⟩]
def check_subs_r6:List AStep := [⟨some 4,.mov (.con (.int .i64 31)),none⟩]
def check_subs_r7:List DStep := [⟨0,0,⟨(some 39),(.mov (.tmp 1)),none⟩⟩,⟨1,0,⟨(some 40),(.mov (.tmp 5)),none⟩⟩,⟨2,3,⟨(some 41),(.sliceS 2 (.tmp 39) none (some (.tmp 40))),none⟩⟩,⟨3,0,⟨(some 42),(.load true 2 (.tmp 6)),none⟩⟩,⟨4,15,⟨(some 43),(.call (.con (.func n_slices_Contains_parse_Sub_parse_Sub [])) [(.tmp 41),(.tmp 42)]),none⟩⟩,⟨5,31,⟨(some 38),(.mov (.tmp 43)),none⟩⟩]
def check_subs_r8:List AStep := [⟨some 4,.mov (.con (.int .i64 32)),none⟩]
def check_subs_r9:List AStep := [⟨some 44,.bin .add (.tmp 11) (.con (.int .i64 1)),none⟩,⟨some 11,.mov (.tmp 44),none⟩]
def check_subs_l10:ACode:=(.seq (.ops check_subs_r2) (.seq (.cond (.tmp 12) .skip (.exit 0)) (.seq (.block 1 (.seq (.ops check_subs_r3) (.seq (.ops check_subs_r4) (.block 2 (.seq (.ops check_subs_r5) (.cond (.tmp 23) (.seq (.ops check_subs_r6) .ret) (.seq (.draw check_subs_r7) (.cond (.tmp 38) (.seq (.ops check_subs_r8) .ret) .skip)))))))) (.ops check_subs_r9))))
def check_subs_r11:List AStep := [⟨some 4,.mov (.con (.int .i64 0)),none⟩]
def check_subs_c:ACode:=(.seq (.ops check_subs_r0) (.seq (.seq (.ops check_subs_r1) (.block 0 (.loop check_subs_l10))) (.seq (.ops check_subs_r11) .ret)))
def check_subs_a:AFunc:=⟨45,[(.tmp 4)],check_subs_c⟩
/-! check_op -/
def check_op_r0:List AStep := [⟨some 3,.box (.tmp 0),none⟩,⟨some 4,.box (.tmp 1),none⟩,⟨some 5,.box (.tmp 2),none⟩,⟨some 6,.mov (.con (.bool false)),none⟩]
def check_op_r1:List AStep := [⟨some 9,.fieldAddr 0 (.tmp 5),none⟩,⟨some 10,.load false 1 (.tmp 9),none⟩]
def check_op_r2:List AStep := [⟨some 12,.bin .eql (.tmp 10) (.con (.int .i64 2)),none⟩,⟨some 11,.mov (.tmp 12),none⟩]
def check_op_r3:List AStep := [⟨some 13,.load true 2 (.tmp 4),none⟩,⟨some 14,.fieldAddr 1 (.tmp 5),none⟩,⟨some 15,.load false 1 (.tmp 14),none⟩,⟨some 16,.call (.con (.func n_check_has [])) [(.tmp 13),(.tmp 15)],none⟩,⟨some 6,.mov (.tmp 16),none⟩]
def check_op_r4:List AStep := [⟨some 18,.bin .eql (.tmp 10) (.con (.int .i64 3)),none⟩,⟨some 17,.mov (.tmp 18),none⟩]
def check_op_r5:List AStep := [⟨some 20,.load true 1 (.tmp 3),none⟩,⟨some 21,.fieldAddr 0 (.tmp 4),none⟩,⟨some 22,.load false 1 (.tmp 21),none⟩,⟨some 23,.fieldAddr 1 (.tmp 5),none⟩,⟨some 24,.load false 1 (.tmp 23),none⟩,⟨some 25,.call (.con (.func n_check_Find [])) [(.tmp 20),(.tmp 22),(.tmp 24)],none⟩,⟨some 19,.mov (.tmp 25),none⟩,⟨some 26,.extract (.tmp 19) 0,none⟩,⟨some 27,.extract (.tmp 19) 1,none⟩,⟨some 7,.alloc [(.str []),(.str []),(.str []),(.str []),.nils,.nils],none⟩,⟨none,.store 6 (.tmp 7) (.tmp 26),none⟩,⟨some 8,.mov (.tmp 27),none⟩]
def check_op_r6:List AStep := [⟨some 28,.mov (.tmp 8),none⟩,⟨some 29,.mov (.tmp 28),none⟩,⟨some 30,.load true 1 (.tmp 3),(some (29,true))⟩,⟨some 31,.load true 6 (.tmp 7),(some (29,true))⟩,⟨some 32,.fieldAddr 2 (.tmp 5),(some (29,true))⟩,⟨some 33,.load false 1 (.tmp 32),(some (29,true))⟩,⟨some 34,.call (.con (.func n_check_leads [])) [(.tmp 30),(.tmp 31),(.tmp 33)],(some (29,true))⟩,⟨some 35,.pick (.tmp 29) (.tmp 34) (.con (.bool false)),none⟩,⟨some 6,.mov (.tmp 35),none⟩]
def check_op_r7:List AStep := [⟨some 6,.mov (.con (.bool true)),none⟩]
def check_op_c:ACode:=(.seq (.ops check_op_r0) (.seq (.seq (.ops check_op_r1) (.block 0 (.seq (.ops check_op_r2) (.cond (.tmp 11) (.seq (.ops check_op_r3) .ret) (.seq (.ops check_op_r4) (.cond (.tmp 17) (.seq (.ops check_op_r5) (.seq (.ops check_op_r6) .ret)) .skip)))))) (.seq (.ops check_op_r7) .ret)))
def check_op_a:AFunc:=⟨36,[(.tmp 6)],check_op_c⟩
/-! strata_numbers -/
def strata_numbers_r0:List AStep := [⟨some 1,.box (.tmp 0),none⟩,⟨some 2,.mov (.con .nilm),none⟩]
def strata_numbers_r1:List AStep := [⟨(some 8),.makeMap,none⟩,⟨some 3,.mov (.tmp 8),none⟩]
def strata_numbers_r2:List AStep := [⟨some 9,.fieldAddr 0 (.tmp 1),none⟩,⟨some 10,.load false 1 (.tmp 9),none⟩,⟨some 11,.len (.tmp 10),none⟩,⟨some 12,.mov (.con (.int .i64 0)),none⟩]
def strata_numbers_r3:List AStep := [⟨some 13,.bin .lss (.tmp 12) (.tmp 11),none⟩]
def strata_numbers_r4:List AStep := [⟨some 14,.indexAddr 2 (.tmp 10) (.tmp 12),none⟩,⟨some 15,.load true 2 (.tmp 14),none⟩,⟨some 5,.alloc [(.str []),.nils],none⟩,⟨none,.store 2 (.tmp 5) (.tmp 15),none⟩]
def strata_numbers_r5:List AStep := [⟨some 16,.fieldAddr 1 (.tmp 5),none⟩,⟨some 17,.load false 1 (.tmp 16),none⟩,⟨some 18,.len (.tmp 17),none⟩,⟨some 19,.mov (.con (.int .i64 0)),none⟩]
def strata_numbers_r6:List AStep := [⟨some 20,.bin .lss (.tmp 19) (.tmp 18),none⟩]
def strata_numbers_r7:List AStep := [⟨some 21,.indexAddr 6 (.tmp 17) (.tmp 19),none⟩,⟨some 22,.load true 6 (.tmp 21),none⟩,⟨some 7,.alloc [(.str []),(.str []),(.str []),(.str []),.nils,.nils],none⟩,⟨none,.store 6 (.tmp 7) (.tmp 22),none⟩]
def strata_numbers_r8:List AStep := [⟨some 23,.mov (.tmp 3),none⟩,⟨some 24,.fieldAddr 0 (.tmp 5),none⟩,⟨some 25,.load false 1 (.tmp 24),none⟩,⟨some 26,.fieldAddr 0 (.tmp 7),none⟩,⟨some 27,.load false 1 (.tmp 26),none⟩,⟨some 28,.build [(.str []),(.str [])] [(0,(1,(.tmp 25))),(1,(1,(.tmp 27)))],none⟩,⟨some 29,.mov (.tmp 3),none⟩,⟨some 30,.lenM (.tmp 29),none⟩,⟨none,.mapPut (.flat [.s,.s]) (.tmp 23) (.tmp 28) (.tmp 30),none⟩]
def strata_numbers_r9:List AStep := [⟨some 31,.bin .add (.tmp 19) (.con (.int .i64 1)),none⟩,⟨some 19,.mov (.tmp 31),none⟩]
def strata_numbers_l10:ACode:=(.seq (.ops strata_numbers_r6) (.seq (.cond (.tmp 20) .skip (.exit 2)) (.seq (.block 3 (.seq (.ops strata_numbers_r7) (.ops strata_numbers_r8))) (.ops strata_numbers_r9))))
def strata_numbers_r11:List AStep := [⟨some 32,.bin .add (.tmp 12) (.con (.int .i64 1)),none⟩,⟨some 12,.mov (.tmp 32),none⟩]
def strata_numbers_l12:ACode:=(.seq (.ops strata_numbers_r3) (.seq (.cond (.tmp 13) .skip (.exit 0)) (.seq (.block 1 (.seq (.ops strata_numbers_r4) (.seq (.ops strata_numbers_r5) (.block 2 (.loop strata_numbers_l10))))) (.ops strata_numbers_r11))))
def strata_numbers_r13:List AStep := [⟨some 33,.mov (.tmp 3),none⟩,⟨some 2,.mov (.tmp 33),none⟩]
def strata_numbers_c:ACode:=(.seq (.ops strata_numbers_r0) (.seq (.ops strata_numbers_r1) (.seq (.seq (.ops strata_numbers_r2) (.block 0 (.loop strata_numbers_l12))) (.seq (.ops strata_numbers_r13) .ret))))
def strata_numbers_a:AFunc:=⟨34,[(.tmp 2)],strata_numbers_c⟩
/-! strata_nots -/
def strata_nots_r0:List AStep := [⟨some 2,.mov (.con .nils),none⟩]
def strata_nots_r1:List AStep := [⟨some 9,.mov (.tmp 0),none⟩,⟨some 10,.len (.tmp 9),none⟩,⟨some 11,.makeSlice 1 1 [(.bool false)] (.tmp 10) (.tmp 10),none⟩,⟨some 3,.mov (.tmp 11),none⟩]
def strata_nots_r2:List AStep := [⟨some 4,.mov (.con .nils),none⟩]
def strata_nots_r3:List AStep := [⟨some 12,.mov (.tmp 0),none⟩,⟨some 13,.len (.tmp 12),none⟩,⟨some 14,.mov (.con (.int .i64 0)),none⟩]
def strata_nots_r4:List AStep := [⟨some 15,.bin .lss (.tmp 14) (.tmp 13),none⟩]
def strata_nots_r5:List AStep := [⟨some 16,.mov (.tmp 14),none⟩,⟨some 17,.indexAddr 3 (.tmp 12) (.tmp 14),none⟩,⟨some 18,.load true 3 (.tmp 17),none⟩,⟨some 6,.alloc [(.int .i64 0),(.str []),(.str [])],none⟩,⟨some 5,.mov (.tmp 16),none⟩,⟨none,.store 3 (.tmp 6) (.tmp 18),none⟩]
def strata_nots_r6:List AStep := [⟨some 19,.fieldAddr 0 (.tmp 6),none⟩,⟨some 20,.load false 1 (.tmp 19),none⟩,⟨some 21,.bin .lss (.tmp 20) (.con (.int .i64 4)),none⟩,⟨some 22,.mov (.tmp 21),none⟩,⟨some 23,.mov (.tmp 4),(some (22,false))⟩,⟨some 24,.len (.tmp 23),(some (22,false))⟩,⟨some 25,.bin .lss (.tmp 24) (.con (.int .i64 2)),(some (22,false))⟩,⟨some 26,.pick (.tmp 22) (.con (.bool true)) (.tmp 25),none⟩]
def strata_nots_r7:List AStep := [⟨some 27,.mov (.tmp 4),none⟩,⟨some 28,.mov (.tmp 5),none⟩,⟨some 29,.buildSlice 1 1 [(.int .i64 0)] [(0,(1,(.tmp 28)))],none⟩,⟨some 30,.append 1 (.tmp 27) (.tmp 29),none⟩,⟨some 4,.mov (.tmp 30),none⟩]
def strata_nots_r8:List AStep := [⟨some 31,.mov (.tmp 4),none⟩,⟨some 32,.len (.tmp 31),none⟩,⟨some 33,.bin .sub (.tmp 32) (.con (.int .i64 1)),none⟩,⟨some 7,.mov (.tmp 33),none⟩]
def strata_nots_r9:List AStep := [⟨some 34,.mov (.tmp 4),none⟩,⟨some 35,.mov (.tmp 7),none⟩,⟨some 36,.indexAddr 1 (.tmp 34) (.tmp 35),none⟩,⟨some 37,.load false 1 (.tmp 36),none⟩,⟨some 8,.mov (.tmp 37),none⟩]
def strata_nots_r10:List AStep := [⟨some 38,.fieldAddr 0 (.tmp 6),none⟩,⟨some 39,.load false 1 (.tmp 38),none⟩,⟨some 40,.bin .eql (.tmp 39) (.con (.int .i64 6)),none⟩,⟨some 41,.mov (.tmp 40),none⟩,⟨some 42,.mov (.tmp 8),(some (41,true))⟩,⟨some 43,.mov (.tmp 5),(some (41,true))⟩,⟨some 44,.bin .lss (.tmp 42) (.tmp 43),(some (41,true))⟩,⟨some 45,.pick (.tmp 41) (.tmp 44) (.con (.bool false)),none⟩]
def strata_nots_r11:List AStep := [⟨some 48,.mov (.tmp 3),none⟩,⟨some 49,.mov (.tmp 8),none⟩,⟨some 50,.indexAddr 1 (.tmp 48) (.tmp 49),none⟩,⟨none,.store 1 (.tmp 50) (.con (.bool true)),none⟩]
def strata_nots_r12:List AStep := [⟨some 46,.mov (.tmp 8),none⟩,⟨some 47,.bin .add (.tmp 46) (.con (.int .i64 1)),none⟩,⟨some 8,.mov (.tmp 47),none⟩]
def strata_nots_l13:ACode:=(.seq (.seq (.ops strata_nots_r10) (.cond (.tmp 45) .skip (.exit 2))) (.seq (.block 3 (.ops strata_nots_r11)) (.ops strata_nots_r12)))
def strata_nots_r14:List AStep := [⟨some 51,.mov (.tmp 4),none⟩,⟨some 52,.mov (.tmp 7),none⟩,⟨some 53,.sliceS 1 (.tmp 51) none (some (.tmp 52)),none⟩,⟨some 4,.mov (.tmp 53),none⟩]
def strata_nots_r15:List AStep := [⟨some 54,.bin .add (.tmp 14) (.con (.int .i64 1)),none⟩,⟨some 14,.mov (.tmp 54),none⟩]
def strata_nots_l16:ACode:=(.seq (.ops strata_nots_r4) (.seq (.cond (.tmp 15) .skip (.exit 0)) (.seq (.block 1 (.seq (.ops strata_nots_r5) (.seq (.seq (.ops strata_nots_r6) (.cond (.tmp 26) (.seq (.ops strata_nots_r7) (.exit 1)) .skip)) (.seq (.ops strata_nots_r8) (.seq (.seq (.ops strata_nots_r9) (.block 2 (.loop strata_nots_l13))) (.ops strata_nots_r14)))))) (.ops strata_nots_r15))))
def strata_nots_r17:List AStep := [⟨some 55,.mov (.tmp 3),none⟩,⟨some 2,.mov (.tmp 55),none⟩]
def strata_nots_c:ACode:=(.seq (.ops strata_nots_r0) (.seq (.ops strata_nots_r1) (.seq (.ops strata_nots_r2) (.seq (.seq (.ops strata_nots_r3) (.block 0 (.loop strata_nots_l16))) (.seq (.ops strata_nots_r17) .ret)))))
def strata_nots_a:AFunc:=⟨56,[(.tmp 2)],strata_nots_c⟩
/-! strata_to -/
def strata_to_r0:List AStep := [⟨some 3,.box (.tmp 0),none⟩,⟨some 4,.box (.tmp 1),none⟩,⟨some 5,.box (.tmp 2),none⟩,⟨some 6,.mov (.con .nils),none⟩]
def strata_to_r1:List AStep := [⟨some 7,.mov (.con .nils),none⟩]
def strata_to_r2:List AStep := [⟨some 12,.fieldAddr 0 (.tmp 5),none⟩,⟨some 13,.load false 1 (.tmp 12),none⟩]
def strata_to_r3:List AStep := [⟨some 15,.bin .eql (.tmp 13) (.con (.int .i64 1)),none⟩,⟨some 14,.mov (.tmp 15),none⟩]
def strata_to_r4:List AStep := [⟨some 16,.fieldAddr 4 (.tmp 4),none⟩,⟨some 17,.load false 1 (.tmp 16),none⟩,⟨some 18,.len (.tmp 17),none⟩,⟨some 19,.mov (.con (.int .i64 0)),none⟩]
def strata_to_r5:List AStep := [⟨some 20,.bin .lss (.tmp 19) (.tmp 18),none⟩]
def strata_to_r6:List AStep := [⟨some 21,.indexAddr 2 (.tmp 17) (.tmp 19),none⟩,⟨some 22,.load true 2 (.tmp 21),none⟩,⟨some 9,.alloc [(.str []),(.str [])],none⟩,⟨none,.store 2 (.tmp 9) (.tmp 22),none⟩]
def strata_to_r7:List AStep := [⟨some 23,.mov (.tmp 7),none⟩,⟨some 24,.fieldAddr 0 (.tmp 9),none⟩,⟨some 25,.load false 1 (.tmp 24),none⟩,⟨some 26,.fieldAddr 1 (.tmp 9),none⟩,⟨some 27,.load false 1 (.tmp 26),none⟩,⟨some 28,.build [(.str []),(.str [])] [(0,(1,(.tmp 25))),(1,(1,(.tmp 27)))],none⟩,⟨some 29,.buildSlice 2 1 [(.str []),(.str [])] [(0,(2,(.tmp 28)))],none⟩,⟨some 30,.append 2 (.tmp 23) (.tmp 29),none⟩,⟨some 7,.mov (.tmp 30),none⟩]
def strata_to_r8:List AStep := [⟨some 31,.bin .add (.tmp 19) (.con (.int .i64 1)),none⟩,⟨some 19,.mov (.tmp 31),none⟩]
def strata_to_l9:ACode:=(.seq (.ops strata_to_r5) (.seq (.cond (.tmp 20) .skip (.exit 1)) (.seq (.block 2 (.seq (.ops strata_to_r6) (.ops strata_to_r7))) (.ops strata_to_r8))))
def strata_to_r10:List AStep := [⟨some 33,.bin .eql (.tmp 13) (.con (.int .i64 2)),none⟩,⟨some 32,.mov (.tmp 33),none⟩]
def strata_to_r11:List AStep := [⟨some 34,.mov (.tmp 7),none⟩,⟨some 35,.fieldAddr 0 (.tmp 3),none⟩,⟨some 36,.load false 1 (.tmp 35),none⟩,⟨some 37,.fieldAddr 1 (.tmp 5),none⟩,⟨some 38,.load false 1 (.tmp 37),none⟩,⟨some 39,.build [(.str []),(.str [])] [(0,(1,(.tmp 36))),(1,(1,(.tmp 38)))],none⟩,⟨some 40,.buildSlice 2 1 [(.str []),(.str [])] [(0,(2,(.tmp 39)))],none⟩,⟨some 41,.append 2 (.tmp 34) (.tmp 40),none⟩,⟨some 7,.mov (.tmp 41),none⟩]
def strata_to_r12:List AStep := [⟨some 43,.bin .eql (.tmp 13) (.con (.int .i64 3)),none⟩,⟨some 42,.mov (.tmp 43),none⟩]
def strata_to_r13:List AStep := [⟨some 44,.load true 2 (.tmp 3),none⟩,⟨some 45,.fieldAddr 1 (.tmp 5),none⟩,⟨some 46,.load false 1 (.tmp 45),none⟩,⟨some 47,.call (.con (.func n_strata_objects [])) [(.tmp 44),(.tmp 46)],none⟩,⟨some 48,.len (.tmp 47),none⟩,⟨some 49,.mov (.con (.int .i64 0)),none⟩]
def strata_to_r14:List AStep := [⟨some 50,.bin .lss (.tmp 49) (.tmp 48),none⟩]
def strata_to_r15:List AStep := [⟨some 51,.indexAddr 1 (.tmp 47) (.tmp 49),none⟩,⟨some 52,.load false 1 (.tmp 51),none⟩,⟨some 11,.mov (.tmp 52),none⟩]
def strata_to_r16:List AStep := [⟨some 53,.mov (.tmp 7),none⟩,⟨some 54,.mov (.tmp 11),none⟩,⟨some 55,.fieldAddr 2 (.tmp 5),none⟩,⟨some 56,.load false 1 (.tmp 55),none⟩,⟨some 57,.build [(.str []),(.str [])] [(0,(1,(.tmp 54))),(1,(1,(.tmp 56)))],none⟩,⟨some 58,.buildSlice 2 1 [(.str []),(.str [])] [(0,(2,(.tmp 57)))],none⟩,⟨some 59,.append 2 (.tmp 53) (.tmp 58),none⟩,⟨some 7,.mov (.tmp 59),none⟩]
def strata_to_r17:List AStep := [⟨some 60,.bin .add (.tmp 49) (.con (.int .i64 1)),none⟩,⟨some 49,.mov (.tmp 60),none⟩]
def strata_to_l18:ACode:=(.seq (.ops strata_to_r14) (.seq (.cond (.tmp 50) .skip (.exit 3)) (.seq (.block 4 (.seq (.ops strata_to_r15) (.ops strata_to_r16))) (.ops strata_to_r17))))
def strata_to_r19:List AStep := [⟨some 61,.mov (.tmp 7),none⟩,⟨some 6,.mov (.tmp 61),none⟩]
def strata_to_c:ACode:=(.seq (.ops strata_to_r0) (.seq (.ops strata_to_r1) (.seq (.seq (.ops strata_to_r2) (.block 0 (.seq (.ops strata_to_r3) (.cond (.tmp 14) (.seq (.ops strata_to_r4) (.block 1 (.loop strata_to_l9))) (.seq (.ops strata_to_r10) (.cond (.tmp 32) (.ops strata_to_r11) (.seq (.ops strata_to_r12) (.cond (.tmp 42) (.seq (.ops strata_to_r13) (.block 3 (.loop strata_to_l18))) .skip)))))))) (.seq (.ops strata_to_r19) .ret))))
def strata_to_a:AFunc:=⟨62,[(.tmp 6)],strata_to_c⟩
/-! strata_compare -/
def strata_compare_r0:List AStep := [⟨some 2,.box (.tmp 0),none⟩,⟨some 3,.box (.tmp 1),none⟩,⟨some 4,.mov (.con (.int .i64 0)),none⟩]
def strata_compare_r1:List AStep := [⟨some 5,.mov (.con (.func n_strata_compare_1 [])),none⟩]
def strata_compare_r2:List DStep := [⟨0,0,⟨(some 6),(.fieldAddr 0 (.tmp 2)),none⟩⟩,⟨1,1,⟨(some 7),(.load false 1 (.tmp 6)),none⟩⟩,⟨2,0,⟨(some 8),(.fieldAddr 0 (.tmp 3)),none⟩⟩,⟨3,4,⟨(some 9),(.load false 1 (.tmp 8)),none⟩⟩,⟨5,0,⟨(some 11),(.fieldAddr 1 (.tmp 2)),none⟩⟩,⟨6,32,⟨(some 12),(.load false 1 (.tmp 11)),none⟩⟩,⟨7,0,⟨(some 13),(.fieldAddr 1 (.tmp 3)),none⟩⟩,⟨8,128,⟨(some 14),(.load false 1 (.tmp 13)),none⟩⟩,⟨10,0,⟨(some 16),(.mov (.tmp 5)),none⟩⟩,⟨11,0,⟨(some 17),(.load true 3 (.tmp 2)),none⟩⟩,⟨13,0,⟨(some 19),(.mov (.tmp 5)),none⟩⟩,⟨14,0,⟨(some 20),(.load true 3 (.tmp 3)),none⟩⟩,⟨4,15,⟨(some 10),(.call (.con (.func n_cmp_Compare_int [])) [(.tmp 7),(.tmp 9)]),none⟩⟩,⟨9,511,⟨(some 15),(.call (.con (.func n_cmp_Compare_int [])) [(.tmp 12),(.tmp 14)]),none⟩⟩,⟨12,4095,⟨(some 18),(.call (.tmp 16) [(.tmp 17)]),none⟩⟩,⟨15,32767,⟨(some 21),(.call (.tmp 19) [(.tmp 20)]),none⟩⟩,⟨16,65535,⟨(some 22),(.call (.con (.func n_cmp_Compare_int [])) [(.tmp 18),(.tmp 21)]),none⟩⟩,⟨17,131071,⟨(some 23),(.buildSlice 1 3 [(.int .i64 0)] [(0,(1,(.tmp 10))),(1,(1,(.tmp 15))),(2,(1,(.tmp 22)))]),none⟩⟩,⟨18,262143,⟨(some 24),(.call (.con (.func n_cmp_Or_int [])) [(.tmp 23)]),none⟩⟩,⟨19,524287,⟨(some 4),(.mov (.tmp 24)),none⟩⟩]
def strata_compare_c:ACode:=(.seq (.ops strata_compare_r0) (.seq (.ops strata_compare_r1) (.seq (.draw strata_compare_r2) .ret)))
def strata_compare_a:AFunc:=⟨25,[(.tmp 4)],strata_compare_c⟩
/-! slices_Compact_strata_Edge_strata_Edge -/
def slices_Compact_strata_Edge_strata_Edge_r0:List AStep := [⟨some 2,.mov (.con .nils),none⟩]
def slices_Compact_strata_Edge_strata_Edge_r1:List AStep := [⟨some 6,.mov (.tmp 0),none⟩,⟨some 7,.len (.tmp 6),none⟩,⟨some 8,.bin .lss (.tmp 7) (.con (.int .i64 2)),none⟩]
def slices_Compact_strata_Edge_strata_Edge_r2:List AStep := [⟨some 9,.mov (.tmp 0),none⟩,⟨some 2,.mov (.tmp 9),none⟩]
def slices_Compact_strata_Edge_strata_Edge_r3:List AStep := [⟨some 3,.mov (.con (.int .i64 1)),none⟩]
def slices_Compact_strata_Edge_strata_Edge_r4:List AStep := [⟨some 10,.mov (.tmp 3),none⟩,⟨some 11,.mov (.tmp 0),none⟩,⟨some 12,.len (.tmp 11),none⟩,⟨some 13,.bin .lss (.tmp 10) (.tmp 12),none⟩]
def slices_Compact_strata_Edge_strata_Edge_r5:List DStep := [⟨0,0,⟨(some 16),(.mov (.tmp 0)),none⟩⟩,⟨1,0,⟨(some 17),(.mov (.tmp 3)),none⟩⟩,⟨2,3,⟨(some 18),(.indexAddr 3 (.tmp 16) (.tmp 17)),none⟩⟩,⟨3,7,⟨(some 19),(.load true 3 (.tmp 18)),none⟩⟩,⟨4,0,⟨(some 20),(.mov (.tmp 0)),none⟩⟩,⟨5,0,⟨(some 21),(.mov (.tmp 3)),none⟩⟩,⟨6,32,⟨(some 22),(.bin .sub (.tmp 21) (.con (.int .i64 1))),none⟩⟩,⟨7,112,⟨(some 23),(.indexAddr 3 (.tmp 20) (.tmp 22)),none⟩⟩,⟨8,240,⟨(some 24),(.load true 3 (.tmp 23)),none⟩⟩,⟨9,511,⟨(some 25),(.eq (.flatK [.i,.i,.b]) false (.tmp 19) (.tmp 24)),none⟩⟩]
def slices_Compact_strata_Edge_strata_Edge_r6:List AStep := [⟨some 26,.mov (.tmp 0),none⟩,⟨some 27,.mov (.tmp 3),none⟩,⟨some 28,.sliceS 3 (.tmp 26) (some (.tmp 27)) none,none⟩,⟨some 4,.mov (.tmp 28),none⟩]
def slices_Compact_strata_Edge_strata_Edge_r7:List AStep := [⟨some 5,.mov (.con (.int .i64 1)),none⟩]
def slices_Compact_strata_Edge_strata_Edge_r8:List AStep := [⟨some 29,.mov (.tmp 5),none⟩,⟨some 30,.mov (.tmp 4),none⟩,⟨some 31,.len (.tmp 30),none⟩,⟨some 32,.bin .lss (.tmp 29) (.tmp 31),none⟩]
def slices_Compact_strata_Edge_strata_Edge_r9:List DStep := [⟨0,0,⟨(some 35),(.mov (.tmp 4)),none⟩⟩,⟨1,0,⟨(some 36),(.mov (.tmp 5)),none⟩⟩,⟨2,3,⟨(some 37),(.indexAddr 3 (.tmp 35) (.tmp 36)),none⟩⟩,⟨3,7,⟨(some 38),(.load true 3 (.tmp 37)),none⟩⟩,⟨4,0,⟨(some 39),(.mov (.tmp 4)),none⟩⟩,⟨5,0,⟨(some 40),(.mov (.tmp 5)),none⟩⟩,⟨6,32,⟨(some 41),(.bin .sub (.tmp 40) (.con (.int .i64 1))),none⟩⟩,⟨7,112,⟨(some 42),(.indexAddr 3 (.tmp 39) (.tmp 41)),none⟩⟩,⟨8,240,⟨(some 43),(.load true 3 (.tmp 42)),none⟩⟩,⟨9,511,⟨(some 44),(.eq (.flatK [.i,.i,.b]) true (.tmp 38) (.tmp 43)),none⟩⟩]
def slices_Compact_strata_Edge_strata_Edge_r10:List AStep := [⟨some 45,.mov (.tmp 0),none⟩,⟨some 46,.mov (.tmp 3),none⟩,⟨some 47,.mov (.tmp 4),none⟩,⟨some 48,.mov (.tmp 5),none⟩,⟨some 49,.indexAddr 3 (.tmp 47) (.tmp 48),none⟩,⟨some 50,.load true 3 (.tmp 49),none⟩,⟨some 51,.indexAddr 3 (.tmp 45) (.tmp 46),none⟩,⟨none,.store 3 (.tmp 51) (.tmp 50),none⟩]
def slices_Compact_strata_Edge_strata_Edge_r11:List AStep := [⟨some 52,.mov (.tmp 3),none⟩,⟨some 53,.bin .add (.tmp 52) (.con (.int .i64 1)),none⟩,⟨some 3,.mov (.tmp 53),none⟩]
def slices_Compact_strata_Edge_strata_Edge_r12:List AStep := [⟨some 33,.mov (.tmp 5),none⟩,⟨some 34,.bin .add (.tmp 33) (.con (.int .i64 1)),none⟩,⟨some 5,.mov (.tmp 34),none⟩]
def slices_Compact_strata_Edge_strata_Edge_l13:ACode:=(.seq (.seq (.ops slices_Compact_strata_Edge_strata_Edge_r8) (.cond (.tmp 32) .skip (.exit 2))) (.seq (.block 3 (.seq (.draw slices_Compact_strata_Edge_strata_Edge_r9) (.cond (.tmp 44) (.seq (.ops slices_Compact_strata_Edge_strata_Edge_r10) (.ops slices_Compact_strata_Edge_strata_Edge_r11)) .skip))) (.ops slices_Compact_strata_Edge_strata_Edge_r12)))
def slices_Compact_strata_Edge_strata_Edge_r14:List AStep := [⟨some 54,.mov (.tmp 0),none⟩,⟨some 55,.mov (.tmp 3),none⟩,⟨some 56,.sliceS 3 (.tmp 54) (some (.tmp 55)) none,none⟩,⟨none,.clear 3 [(.int .i64 0),(.int .i64 0),(.bool false)] (.tmp 56),none⟩]
def slices_Compact_strata_Edge_strata_Edge_r15:List AStep := [⟨some 57,.mov (.tmp 0),none⟩,⟨some 58,.mov (.tmp 3),none⟩,⟨some 59,.sliceS 3 (.tmp 57) none (some (.tmp 58)),none⟩,⟨some 2,.mov (.tmp 59),none⟩]
def slices_Compact_strata_Edge_strata_Edge_r16:List AStep := [⟨some 14,.mov (.tmp 3),none⟩,⟨some 15,.bin .add (.tmp 14) (.con (.int .i64 1)),none⟩,⟨some 3,.mov (.tmp 15),none⟩]
def slices_Compact_strata_Edge_strata_Edge_l17:ACode:=(.seq (.seq (.ops slices_Compact_strata_Edge_strata_Edge_r4) (.cond (.tmp 13) .skip (.exit 0))) (.seq (.block 1 (.seq (.draw slices_Compact_strata_Edge_strata_Edge_r5) (.cond (.tmp 25) (.seq (.ops slices_Compact_strata_Edge_strata_Edge_r6) (.seq (.seq (.ops slices_Compact_strata_Edge_strata_Edge_r7) (.block 2 (.loop slices_Compact_strata_Edge_strata_Edge_l13))) (.seq (.ops slices_Compact_strata_Edge_strata_Edge_r14) (.seq (.ops slices_Compact_strata_Edge_strata_Edge_r15) .ret)))) .skip))) (.ops slices_Compact_strata_Edge_strata_Edge_r16)))
def slices_Compact_strata_Edge_strata_Edge_r18:List AStep := [⟨some 60,.mov (.tmp 0),none⟩,⟨some 2,.mov (.tmp 60),none⟩]
def slices_Compact_strata_Edge_strata_Edge_c:ACode:=(.seq (.ops slices_Compact_strata_Edge_strata_Edge_r0) (.seq (.seq (.ops slices_Compact_strata_Edge_strata_Edge_r1) (.cond (.tmp 8) (.seq (.ops slices_Compact_strata_Edge_strata_Edge_r2) .ret) .skip)) (.seq (.seq (.ops slices_Compact_strata_Edge_strata_Edge_r3) (.block 0 (.loop slices_Compact_strata_Edge_strata_Edge_l17))) (.seq (.ops slices_Compact_strata_Edge_strata_Edge_r18) .ret))))
def slices_Compact_strata_Edge_strata_Edge_a:AFunc:=⟨61,[(.tmp 2)],slices_Compact_strata_Edge_strata_Edge_c⟩
/-! strata_Levels_1 -/
def strata_Levels_1_r0:List AStep := [⟨some 2,.box (.tmp 0),none⟩,⟨some 3,.mov (.con (.bool false)),none⟩]
def strata_Levels_1_r1:List AStep := [⟨some 4,.fieldAddr 0 (.tmp 2),none⟩,⟨some 5,.load false 1 (.tmp 4),none⟩,⟨some 6,.bin .lss (.tmp 5) (.con (.int .i64 0)),none⟩,⟨some 7,.mov (.tmp 6),none⟩,⟨some 8,.fieldAddr 0 (.tmp 2),(some (7,false))⟩,⟨some 9,.load false 1 (.tmp 8),(some (7,false))⟩,⟨some 10,.load false 1 (.tmp 1),(some (7,false))⟩,⟨some 11,.bin .geq (.tmp 9) (.tmp 10),(some (7,false))⟩,⟨some 12,.pick (.tmp 7) (.con (.bool true)) (.tmp 11),none⟩,⟨some 13,.mov (.tmp 12),none⟩,⟨some 14,.fieldAddr 1 (.tmp 2),(some (13,false))⟩,⟨some 15,.load false 1 (.tmp 14),(some (13,false))⟩,⟨some 16,.bin .lss (.tmp 15) (.con (.int .i64 0)),(some (13,false))⟩,⟨some 17,.pick (.tmp 13) (.con (.bool true)) (.tmp 16),none⟩,⟨some 18,.mov (.tmp 17),none⟩,⟨some 19,.fieldAddr 1 (.tmp 2),(some (18,false))⟩,⟨some 20,.load false 1 (.tmp 19),(some (18,false))⟩,⟨some 21,.load false 1 (.tmp 1),(some (18,false))⟩,⟨some 22,.bin .geq (.tmp 20) (.tmp 21),(some (18,false))⟩,⟨some 23,.pick (.tmp 18) (.con (.bool true)) (.tmp 22),none⟩,⟨some 3,.mov (.tmp 23),none⟩]
def strata_Levels_1_c:ACode:=(.seq (.ops strata_Levels_1_r0) (.seq (.ops strata_Levels_1_r1) .ret))
def strata_Levels_1_a:AFunc:=⟨24,[(.tmp 3)],strata_Levels_1_c⟩
/-! slices_ContainsFunc_strata_Edge_strata_Edge -/
def slices_ContainsFunc_strata_Edge_strata_Edge_r0:List AStep := [⟨some 4,.mov (.con (.bool false)),none⟩]
def slices_ContainsFunc_strata_Edge_strata_Edge_r1:List AStep := [⟨some 5,.mov (.tmp 0),none⟩,⟨some 6,.mov (.tmp 1),none⟩,⟨some 7,.call (.con (.func n_slices_IndexFunc_strata_Edge_strata_Edge [])) [(.tmp 5),(.tmp 6)],none⟩,⟨some 8,.bin .geq (.tmp 7) (.con (.int .i64 0)),none⟩,⟨some 4,.mov (.tmp 8),none⟩]
def slices_ContainsFunc_strata_Edge_strata_Edge_c:ACode:=(.seq (.ops slices_ContainsFunc_strata_Edge_strata_Edge_r0) (.seq (.ops slices_ContainsFunc_strata_Edge_strata_Edge_r1) .ret))
def slices_ContainsFunc_strata_Edge_strata_Edge_a:AFunc:=⟨9,[(.tmp 4)],slices_ContainsFunc_strata_Edge_strata_Edge_c⟩
/-! token_broken -/
def token_broken_r0:List AStep := [⟨some 2,.mov (.con (.int .i64 0)),none⟩]
def token_broken_r1:List AStep := [⟨some 6,.mov (.tmp 0),none⟩,⟨some 7,.rangeT (.tmp 6),none⟩]
def token_broken_r2:List AStep := [⟨some 8,.nextT (.tmp 7),none⟩,⟨some 9,.extract (.tmp 8) 0,none⟩]
def token_broken_r3:List AStep := [⟨some 10,.extract (.tmp 8) 1,none⟩,⟨some 3,.mov (.tmp 10),none⟩]
def token_broken_r4:List AStep := [⟨some 12,.mov (.tmp 0),none⟩,⟨some 13,.mov (.tmp 3),none⟩,⟨some 14,.sliceT (.tmp 12) (some (.tmp 13)) none,none⟩,⟨some 15,.call (.con (.func n_glyph_Cut [])) [(.tmp 14),(.con (.int .i64 1))],none⟩,⟨some 11,.mov (.tmp 15),none⟩,⟨some 16,.extract (.tmp 11) 0,none⟩,⟨some 17,.extract (.tmp 11) 1,none⟩,⟨some 4,.mov (.tmp 16),none⟩,⟨some 5,.mov (.tmp 17),none⟩]
def token_broken_r5:List AStep := [⟨some 18,.mov (.tmp 0),none⟩,⟨some 19,.mov (.tmp 3),none⟩,⟨some 20,.mov (.tmp 0),none⟩,⟨some 21,.lenT (.tmp 20),none⟩,⟨some 22,.mov (.tmp 5),none⟩,⟨some 23,.lenT (.tmp 22),none⟩,⟨some 24,.bin .sub (.tmp 21) (.tmp 23),none⟩,⟨some 25,.sliceT (.tmp 18) (some (.tmp 19)) (some (.tmp 24)),none⟩,⟨some 26,.call (.con (.func n_glyph_Valid [])) [(.tmp 25)],none⟩,⟨some 27,.not (.tmp 26),none⟩]
def token_broken_r6:List AStep := [⟨some 28,.mov (.tmp 3),none⟩,⟨some 2,.mov (.tmp 28),none⟩]
def token_broken_l7:ACode:=(.seq (.ops token_broken_r2) (.seq (.cond (.tmp 9) .skip (.exit 0)) (.block 1 (.seq (.ops token_broken_r3) (.seq (.ops token_broken_r4) (.seq (.ops token_broken_r5) (.cond (.tmp 27) (.seq (.ops token_broken_r6) .ret) .skip)))))))
def token_broken_r8:List AStep := [⟨some 2,.mov (.con (.int .i64 (-1))),none⟩]
def token_broken_c:ACode:=(.seq (.ops token_broken_r0) (.seq (.seq (.ops token_broken_r1) (.block 0 (.loop token_broken_l7))) (.seq (.ops token_broken_r8) .ret)))
def token_broken_a:AFunc:=⟨29,[(.tmp 2)],token_broken_c⟩
/-! token_reader_blank -/
def token_reader_blank_r0:List AStep := [⟨some 2,.mov (.tmp 0),none⟩,⟨some 3,.nilCheck (.tmp 2),none⟩,⟨some 4,.fieldAddr 1 (.tmp 3),none⟩,⟨some 5,.load false 1 (.tmp 4),none⟩,⟨some 6,.bin .add (.tmp 5) (.con (.int .i64 1)),none⟩,⟨some 7,.nilCheck (.tmp 2),none⟩,⟨some 8,.fieldAddr 1 (.tmp 7),none⟩,⟨none,.store 1 (.tmp 8) (.tmp 6),none⟩]
def token_reader_blank_c:ACode:=(.ops token_reader_blank_r0)
def token_reader_blank_a:AFunc:=⟨9,[],token_reader_blank_c⟩
/-! token_reader_note -/
def token_reader_note_r0:List DStep := [⟨0,0,⟨(some 5),(.mov (.tmp 0)),none⟩⟩,⟨1,1,⟨(some 6),(.nilCheck (.tmp 5)),none⟩⟩,⟨2,3,⟨(some 7),(.fieldAddr 0 (.tmp 6)),none⟩⟩,⟨3,7,⟨(some 8),(.load false 1 (.tmp 7)),none⟩⟩,⟨4,0,⟨(some 9),(.mov (.tmp 0)),none⟩⟩,⟨5,16,⟨(some 10),(.nilCheck (.tmp 9)),none⟩⟩,⟨6,48,⟨(some 11),(.fieldAddr 1 (.tmp 10)),none⟩⟩,⟨7,112,⟨(some 12),(.load false 1 (.tmp 11)),none⟩⟩,⟨8,255,⟨(some 13),(.sliceT (.tmp 8) (some (.tmp 12)) none),none⟩⟩,⟨9,511,⟨(some 14),(.call (.con (.func n_strings_HasPrefix [])) [(.tmp 13),(.con (.str [47,47]))]),none⟩⟩,⟨10,1023,⟨(some 15),(.not (.tmp 14)),none⟩⟩]
def token_reader_note_r1:List AStep := [⟨some 16,.mov (.tmp 0),none⟩,⟨some 17,.nilCheck (.tmp 16),none⟩,⟨some 18,.fieldAddr 3 (.tmp 17),none⟩,⟨none,.store 1 (.tmp 18) (.con (.int .i64 30)),none⟩]
def token_reader_note_r2:List DStep := [⟨0,0,⟨(some 20),(.mov (.tmp 0)),none⟩⟩,⟨1,1,⟨(some 21),(.nilCheck (.tmp 20)),none⟩⟩,⟨2,3,⟨(some 22),(.fieldAddr 0 (.tmp 21)),none⟩⟩,⟨3,7,⟨(some 23),(.load false 1 (.tmp 22)),none⟩⟩,⟨4,0,⟨(some 24),(.mov (.tmp 0)),none⟩⟩,⟨5,16,⟨(some 25),(.nilCheck (.tmp 24)),none⟩⟩,⟨6,48,⟨(some 26),(.fieldAddr 1 (.tmp 25)),none⟩⟩,⟨7,112,⟨(some 27),(.load false 1 (.tmp 26)),none⟩⟩,⟨8,255,⟨(some 28),(.sliceT (.tmp 23) (some (.tmp 27)) none),none⟩⟩,⟨9,511,⟨(some 29),(.call (.con (.func n_strings_Cut [])) [(.tmp 28),(.con (.str [10]))]),none⟩⟩,⟨10,1023,⟨(some 19),(.mov (.tmp 29)),none⟩⟩,⟨11,2047,⟨(some 30),(.extract (.tmp 19) 0),none⟩⟩,⟨12,2047,⟨(some 31),(.extract (.tmp 19) 1),none⟩⟩,⟨13,2047,⟨(some 32),(.extract (.tmp 19) 2),none⟩⟩,⟨14,4095,⟨(some 2),(.mov (.tmp 30)),none⟩⟩,⟨15,24575,⟨(some 3),(.mov (.tmp 31)),none⟩⟩,⟨16,65535,⟨(some 4),(.mov (.tmp 32)),none⟩⟩]
def token_reader_note_r3:List AStep := [⟨some 33,.mov (.tmp 0),none⟩,⟨some 34,.nilCheck (.tmp 33),none⟩,⟨some 35,.fieldAddr 1 (.tmp 34),none⟩,⟨some 36,.load false 1 (.tmp 35),none⟩,⟨some 37,.mov (.tmp 2),none⟩,⟨some 38,.lenT (.tmp 37),none⟩,⟨some 39,.bin .add (.tmp 36) (.tmp 38),none⟩,⟨some 40,.nilCheck (.tmp 33),none⟩,⟨some 41,.fieldAddr 1 (.tmp 40),none⟩,⟨none,.store 1 (.tmp 41) (.tmp 39),none⟩]
def token_reader_note_c:ACode:=(.seq (.seq (.draw token_reader_note_r0) (.cond (.tmp 15) (.seq (.ops token_reader_note_r1) .ret) .skip)) (.seq (.draw token_reader_note_r2) (.ops token_reader_note_r3)))
def token_reader_note_a:AFunc:=⟨42,[],token_reader_note_c⟩
/-! token_reader_sign -/
def token_reader_sign_r0:List AStep := [⟨some 2,.mov (.tmp 0),none⟩,⟨some 3,.call (.con (.func n_token_reader_put [])) [(.tmp 2),(.con (.int .i64 2)),(.con (.int .i64 1))],none⟩]
def token_reader_sign_c:ACode:=(.ops token_reader_sign_r0)
def token_reader_sign_a:AFunc:=⟨4,[],token_reader_sign_c⟩
/-! token_reader_word -/
def token_reader_word_r0:List AStep := [⟨some 2,.mov (.con (.int .i64 0)),none⟩]
def token_reader_word_r1:List DStep := [⟨0,0,⟨(some 5),(.mov (.tmp 0)),none⟩⟩,⟨1,1,⟨(some 6),(.nilCheck (.tmp 5)),none⟩⟩,⟨2,3,⟨(some 7),(.fieldAddr 0 (.tmp 6)),none⟩⟩,⟨3,7,⟨(some 8),(.load false 1 (.tmp 7)),none⟩⟩,⟨4,0,⟨(some 9),(.mov (.tmp 0)),none⟩⟩,⟨5,16,⟨(some 10),(.nilCheck (.tmp 9)),none⟩⟩,⟨6,48,⟨(some 11),(.fieldAddr 1 (.tmp 10)),none⟩⟩,⟨7,112,⟨(some 12),(.load false 1 (.tmp 11)),none⟩⟩,⟨8,255,⟨(some 13),(.sliceT (.tmp 8) (some (.tmp 12)) none),none⟩⟩,⟨9,511,⟨(some 14),(.rangeT (.tmp 13)),none⟩⟩]
def token_reader_word_r2:List AStep := [⟨some 15,.nextT (.tmp 14),none⟩,⟨some 16,.extract (.tmp 15) 0,none⟩]
def token_reader_word_r3:List AStep := [⟨some 17,.extract (.tmp 15) 2,none⟩,⟨some 4,.mov (.tmp 17),none⟩]
def token_reader_word_r4:List AStep := [⟨some 18,.mov (.tmp 4),none⟩,⟨some 19,.cvR2S (.tmp 18),none⟩,⟨some 20,.call (.con (.func n_glyph_Name [])) [(.tmp 19)],none⟩,⟨some 21,.not (.tmp 20),none⟩]
def token_reader_word_r5:List AStep := [⟨some 22,.mov (.tmp 2),none⟩,⟨some 23,.mov (.tmp 4),none⟩,⟨some 24,.cvR2S (.tmp 23),none⟩,⟨some 25,.lenT (.tmp 24),none⟩,⟨some 26,.bin .add (.tmp 22) (.tmp 25),none⟩,⟨some 2,.mov (.tmp 26),none⟩]
def token_reader_word_l6:ACode:=(.seq (.ops token_reader_word_r2) (.seq (.cond (.tmp 16) .skip (.exit 0)) (.block 1 (.seq (.ops token_reader_word_r3) (.seq (.seq (.ops token_reader_word_r4) (.cond (.tmp 21) (.exit 0) .skip)) (.ops token_reader_word_r5))))))
def token_reader_word_r7:List AStep := [⟨some 31,.mov (.tmp 2),none⟩,⟨some 32,.bin .eql (.tmp 31) (.con (.int .i64 0)),none⟩,⟨some 30,.mov (.tmp 32),none⟩]
def token_reader_word_r8:List AStep := [⟨some 33,.mov (.tmp 0),none⟩,⟨some 34,.nilCheck (.tmp 33),none⟩,⟨some 35,.fieldAddr 3 (.tmp 34),none⟩,⟨none,.store 1 (.tmp 35) (.con (.int .i64 30)),none⟩]
def token_reader_word_r9:List DStep := [⟨0,0,⟨(some 37),(.mov (.tmp 0)),none⟩⟩,⟨1,1,⟨(some 38),(.nilCheck (.tmp 37)),none⟩⟩,⟨2,3,⟨(some 39),(.fieldAddr 0 (.tmp 38)),none⟩⟩,⟨3,7,⟨(some 40),(.load false 1 (.tmp 39)),none⟩⟩,⟨4,0,⟨(some 41),(.mov (.tmp 0)),none⟩⟩,⟨5,16,⟨(some 42),(.nilCheck (.tmp 41)),none⟩⟩,⟨6,48,⟨(some 43),(.fieldAddr 1 (.tmp 42)),none⟩⟩,⟨7,112,⟨(some 44),(.load false 1 (.tmp 43)),none⟩⟩,⟨8,0,⟨(some 45),(.mov (.tmp 0)),none⟩⟩,⟨9,256,⟨(some 46),(.nilCheck (.tmp 45)),none⟩⟩,⟨10,768,⟨(some 47),(.fieldAddr 1 (.tmp 46)),none⟩⟩,⟨11,1792,⟨(some 48),(.load false 1 (.tmp 47)),none⟩⟩,⟨12,0,⟨(some 49),(.mov (.tmp 2)),none⟩⟩,⟨13,7936,⟨(some 50),(.bin .add (.tmp 48) (.tmp 49)),none⟩⟩,⟨14,16383,⟨(some 51),(.sliceT (.tmp 40) (some (.tmp 44)) (some (.tmp 50))),none⟩⟩,⟨15,32767,⟨(some 52),(.call (.con (.func n_glyph_Name [])) [(.tmp 51)]),none⟩⟩,⟨16,65535,⟨(some 53),(.not (.tmp 52)),none⟩⟩,⟨17,131071,⟨(some 36),(.mov (.tmp 53)),none⟩⟩]
def token_reader_word_r10:List AStep := [⟨some 54,.mov (.tmp 0),none⟩,⟨some 55,.nilCheck (.tmp 54),none⟩,⟨some 56,.fieldAddr 3 (.tmp 55),none⟩,⟨none,.store 1 (.tmp 56) (.con (.int .i64 31)),none⟩]
def token_reader_word_r11:List AStep := [⟨some 27,.mov (.tmp 0),none⟩,⟨some 28,.mov (.tmp 2),none⟩,⟨some 29,.call (.con (.func n_token_reader_put [])) [(.tmp 27),(.con (.int .i64 1)),(.tmp 28)],none⟩]
def token_reader_word_c:ACode:=(.seq (.ops token_reader_word_r0) (.seq (.seq (.draw token_reader_word_r1) (.block 0 (.loop token_reader_word_l6))) (.block 2 (.seq (.ops token_reader_word_r7) (.cond (.tmp 30) (.ops token_reader_word_r8) (.seq (.draw token_reader_word_r9) (.cond (.tmp 36) (.ops token_reader_word_r10) (.ops token_reader_word_r11))))))))
def token_reader_word_a:AFunc:=⟨57,[],token_reader_word_c⟩
/-! token_reader_put -/
def token_reader_put_r0:List DStep := [⟨0,0,⟨(some 6),(.mov (.tmp 0)),none⟩⟩,⟨1,0,⟨(some 7),(.mov (.tmp 0)),none⟩⟩,⟨2,2,⟨(some 8),(.nilCheck (.tmp 7)),none⟩⟩,⟨3,6,⟨(some 9),(.fieldAddr 2 (.tmp 8)),none⟩⟩,⟨4,14,⟨(some 10),(.load false 1 (.tmp 9)),none⟩⟩,⟨5,0,⟨(some 11),(.mov (.tmp 1)),none⟩⟩,⟨6,0,⟨(some 12),(.mov (.tmp 0)),none⟩⟩,⟨7,64,⟨(some 13),(.nilCheck (.tmp 12)),none⟩⟩,⟨8,192,⟨(some 14),(.fieldAddr 0 (.tmp 13)),none⟩⟩,⟨9,448,⟨(some 15),(.load false 1 (.tmp 14)),none⟩⟩,⟨10,0,⟨(some 16),(.mov (.tmp 0)),none⟩⟩,⟨11,1024,⟨(some 17),(.nilCheck (.tmp 16)),none⟩⟩,⟨12,3072,⟨(some 18),(.fieldAddr 1 (.tmp 17)),none⟩⟩,⟨13,7168,⟨(some 19),(.load false 1 (.tmp 18)),none⟩⟩,⟨14,0,⟨(some 20),(.mov (.tmp 0)),none⟩⟩,⟨15,16384,⟨(some 21),(.nilCheck (.tmp 20)),none⟩⟩,⟨16,49152,⟨(some 22),(.fieldAddr 1 (.tmp 21)),none⟩⟩,⟨17,114688,⟨(some 23),(.load false 1 (.tmp 22)),none⟩⟩,⟨18,0,⟨(some 24),(.mov (.tmp 2)),none⟩⟩,⟨19,507904,⟨(some 25),(.bin .add (.tmp 23) (.tmp 24)),none⟩⟩,⟨20,1048512,⟨(some 26),(.sliceT (.tmp 15) (some (.tmp 19)) (some (.tmp 25))),none⟩⟩,⟨21,0,⟨(some 27),(.mov (.tmp 0)),none⟩⟩,⟨22,2097152,⟨(some 28),(.nilCheck (.tmp 27)),none⟩⟩,⟨23,6291456,⟨(some 29),(.fieldAddr 1 (.tmp 28)),none⟩⟩,⟨24,14680064,⟨(some 30),(.load false 1 (.tmp 29)),none⟩⟩,⟨25,33554400,⟨(some 31),(.build [(.int .i64 0),(.str []),(.int .i64 0)] [(0,(1,(.tmp 11))),(1,(1,(.tmp 26))),(2,(1,(.tmp 30)))]),none⟩⟩,⟨26,67108832,⟨(some 32),(.buildSlice 3 1 [(.int .i64 0),(.str []),(.int .i64 0)] [(0,(3,(.tmp 31)))]),none⟩⟩,⟨27,134217726,⟨(some 33),(.append 3 (.tmp 10) (.tmp 32)),none⟩⟩,⟨28,268435455,⟨(some 34),(.nilCheck (.tmp 6)),none⟩⟩,⟨29,536870911,⟨(some 35),(.fieldAddr 2 (.tmp 34)),none⟩⟩,⟨30,1073741823,⟨none,(.store 1 (.tmp 35) (.tmp 33)),none⟩⟩]
def token_reader_put_r1:List AStep := [⟨some 36,.mov (.tmp 0),none⟩,⟨some 37,.nilCheck (.tmp 36),none⟩,⟨some 38,.fieldAddr 1 (.tmp 37),none⟩,⟨some 39,.load false 1 (.tmp 38),none⟩,⟨some 40,.mov (.tmp 2),none⟩,⟨some 41,.bin .add (.tmp 39) (.tmp 40),none⟩,⟨some 42,.nilCheck (.tmp 36),none⟩,⟨some 43,.fieldAddr 1 (.tmp 42),none⟩,⟨none,.store 1 (.tmp 43) (.tmp 41),none⟩]
def token_reader_put_c:ACode:=(.seq (.draw token_reader_put_r0) (.ops token_reader_put_r1))
def token_reader_put_a:AFunc:=⟨44,[],token_reader_put_c⟩
/-! parse_reader_pass -/
def parse_reader_pass_r0:List AStep := [⟨some 4,.mov (.con (.bool false)),none⟩]
def parse_reader_pass_r1:List AStep := [⟨some 5,.mov (.tmp 0),none⟩,⟨some 6,.mov (.tmp 1),none⟩,⟨some 7,.call (.con (.func n_parse_reader_is [])) [(.tmp 5),(.tmp 6)],none⟩,⟨some 8,.not (.tmp 7),none⟩]
def parse_reader_pass_r2:List AStep := [⟨some 4,.mov (.con (.bool false)),none⟩]
def parse_reader_pass_r3:List AStep := [⟨some 9,.mov (.tmp 0),none⟩,⟨some 10,.mov (.tmp 0),none⟩,⟨some 11,.nilCheck (.tmp 10),none⟩,⟨some 12,.fieldAddr 0 (.tmp 11),none⟩,⟨some 13,.load false 1 (.tmp 12),none⟩,⟨some 14,.sliceS 3 (.tmp 13) (some (.con (.int .i64 1))) none,none⟩,⟨some 15,.nilCheck (.tmp 9),none⟩,⟨some 16,.fieldAddr 0 (.tmp 15),none⟩,⟨none,.store 1 (.tmp 16) (.tmp 14),none⟩]
def parse_reader_pass_r4:List AStep := [⟨some 4,.mov (.con (.bool true)),none⟩]
def parse_reader_pass_c:ACode:=(.seq (.ops parse_reader_pass_r0) (.seq (.seq (.ops parse_reader_pass_r1) (.cond (.tmp 8) (.seq (.ops parse_reader_pass_r2) .ret) .skip)) (.seq (.ops parse_reader_pass_r3) (.seq (.ops parse_reader_pass_r4) .ret))))
def parse_reader_pass_a:AFunc:=⟨17,[(.tmp 4)],parse_reader_pass_c⟩
/-! parse_reader_name -/
def parse_reader_name_r0:List AStep := [⟨some 2,.mov (.con (.str [])),none⟩]
def parse_reader_name_r1:List AStep := [⟨some 4,.mov (.tmp 0),none⟩,⟨some 5,.nilCheck (.tmp 4),none⟩,⟨some 6,.fieldAddr 0 (.tmp 5),none⟩,⟨some 7,.load false 1 (.tmp 6),none⟩,⟨some 8,.indexAddr 3 (.tmp 7) (.con (.int .i64 0)),none⟩,⟨some 9,.load true 3 (.tmp 8),none⟩,⟨some 3,.alloc [(.int .i64 0),(.str []),(.int .i64 0)],none⟩,⟨none,.store 3 (.tmp 3) (.tmp 9),none⟩]
def parse_reader_name_r2:List AStep := [⟨some 10,.fieldAddr 0 (.tmp 3),none⟩,⟨some 11,.load false 1 (.tmp 10),none⟩,⟨some 12,.bin .neq (.tmp 11) (.con (.int .i64 1)),none⟩,⟨some 13,.mov (.tmp 12),none⟩,⟨some 14,.fieldAddr 1 (.tmp 3),(some (13,false))⟩,⟨some 15,.load false 1 (.tmp 14),(some (13,false))⟩,⟨some 16,.call (.con (.func n_token_Key [])) [(.tmp 15)],(some (13,false))⟩,⟨some 17,.pick (.tmp 13) (.con (.bool true)) (.tmp 16),none⟩]
def parse_reader_name_r3:List AStep := [⟨some 18,.mov (.tmp 0),none⟩,⟨some 19,.call (.con (.func n_parse_reader_fail [])) [(.tmp 18),(.con (.int .i64 30))],none⟩]
def parse_reader_name_r4:List AStep := [⟨some 20,.mov (.tmp 0),none⟩,⟨some 21,.mov (.tmp 0),none⟩,⟨some 22,.nilCheck (.tmp 21),none⟩,⟨some 23,.fieldAddr 0 (.tmp 22),none⟩,⟨some 24,.load false 1 (.tmp 23),none⟩,⟨some 25,.sliceS 3 (.tmp 24) (some (.con (.int .i64 1))) none,none⟩,⟨some 26,.nilCheck (.tmp 20),none⟩,⟨some 27,.fieldAddr 0 (.tmp 26),none⟩,⟨none,.store 1 (.tmp 27) (.tmp 25),none⟩]
def parse_reader_name_r5:List AStep := [⟨some 28,.fieldAddr 1 (.tmp 3),none⟩,⟨some 29,.load false 1 (.tmp 28),none⟩,⟨some 2,.mov (.tmp 29),none⟩]
def parse_reader_name_c:ACode:=(.seq (.ops parse_reader_name_r0) (.seq (.ops parse_reader_name_r1) (.seq (.seq (.ops parse_reader_name_r2) (.cond (.tmp 17) (.ops parse_reader_name_r3) .skip)) (.seq (.ops parse_reader_name_r4) (.seq (.ops parse_reader_name_r5) .ret)))))
def parse_reader_name_a:AFunc:=⟨30,[(.tmp 2)],parse_reader_name_c⟩
/-! parse_reader_need -/
def parse_reader_need_r0:List AStep := [⟨some 4,.mov (.tmp 0),none⟩,⟨some 5,.mov (.tmp 1),none⟩,⟨some 6,.call (.con (.func n_parse_reader_pass [])) [(.tmp 4),(.tmp 5)],none⟩,⟨some 7,.not (.tmp 6),none⟩]
def parse_reader_need_r1:List AStep := [⟨some 8,.mov (.tmp 0),none⟩,⟨some 9,.call (.con (.func n_parse_reader_fail [])) [(.tmp 8),(.con (.int .i64 30))],none⟩]
def parse_reader_need_c:ACode:=(.seq (.ops parse_reader_need_r0) (.cond (.tmp 7) (.ops parse_reader_need_r1) .skip))
def parse_reader_need_a:AFunc:=⟨10,[],parse_reader_need_c⟩
/-! parse_reader_rel -/
def parse_reader_rel_r0:List AStep := [⟨some 2,.alloc [(.str []),(.str []),(.str []),(.str []),.nils,.nils],none⟩]
def parse_reader_rel_r1:List AStep := [⟨some 4,.build [(.int .i64 0),(.str []),(.str [])] [(0,(1,(.con (.int .i64 1))))],none⟩,⟨some 5,.buildSlice 3 1 [(.int .i64 0),(.str []),(.str [])] [(0,(3,(.tmp 4)))],none⟩,⟨some 6,.build [(.str []),(.str []),(.str []),(.str []),.nils,.nils] [(5,(1,(.tmp 5)))],none⟩,⟨some 3,.alloc [(.str []),(.str []),(.str []),(.str []),.nils,.nils],none⟩,⟨none,.store 6 (.tmp 3) (.tmp 6),none⟩]
def parse_reader_rel_r2:List AStep := [⟨some 7,.mov (.tmp 0),none⟩,⟨some 8,.call (.con (.func n_parse_reader_name [])) [(.tmp 7)],none⟩,⟨some 9,.fieldAddr 0 (.tmp 3),none⟩,⟨none,.store 1 (.tmp 9) (.tmp 8),none⟩]
def parse_reader_rel_r3:List AStep := [⟨some 10,.mov (.tmp 0),none⟩,⟨some 11,.call (.con (.func n_parse_reader_need [])) [(.tmp 10),(.con (.str [40]))],none⟩]
def parse_reader_rel_r4:List AStep := [⟨some 12,.mov (.tmp 0),none⟩,⟨some 13,.call (.con (.func n_parse_reader_name [])) [(.tmp 12)],none⟩,⟨some 14,.fieldAddr 1 (.tmp 3),none⟩,⟨none,.store 1 (.tmp 14) (.tmp 13),none⟩]
def parse_reader_rel_r5:List AStep := [⟨some 15,.mov (.tmp 0),none⟩,⟨some 16,.call (.con (.func n_parse_reader_need [])) [(.tmp 15),(.con (.str [44]))],none⟩]
def parse_reader_rel_r6:List AStep := [⟨some 17,.mov (.tmp 0),none⟩,⟨some 18,.call (.con (.func n_parse_reader_name [])) [(.tmp 17)],none⟩,⟨some 19,.fieldAddr 2 (.tmp 3),none⟩,⟨none,.store 1 (.tmp 19) (.tmp 18),none⟩]
def parse_reader_rel_r7:List AStep := [⟨some 20,.mov (.tmp 0),none⟩,⟨some 21,.call (.con (.func n_parse_reader_need [])) [(.tmp 20),(.con (.str [44]))],none⟩]
def parse_reader_rel_r8:List AStep := [⟨some 22,.mov (.tmp 0),none⟩,⟨some 23,.call (.con (.func n_parse_reader_name [])) [(.tmp 22)],none⟩,⟨some 24,.fieldAddr 3 (.tmp 3),none⟩,⟨none,.store 1 (.tmp 24) (.tmp 23),none⟩]
def parse_reader_rel_r9:List AStep := [⟨some 25,.mov (.tmp 0),none⟩,⟨some 26,.call (.con (.func n_parse_reader_need [])) [(.tmp 25),(.con (.str [41]))],none⟩]
def parse_reader_rel_r10:List AStep := [⟨some 27,.mov (.tmp 0),none⟩,⟨some 28,.call (.con (.func n_parse_reader_need [])) [(.tmp 27),(.con (.str [58]))],none⟩]
def parse_reader_rel_r11:List AStep := [⟨some 29,.mov (.tmp 0),none⟩,⟨some 30,.call (.con (.func n_parse_reader_is [])) [(.tmp 29),(.con (.str [105,115]))],none⟩,⟨some 31,.not (.tmp 30),none⟩,⟨some 32,.mov (.tmp 31),none⟩,⟨some 33,.mov (.tmp 0),(some (32,true))⟩,⟨some 34,.call (.con (.func n_parse_reader_is [])) [(.tmp 33),(.con (.str [59]))],(some (32,true))⟩,⟨some 35,.not (.tmp 34),(some (32,true))⟩,⟨some 36,.pick (.tmp 32) (.tmp 35) (.con (.bool false)),none⟩]
def parse_reader_rel_r12:List AStep := [⟨some 37,.mov (.tmp 0),none⟩,⟨some 38,.call (.con (.func n_parse_reader_subs [])) [(.tmp 37)],none⟩,⟨some 39,.fieldAddr 4 (.tmp 3),none⟩,⟨none,.store 1 (.tmp 39) (.tmp 38),none⟩]
def parse_reader_rel_r13:List AStep := [⟨some 40,.mov (.tmp 0),none⟩,⟨some 41,.call (.con (.func n_parse_reader_pass [])) [(.tmp 40),(.con (.str [105,115]))],none⟩]
def parse_reader_rel_r14:List AStep := [⟨some 42,.mov (.tmp 0),none⟩,⟨some 43,.call (.con (.func n_parse_reader_rewrite [])) [(.tmp 42)],none⟩,⟨some 44,.fieldAddr 5 (.tmp 3),none⟩,⟨none,.store 1 (.tmp 44) (.tmp 43),none⟩]
def parse_reader_rel_r15:List AStep := [⟨some 45,.mov (.tmp 0),none⟩,⟨some 46,.call (.con (.func n_parse_reader_need [])) [(.tmp 45),(.con (.str [59]))],none⟩]
def parse_reader_rel_r16:List AStep := [⟨some 47,.load true 6 (.tmp 3),none⟩,⟨none,.store 6 (.tmp 2) (.tmp 47),none⟩]
def parse_reader_rel_c:ACode:=(.seq (.ops parse_reader_rel_r0) (.seq (.ops parse_reader_rel_r1) (.seq (.ops parse_reader_rel_r2) (.seq (.ops parse_reader_rel_r3) (.seq (.ops parse_reader_rel_r4) (.seq (.ops parse_reader_rel_r5) (.seq (.ops parse_reader_rel_r6) (.seq (.ops parse_reader_rel_r7) (.seq (.ops parse_reader_rel_r8) (.seq (.ops parse_reader_rel_r9) (.seq (.ops parse_reader_rel_r10) (.seq (.seq (.ops parse_reader_rel_r11) (.cond (.tmp 36) (.ops parse_reader_rel_r12) .skip)) (.seq (.seq (.ops parse_reader_rel_r13) (.cond (.tmp 41) (.ops parse_reader_rel_r14) .skip)) (.seq (.ops parse_reader_rel_r15) (.seq (.ops parse_reader_rel_r16) .ret)))))))))))))))
def parse_reader_rel_a:AFunc:=⟨48,[(.cell 2 true 6)],parse_reader_rel_c⟩
/-! parse_reader_fail -/
def parse_reader_fail_r0:List AStep := [⟨some 4,.mov (.tmp 1),none⟩,⟨some 5,.mov (.tmp 0),none⟩,⟨some 6,.nilCheck (.tmp 5),none⟩,⟨some 7,.fieldAddr 0 (.tmp 6),none⟩,⟨some 8,.load false 1 (.tmp 7),none⟩,⟨some 9,.indexAddr 3 (.tmp 8) (.con (.int .i64 0)),none⟩,⟨some 10,.fieldAddr 2 (.tmp 9),none⟩,⟨some 11,.load false 1 (.tmp 10),none⟩,⟨some 12,.build [(.int .i64 0),(.int .i64 0)] [(0,(1,(.tmp 4))),(1,(1,(.tmp 11)))],none⟩,⟨some 13,.makeIface t_parse_fault (.tmp 12),none⟩,⟨none,.panic (.tmp 13),none⟩]
def parse_reader_fail_c:ACode:=(.ops parse_reader_fail_r0)
def parse_reader_fail_a:AFunc:=⟨14,[],parse_reader_fail_c⟩
/-! check_kind -/
def check_kind_r0:List AStep := [⟨some 2,.box (.tmp 0),none⟩,⟨some 3,.box (.tmp 1),none⟩,⟨some 4,.alloc [(.str []),.nils],none⟩,⟨some 5,.mov (.con (.bool false)),none⟩]
def check_kind_r1:List AStep := [⟨some 7,.fieldAddr 0 (.tmp 2),none⟩,⟨some 8,.load false 1 (.tmp 7),none⟩,⟨some 9,.makeFunc n_check_kind_1 [(.tmp 3)],none⟩,⟨some 10,.call (.con (.func n_slices_IndexFunc_parse_Type_parse_Type [])) [(.tmp 8),(.tmp 9)],none⟩,⟨some 6,.mov (.tmp 10),none⟩]
def check_kind_r2:List AStep := [⟨some 11,.mov (.tmp 6),none⟩,⟨some 12,.bin .lss (.tmp 11) (.con (.int .i64 0)),none⟩]
def check_kind_r3:List AStep := [⟨some 13,.build [(.str []),.nils] [],none⟩,⟨none,.store 2 (.tmp 4) (.tmp 13),none⟩,⟨some 5,.mov (.con (.bool false)),none⟩]
def check_kind_r4:List AStep := [⟨some 14,.fieldAddr 0 (.tmp 2),none⟩,⟨some 15,.load false 1 (.tmp 14),none⟩,⟨some 16,.mov (.tmp 6),none⟩,⟨some 17,.indexAddr 2 (.tmp 15) (.tmp 16),none⟩,⟨some 18,.load true 2 (.tmp 17),none⟩,⟨none,.store 2 (.tmp 4) (.tmp 18),none⟩,⟨some 5,.mov (.con (.bool true)),none⟩]
def check_kind_c:ACode:=(.seq (.ops check_kind_r0) (.seq (.ops check_kind_r1) (.seq (.seq (.ops check_kind_r2) (.cond (.tmp 12) (.seq (.ops check_kind_r3) .ret) .skip)) (.seq (.ops check_kind_r4) .ret))))
def check_kind_a:AFunc:=⟨19,[(.cell 4 true 2),(.tmp 5)],check_kind_c⟩
/-! slices_ContainsFunc_parse_Rel_parse_Rel -/
def slices_ContainsFunc_parse_Rel_parse_Rel_r0:List AStep := [⟨some 4,.mov (.con (.bool false)),none⟩]
def slices_ContainsFunc_parse_Rel_parse_Rel_r1:List AStep := [⟨some 5,.mov (.tmp 0),none⟩,⟨some 6,.mov (.tmp 1),none⟩,⟨some 7,.call (.con (.func n_slices_IndexFunc_parse_Rel_parse_Rel [])) [(.tmp 5),(.tmp 6)],none⟩,⟨some 8,.bin .geq (.tmp 7) (.con (.int .i64 0)),none⟩,⟨some 4,.mov (.tmp 8),none⟩]
def slices_ContainsFunc_parse_Rel_parse_Rel_c:ACode:=(.seq (.ops slices_ContainsFunc_parse_Rel_parse_Rel_r0) (.seq (.ops slices_ContainsFunc_parse_Rel_parse_Rel_r1) .ret))
def slices_ContainsFunc_parse_Rel_parse_Rel_a:AFunc:=⟨9,[(.tmp 4)],slices_ContainsFunc_parse_Rel_parse_Rel_c⟩
/-! check_has_1 -/
def check_has_1_r0:List AStep := [⟨some 2,.box (.tmp 0),none⟩,⟨some 3,.mov (.con (.bool false)),none⟩]
def check_has_1_r1:List AStep := [⟨some 4,.fieldAddr 0 (.tmp 2),none⟩,⟨some 5,.load false 1 (.tmp 4),none⟩,⟨some 6,.load false 1 (.tmp 1),none⟩,⟨some 7,.bin .eql (.tmp 5) (.tmp 6),none⟩,⟨some 3,.mov (.tmp 7),none⟩]
def check_has_1_c:ACode:=(.seq (.ops check_has_1_r0) (.seq (.ops check_has_1_r1) .ret))
def check_has_1_a:AFunc:=⟨8,[(.tmp 3)],check_has_1_c⟩
/-! slices_Contains_parse_Sub_parse_Sub -/
def slices_Contains_parse_Sub_parse_Sub_r0:List AStep := [⟨some 3,.box (.tmp 1),none⟩,⟨some 4,.mov (.con (.bool false)),none⟩]
def slices_Contains_parse_Sub_parse_Sub_r1:List AStep := [⟨some 5,.mov (.tmp 0),none⟩,⟨some 6,.load true 2 (.tmp 3),none⟩,⟨some 7,.call (.con (.func n_slices_Index_parse_Sub_parse_Sub [])) [(.tmp 5),(.tmp 6)],none⟩,⟨some 8,.bin .geq (.tmp 7) (.con (.int .i64 0)),none⟩,⟨some 4,.mov (.tmp 8),none⟩]
def slices_Contains_parse_Sub_parse_Sub_c:ACode:=(.seq (.ops slices_Contains_parse_Sub_parse_Sub_r0) (.seq (.ops slices_Contains_parse_Sub_parse_Sub_r1) .ret))
def slices_Contains_parse_Sub_parse_Sub_a:AFunc:=⟨9,[(.tmp 4)],slices_Contains_parse_Sub_parse_Sub_c⟩
/-! check_Find -/
def check_Find_r0:List AStep := [⟨some 3,.box (.tmp 0),none⟩,⟨some 5,.box (.tmp 2),none⟩,⟨some 6,.alloc [(.str []),(.str []),(.str []),(.str []),.nils,.nils],none⟩,⟨some 7,.mov (.con (.bool false)),none⟩]
def check_Find_r1:List AStep := [⟨some 12,.load true 1 (.tmp 3),none⟩,⟨some 13,.mov (.tmp 1),none⟩,⟨some 14,.call (.con (.func n_check_kind [])) [(.tmp 12),(.tmp 13)],none⟩,⟨some 11,.mov (.tmp 14),none⟩,⟨some 15,.extract (.tmp 11) 0,none⟩,⟨some 16,.extract (.tmp 11) 1,none⟩,⟨some 8,.alloc [(.str []),.nils],none⟩,⟨none,.store 2 (.tmp 8) (.tmp 15),none⟩,⟨some 9,.mov (.tmp 16),none⟩]
def check_Find_r2:List AStep := [⟨some 17,.fieldAddr 1 (.tmp 8),none⟩,⟨some 18,.load false 1 (.tmp 17),none⟩,⟨some 19,.makeFunc n_check_Find_1 [(.tmp 5)],none⟩,⟨some 20,.call (.con (.func n_slices_IndexFunc_parse_Rel_parse_Rel [])) [(.tmp 18),(.tmp 19)],none⟩,⟨some 10,.mov (.tmp 20),none⟩]
def check_Find_r3:List AStep := [⟨some 21,.mov (.tmp 10),none⟩,⟨some 22,.bin .lss (.tmp 21) (.con (.int .i64 0)),none⟩]
def check_Find_r4:List AStep := [⟨some 23,.build [(.str []),(.str []),(.str []),(.str []),.nils,.nils] [],none⟩,⟨none,.store 6 (.tmp 6) (.tmp 23),none⟩,⟨some 7,.mov (.con (.bool false)),none⟩]
def check_Find_r5:List AStep := [⟨some 24,.fieldAddr 1 (.tmp 8),none⟩,⟨some 25,.load false 1 (.tmp 24),none⟩,⟨some 26,.mov (.tmp 10),none⟩,⟨some 27,.indexAddr 6 (.tmp 25) (.tmp 26),none⟩,⟨some 28,.load true 6 (.tmp 27),none⟩,⟨none,.store 6 (.tmp 6) (.tmp 28),none⟩,⟨some 7,.mov (.con (.bool true)),none⟩]
def check_Find_c:ACode:=(.seq (.ops check_Find_r0) (.seq (.ops check_Find_r1) (.seq (.ops check_Find_r2) (.seq (.seq (.ops check_Find_r3) (.cond (.tmp 22) (.seq (.ops check_Find_r4) .ret) .skip)) (.seq (.ops check_Find_r5) .ret)))))
def check_Find_a:AFunc:=⟨29,[(.cell 6 true 6),(.tmp 7)],check_Find_c⟩
/-! check_leads -/
def check_leads_r0:List AStep := [⟨some 3,.box (.tmp 0),none⟩,⟨some 4,.box (.tmp 1),none⟩,⟨some 5,.box (.tmp 2),none⟩,⟨some 6,.mov (.con (.bool false)),none⟩]
def check_leads_r1:List AStep := [⟨some 7,.fieldAddr 4 (.tmp 4),none⟩,⟨some 8,.load false 1 (.tmp 7),none⟩,⟨some 9,.makeFunc n_check_leads_1 [(.tmp 3),(.tmp 5)],none⟩,⟨some 10,.call (.con (.func n_slices_ContainsFunc_parse_Sub_parse_Sub [])) [(.tmp 8),(.tmp 9)],none⟩,⟨some 6,.mov (.tmp 10),none⟩]
def check_leads_c:ACode:=(.seq (.ops check_leads_r0) (.seq (.ops check_leads_r1) .ret))
def check_leads_a:AFunc:=⟨11,[(.tmp 6)],check_leads_c⟩
/-! strata_objects -/
def strata_objects_r0:List AStep := [⟨some 2,.box (.tmp 0),none⟩,⟨some 4,.mov (.con .nils),none⟩]
def strata_objects_r1:List AStep := [⟨some 5,.mov (.con .nils),none⟩]
def strata_objects_r2:List AStep := [⟨some 10,.fieldAddr 1 (.tmp 2),none⟩,⟨some 11,.load false 1 (.tmp 10),none⟩,⟨some 12,.len (.tmp 11),none⟩,⟨some 13,.mov (.con (.int .i64 0)),none⟩]
def strata_objects_r3:List AStep := [⟨some 14,.bin .lss (.tmp 13) (.tmp 12),none⟩]
def strata_objects_r4:List AStep := [⟨some 15,.indexAddr 6 (.tmp 11) (.tmp 13),none⟩,⟨some 16,.load true 6 (.tmp 15),none⟩,⟨some 7,.alloc [(.str []),(.str []),(.str []),(.str []),.nils,.nils],none⟩,⟨none,.store 6 (.tmp 7) (.tmp 16),none⟩]
def strata_objects_r5:List AStep := [⟨some 17,.fieldAddr 0 (.tmp 7),none⟩,⟨some 18,.load false 1 (.tmp 17),none⟩,⟨some 19,.mov (.tmp 1),none⟩,⟨some 20,.bin .neq (.tmp 18) (.tmp 19),none⟩]
def strata_objects_r6:List AStep := [⟨some 21,.fieldAddr 4 (.tmp 7),none⟩,⟨some 22,.load false 1 (.tmp 21),none⟩,⟨some 23,.len (.tmp 22),none⟩,⟨some 24,.mov (.con (.int .i64 0)),none⟩]
def strata_objects_r7:List AStep := [⟨some 25,.bin .lss (.tmp 24) (.tmp 23),none⟩]
def strata_objects_r8:List AStep := [⟨some 26,.indexAddr 2 (.tmp 22) (.tmp 24),none⟩,⟨some 27,.load true 2 (.tmp 26),none⟩,⟨some 9,.alloc [(.str []),(.str [])],none⟩,⟨none,.store 2 (.tmp 9) (.tmp 27),none⟩]
def strata_objects_r9:List AStep := [⟨some 28,.fieldAddr 1 (.tmp 9),none⟩,⟨some 29,.load false 1 (.tmp 28),none⟩,⟨some 30,.bin .eql (.tmp 29) (.con (.str [])),none⟩]
def strata_objects_r10:List AStep := [⟨some 31,.mov (.tmp 5),none⟩,⟨some 32,.fieldAddr 0 (.tmp 9),none⟩,⟨some 33,.load false 1 (.tmp 32),none⟩,⟨some 34,.buildSlice 1 1 [(.str [])] [(0,(1,(.tmp 33)))],none⟩,⟨some 35,.append 1 (.tmp 31) (.tmp 34),none⟩,⟨some 5,.mov (.tmp 35),none⟩]
def strata_objects_r11:List AStep := [⟨some 36,.bin .add (.tmp 24) (.con (.int .i64 1)),none⟩,⟨some 24,.mov (.tmp 36),none⟩]
def strata_objects_l12:ACode:=(.seq (.ops strata_objects_r7) (.seq (.cond (.tmp 25) .skip (.exit 2)) (.seq (.block 3 (.seq (.ops strata_objects_r8) (.seq (.ops strata_objects_r9) (.cond (.tmp 30) (.ops strata_objects_r10) .skip)))) (.ops strata_objects_r11))))
def strata_objects_r13:List AStep := [⟨some 37,.bin .add (.tmp 13) (.con (.int .i64 1)),none⟩,⟨some 13,.mov (.tmp 37),none⟩]
def strata_objects_l14:ACode:=(.seq (.ops strata_objects_r3) (.seq (.cond (.tmp 14) .skip (.exit 0)) (.seq (.block 1 (.seq (.ops strata_objects_r4) (.seq (.seq (.ops strata_objects_r5) (.cond (.tmp 20) (.exit 1) .skip)) (.seq (.ops strata_objects_r6) (.block 2 (.loop strata_objects_l12)))))) (.ops strata_objects_r13))))
def strata_objects_r15:List AStep := [⟨some 38,.mov (.tmp 5),none⟩,⟨some 4,.mov (.tmp 38),none⟩]
def strata_objects_c:ACode:=(.seq (.ops strata_objects_r0) (.seq (.ops strata_objects_r1) (.seq (.seq (.ops strata_objects_r2) (.block 0 (.loop strata_objects_l14))) (.seq (.ops strata_objects_r15) .ret))))
def strata_objects_a:AFunc:=⟨39,[(.tmp 4)],strata_objects_c⟩
/-! strata_compare_1 -/
def strata_compare_1_r0:List AStep := [⟨some 1,.box (.tmp 0),none⟩,⟨some 2,.mov (.con (.int .i64 0)),none⟩]
def strata_compare_1_r1:List AStep := [⟨some 3,.fieldAddr 2 (.tmp 1),none⟩,⟨some 4,.load false 1 (.tmp 3),none⟩]
def strata_compare_1_r2:List AStep := [⟨some 2,.mov (.con (.int .i64 1)),none⟩]
def strata_compare_1_r3:List AStep := [⟨some 2,.mov (.con (.int .i64 0)),none⟩]
def strata_compare_1_c:ACode:=(.seq (.ops strata_compare_1_r0) (.seq (.seq (.ops strata_compare_1_r1) (.cond (.tmp 4) (.seq (.ops strata_compare_1_r2) .ret) .skip)) (.seq (.ops strata_compare_1_r3) .ret)))
def strata_compare_1_a:AFunc:=⟨5,[(.tmp 2)],strata_compare_1_c⟩
/-! cmp_Or_int -/
def cmp_Or_int_r0:List AStep := [⟨some 2,.mov (.con (.int .i64 0)),none⟩]
def cmp_Or_int_r1:List AStep := [⟨some 3,.mov (.con (.int .i64 0)),none⟩]
def cmp_Or_int_r2:List AStep := [⟨some 6,.mov (.tmp 0),none⟩,⟨some 7,.len (.tmp 6),none⟩,⟨some 8,.mov (.con (.int .i64 0)),none⟩]
def cmp_Or_int_r3:List AStep := [⟨some 9,.bin .lss (.tmp 8) (.tmp 7),none⟩]
def cmp_Or_int_r4:List AStep := [⟨some 10,.indexAddr 1 (.tmp 6) (.tmp 8),none⟩,⟨some 11,.load false 1 (.tmp 10),none⟩,⟨some 5,.mov (.tmp 11),none⟩]
def cmp_Or_int_r5:List AStep := [⟨some 12,.mov (.tmp 5),none⟩,⟨some 13,.mov (.tmp 3),none⟩,⟨some 14,.bin .neq (.tmp 12) (.tmp 13),none⟩]
def cmp_Or_int_r6:List AStep := [⟨some 15,.mov (.tmp 5),none⟩,⟨some 2,.mov (.tmp 15),none⟩]
def cmp_Or_int_r7:List AStep := [⟨some 16,.bin .add (.tmp 8) (.con (.int .i64 1)),none⟩,⟨some 8,.mov (.tmp 16),none⟩]
def cmp_Or_int_l8:ACode:=(.seq (.ops cmp_Or_int_r3) (.seq (.cond (.tmp 9) .skip (.exit 0)) (.seq (.block 1 (.seq (.ops cmp_Or_int_r4) (.seq (.ops cmp_Or_int_r5) (.cond (.tmp 14) (.seq (.ops cmp_Or_int_r6) .ret) .skip)))) (.ops cmp_Or_int_r7))))
def cmp_Or_int_r9:List AStep := [⟨some 17,.mov (.tmp 3),none⟩,⟨some 2,.mov (.tmp 17),none⟩]
def cmp_Or_int_c:ACode:=(.seq (.ops cmp_Or_int_r0) (.seq (.ops cmp_Or_int_r1) (.seq (.seq (.ops cmp_Or_int_r2) (.block 0 (.loop cmp_Or_int_l8))) (.seq (.ops cmp_Or_int_r9) .ret))))
def cmp_Or_int_a:AFunc:=⟨18,[(.tmp 2)],cmp_Or_int_c⟩
/-! cmp_Compare_int -/
def cmp_Compare_int_r0:List AStep := [⟨some 4,.mov (.con (.int .i64 0)),none⟩]
def cmp_Compare_int_r1:List AStep := [⟨some 7,.mov (.tmp 0),none⟩,⟨some 8,.call (.con (.func n_cmp_isNaN_int [])) [(.tmp 7)],none⟩,⟨some 5,.mov (.tmp 8),none⟩]
def cmp_Compare_int_r2:List AStep := [⟨some 9,.mov (.tmp 1),none⟩,⟨some 10,.call (.con (.func n_cmp_isNaN_int [])) [(.tmp 9)],none⟩,⟨some 6,.mov (.tmp 10),none⟩]
def cmp_Compare_int_r3:List AStep := [⟨some 11,.mov (.tmp 5),none⟩]
def cmp_Compare_int_r4:List AStep := [⟨some 12,.mov (.tmp 6),none⟩]
def cmp_Compare_int_r5:List AStep := [⟨some 4,.mov (.con (.int .i64 0)),none⟩]
def cmp_Compare_int_r6:List AStep := [⟨some 4,.mov (.con (.int .i64 (-1))),none⟩]
def cmp_Compare_int_r7:List AStep := [⟨some 13,.mov (.tmp 6),none⟩]
def cmp_Compare_int_r8:List AStep := [⟨some 4,.mov (.con (.int .i64 1)),none⟩]
def cmp_Compare_int_r9:List AStep := [⟨some 14,.mov (.tmp 0),none⟩,⟨some 15,.mov (.tmp 1),none⟩,⟨some 16,.bin .lss (.tmp 14) (.tmp 15),none⟩]
def cmp_Compare_int_r10:List AStep := [⟨some 4,.mov (.con (.int .i64 (-1))),none⟩]
def cmp_Compare_int_r11:List AStep := [⟨some 17,.mov (.tmp 0),none⟩,⟨some 18,.mov (.tmp 1),none⟩,⟨some 19,.bin .gtr (.tmp 17) (.tmp 18),none⟩]
def cmp_Compare_int_r12:List AStep := [⟨some 4,.mov (.con (.int .i64 1)),none⟩]
def cmp_Compare_int_r13:List AStep := [⟨some 4,.mov (.con (.int .i64 0)),none⟩]
def cmp_Compare_int_c:ACode:=(.seq (.ops cmp_Compare_int_r0) (.seq (.ops cmp_Compare_int_r1) (.seq (.ops cmp_Compare_int_r2) (.seq (.seq (.ops cmp_Compare_int_r3) (.cond (.tmp 11) (.seq (.seq (.ops cmp_Compare_int_r4) (.cond (.tmp 12) (.seq (.ops cmp_Compare_int_r5) .ret) .skip)) (.seq (.ops cmp_Compare_int_r6) .ret)) .skip)) (.seq (.seq (.ops cmp_Compare_int_r7) (.cond (.tmp 13) (.seq (.ops cmp_Compare_int_r8) .ret) .skip)) (.seq (.seq (.ops cmp_Compare_int_r9) (.cond (.tmp 16) (.seq (.ops cmp_Compare_int_r10) .ret) .skip)) (.seq (.seq (.ops cmp_Compare_int_r11) (.cond (.tmp 19) (.seq (.ops cmp_Compare_int_r12) .ret) .skip)) (.seq (.ops cmp_Compare_int_r13) .ret))))))))
def cmp_Compare_int_a:AFunc:=⟨20,[(.tmp 4)],cmp_Compare_int_c⟩
/-! slices_IndexFunc_strata_Edge_strata_Edge -/
def slices_IndexFunc_strata_Edge_strata_Edge_r0:List AStep := [⟨some 4,.mov (.con (.int .i64 0)),none⟩]
def slices_IndexFunc_strata_Edge_strata_Edge_r1:List AStep := [⟨some 6,.mov (.tmp 0),none⟩,⟨some 7,.len (.tmp 6),none⟩,⟨some 8,.mov (.con (.int .i64 0)),none⟩]
def slices_IndexFunc_strata_Edge_strata_Edge_r2:List AStep := [⟨some 9,.bin .lss (.tmp 8) (.tmp 7),none⟩]
def slices_IndexFunc_strata_Edge_strata_Edge_r3:List AStep := [⟨some 10,.mov (.tmp 8),none⟩,⟨some 5,.mov (.tmp 10),none⟩]
def slices_IndexFunc_strata_Edge_strata_Edge_r4:List AStep := [⟨some 11,.mov (.tmp 1),none⟩,⟨some 12,.mov (.tmp 0),none⟩,⟨some 13,.mov (.tmp 5),none⟩,⟨some 14,.indexAddr 3 (.tmp 12) (.tmp 13),none⟩,⟨some 15,.load true 3 (.tmp 14),none⟩,⟨some 16,.call (.tmp 11) [(.tmp 15)],none⟩]
def slices_IndexFunc_strata_Edge_strata_Edge_r5:List AStep := [⟨some 17,.mov (.tmp 5),none⟩,⟨some 4,.mov (.tmp 17),none⟩]
def slices_IndexFunc_strata_Edge_strata_Edge_r6:List AStep := [⟨some 18,.bin .add (.tmp 8) (.con (.int .i64 1)),none⟩,⟨some 8,.mov (.tmp 18),none⟩]
def slices_IndexFunc_strata_Edge_strata_Edge_l7:ACode:=(.seq (.ops slices_IndexFunc_strata_Edge_strata_Edge_r2) (.seq (.cond (.tmp 9) .skip (.exit 0)) (.seq (.block 1 (.seq (.ops slices_IndexFunc_strata_Edge_strata_Edge_r3) (.seq (.ops slices_IndexFunc_strata_Edge_strata_Edge_r4) (.cond (.tmp 16) (.seq (.ops slices_IndexFunc_strata_Edge_strata_Edge_r5) .ret) .skip)))) (.ops slices_IndexFunc_strata_Edge_strata_Edge_r6))))
def slices_IndexFunc_strata_Edge_strata_Edge_r8:List AStep := [⟨some 4,.mov (.con (.int .i64 (-1))),none⟩]
def slices_IndexFunc_strata_Edge_strata_Edge_c:ACode:=(.seq (.ops slices_IndexFunc_strata_Edge_strata_Edge_r0) (.seq (.seq (.ops slices_IndexFunc_strata_Edge_strata_Edge_r1) (.block 0 (.loop slices_IndexFunc_strata_Edge_strata_Edge_l7))) (.seq (.ops slices_IndexFunc_strata_Edge_strata_Edge_r8) .ret)))
def slices_IndexFunc_strata_Edge_strata_Edge_a:AFunc:=⟨19,[(.tmp 4)],slices_IndexFunc_strata_Edge_strata_Edge_c⟩
/-! glyph_Cut -/
def glyph_Cut_r0:List AStep := [⟨some 4,.mov (.con (.str [])),none⟩,⟨some 5,.mov (.con (.str [])),none⟩]
def glyph_Cut_r1:List AStep := [⟨some 6,.mov (.con (.int .i64 0)),none⟩]
def glyph_Cut_r2:List AStep := [⟨some 8,.mov (.tmp 0),none⟩,⟨some 9,.rangeT (.tmp 8),none⟩]
def glyph_Cut_r3:List AStep := [⟨some 10,.nextT (.tmp 9),none⟩,⟨some 11,.extract (.tmp 10) 0,none⟩]
def glyph_Cut_r4:List AStep := [⟨some 12,.extract (.tmp 10) 1,none⟩,⟨some 7,.mov (.tmp 12),none⟩]
def glyph_Cut_r5:List AStep := [⟨some 13,.mov (.tmp 6),none⟩,⟨some 14,.mov (.tmp 1),none⟩,⟨some 15,.bin .geq (.tmp 13) (.tmp 14),none⟩]
def glyph_Cut_r6:List DStep := [⟨0,0,⟨(some 16),(.mov (.tmp 0)),none⟩⟩,⟨1,0,⟨(some 17),(.mov (.tmp 7)),none⟩⟩,⟨2,3,⟨(some 18),(.sliceT (.tmp 16) none (some (.tmp 17))),none⟩⟩,⟨3,0,⟨(some 19),(.mov (.tmp 0)),none⟩⟩,⟨4,0,⟨(some 20),(.mov (.tmp 7)),none⟩⟩,⟨5,24,⟨(some 21),(.sliceT (.tmp 19) (some (.tmp 20)) none),none⟩⟩,⟨6,7,⟨(some 4),(.mov (.tmp 18)),none⟩⟩,⟨7,127,⟨(some 5),(.mov (.tmp 21)),none⟩⟩]
def glyph_Cut_r7:List AStep := [⟨some 22,.mov (.tmp 6),none⟩,⟨some 23,.bin .add (.tmp 22) (.con (.int .i64 1)),none⟩,⟨some 6,.mov (.tmp 23),none⟩]
def glyph_Cut_l8:ACode:=(.seq (.ops glyph_Cut_r3) (.seq (.cond (.tmp 11) .skip (.exit 0)) (.block 1 (.seq (.ops glyph_Cut_r4) (.seq (.seq (.ops glyph_Cut_r5) (.cond (.tmp 15) (.seq (.draw glyph_Cut_r6) .ret) .skip)) (.ops glyph_Cut_r7))))))
def glyph_Cut_r9:List AStep := [⟨some 24,.mov (.tmp 0),none⟩,⟨some 4,.mov (.tmp 24),none⟩,⟨some 5,.mov (.con (.str [])),none⟩]
def glyph_Cut_c:ACode:=(.seq (.ops glyph_Cut_r0) (.seq (.ops glyph_Cut_r1) (.seq (.seq (.ops glyph_Cut_r2) (.block 0 (.loop glyph_Cut_l8))) (.seq (.ops glyph_Cut_r9) .ret))))
def glyph_Cut_a:AFunc:=⟨25,[(.tmp 4),(.tmp 5)],glyph_Cut_c⟩
/-! glyph_Valid -/
def glyph_Valid_r0:List AStep := [⟨some 2,.mov (.con (.bool false)),none⟩]
def glyph_Valid_r1:List AStep := [⟨some 5,.mov (.tmp 0),none⟩,⟨some 6,.rangeT (.tmp 5),none⟩]
def glyph_Valid_r2:List AStep := [⟨some 7,.nextT (.tmp 6),none⟩,⟨some 8,.extract (.tmp 7) 0,none⟩]
def glyph_Valid_r3:List AStep := [⟨some 9,.extract (.tmp 7) 1,none⟩,⟨some 10,.extract (.tmp 7) 2,none⟩,⟨some 3,.mov (.tmp 9),none⟩,⟨some 4,.mov (.tmp 10),none⟩]
def glyph_Valid_r4:List AStep := [⟨some 11,.mov (.tmp 4),none⟩,⟨some 12,.bin .eql (.tmp 11) (.con (.int .i32 65533)),none⟩,⟨some 13,.mov (.tmp 12),none⟩,⟨some 14,.mov (.tmp 0),(some (13,true))⟩,⟨some 15,.mov (.tmp 3),(some (13,true))⟩,⟨some 16,.sliceT (.tmp 14) (some (.tmp 15)) none,(some (13,true))⟩,⟨some 17,.call (.con (.func n_strings_HasPrefix [])) [(.tmp 16),(.con (.str [239,191,189]))],(some (13,true))⟩,⟨some 18,.not (.tmp 17),(some (13,true))⟩,⟨some 19,.pick (.tmp 13) (.tmp 18) (.con (.bool false)),none⟩]
def glyph_Valid_r5:List AStep := [⟨some 2,.mov (.con (.bool false)),none⟩]
def glyph_Valid_l6:ACode:=(.seq (.ops glyph_Valid_r2) (.seq (.cond (.tmp 8) .skip (.exit 0)) (.block 1 (.seq (.ops glyph_Valid_r3) (.seq (.ops glyph_Valid_r4) (.cond (.tmp 19) (.seq (.ops glyph_Valid_r5) .ret) .skip))))))
def glyph_Valid_r7:List AStep := [⟨some 2,.mov (.con (.bool true)),none⟩]
def glyph_Valid_c:ACode:=(.seq (.ops glyph_Valid_r0) (.seq (.seq (.ops glyph_Valid_r1) (.block 0 (.loop glyph_Valid_l6))) (.seq (.ops glyph_Valid_r7) .ret)))
def glyph_Valid_a:AFunc:=⟨20,[(.tmp 2)],glyph_Valid_c⟩
/-! strings_HasPrefix -/
def strings_HasPrefix_r0:List AStep := [⟨some 4,.mov (.con (.bool false)),none⟩]
def strings_HasPrefix_r1:List AStep := [⟨some 5,.mov (.tmp 0),none⟩,⟨some 6,.mov (.tmp 1),none⟩,⟨some 7,.call (.con (.func n_stringslite_HasPrefix [])) [(.tmp 5),(.tmp 6)],none⟩,⟨some 4,.mov (.tmp 7),none⟩]
def strings_HasPrefix_c:ACode:=(.seq (.ops strings_HasPrefix_r0) (.seq (.ops strings_HasPrefix_r1) .ret))
def strings_HasPrefix_a:AFunc:=⟨8,[(.tmp 4)],strings_HasPrefix_c⟩
/-! strings_Cut -/
def strings_Cut_r0:List AStep := [⟨some 4,.mov (.con (.str [])),none⟩,⟨some 5,.mov (.con (.str [])),none⟩,⟨some 6,.mov (.con (.bool false)),none⟩]
def strings_Cut_r1:List AStep := [⟨some 7,.mov (.tmp 0),none⟩,⟨some 8,.mov (.tmp 1),none⟩,⟨some 9,.call (.con (.func n_stringslite_Cut [])) [(.tmp 7),(.tmp 8)],none⟩,⟨some 10,.extract (.tmp 9) 0,none⟩,⟨some 11,.extract (.tmp 9) 1,none⟩,⟨some 12,.extract (.tmp 9) 2,none⟩,⟨some 4,.mov (.tmp 10),none⟩,⟨some 5,.mov (.tmp 11),none⟩,⟨some 6,.mov (.tmp 12),none⟩]
def strings_Cut_c:ACode:=(.seq (.ops strings_Cut_r0) (.seq (.ops strings_Cut_r1) .ret))
def strings_Cut_a:AFunc:=⟨13,[(.tmp 4),(.tmp 5),(.tmp 6)],strings_Cut_c⟩
/-! glyph_Name -/
def glyph_Name_r0:List AStep := [⟨some 2,.mov (.con (.bool false)),none⟩]
def glyph_Name_r1:List AStep := [⟨some 5,.mov (.tmp 0),none⟩,⟨some 6,.call (.con (.func n_glyph_Valid [])) [(.tmp 5)],none⟩,⟨some 7,.not (.tmp 6),none⟩,⟨some 8,.mov (.tmp 7),none⟩,⟨some 9,.mov (.tmp 0),(some (8,false))⟩,⟨some 10,.bin .eql (.tmp 9) (.con (.str [])),(some (8,false))⟩,⟨some 11,.pick (.tmp 8) (.con (.bool true)) (.tmp 10),none⟩,⟨some 12,.mov (.tmp 11),none⟩,⟨some 13,.mov (.tmp 0),(some (12,false))⟩,⟨some 14,.call (.con (.func n_glyph_Count [])) [(.tmp 13)],(some (12,false))⟩,⟨some 15,.bin .gtr (.tmp 14) (.con (.int .i64 24)),(some (12,false))⟩,⟨some 16,.pick (.tmp 12) (.con (.bool true)) (.tmp 15),none⟩]
def glyph_Name_r2:List AStep := [⟨some 2,.mov (.con (.bool false)),none⟩]
def glyph_Name_r3:List AStep := [⟨some 17,.mov (.tmp 0),none⟩,⟨some 18,.rangeT (.tmp 17),none⟩]
def glyph_Name_r4:List AStep := [⟨some 19,.nextT (.tmp 18),none⟩,⟨some 20,.extract (.tmp 19) 0,none⟩]
def glyph_Name_r5:List AStep := [⟨some 21,.extract (.tmp 19) 2,none⟩,⟨some 4,.mov (.tmp 21),none⟩]
def glyph_Name_r6:List AStep := [⟨some 22,.mov (.tmp 4),none⟩,⟨some 23,.bin .lss (.tmp 22) (.con (.int .i32 161)),none⟩,⟨some 24,.mov (.tmp 23),none⟩,⟨some 25,.mov (.tmp 4),(some (24,true))⟩,⟨some 26,.call (.con (.func n_strings_ContainsRune [])) [(.con (.str [97,98,99,100,101,102,103,104,105,106,107,108,109,110,111,112,113,114,115,116,117,118,119,120,121,122,65,66,67,68,69,70,71,72,73,74,75,76,77,78,79,80,81,82,83,84,85,86,87,88,89,90,48,49,50,51,52,53,54,55,56,57,95])),(.tmp 25)],(some (24,true))⟩,⟨some 27,.not (.tmp 26),(some (24,true))⟩,⟨some 28,.pick (.tmp 24) (.tmp 27) (.con (.bool false)),none⟩]
def glyph_Name_r7:List AStep := [⟨some 2,.mov (.con (.bool false)),none⟩]
def glyph_Name_l8:ACode:=(.seq (.ops glyph_Name_r4) (.seq (.cond (.tmp 20) .skip (.exit 0)) (.block 1 (.seq (.ops glyph_Name_r5) (.seq (.ops glyph_Name_r6) (.cond (.tmp 28) (.seq (.ops glyph_Name_r7) .ret) .skip))))))
def glyph_Name_r9:List AStep := [⟨some 2,.mov (.con (.bool true)),none⟩]
def glyph_Name_c:ACode:=(.seq (.ops glyph_Name_r0) (.seq (.seq (.ops glyph_Name_r1) (.cond (.tmp 16) (.seq (.ops glyph_Name_r2) .ret) .skip)) (.seq (.seq (.ops glyph_Name_r3) (.block 0 (.loop glyph_Name_l8))) (.seq (.ops glyph_Name_r9) .ret))))
def glyph_Name_a:AFunc:=⟨29,[(.tmp 2)],glyph_Name_c⟩
/-! parse_reader_is -/
def parse_reader_is_r0:List AStep := [⟨some 4,.mov (.con (.bool false)),none⟩]
def parse_reader_is_r1:List AStep := [⟨some 5,.mov (.tmp 0),none⟩,⟨some 6,.nilCheck (.tmp 5),none⟩,⟨some 7,.fieldAddr 0 (.tmp 6),none⟩,⟨some 8,.load false 1 (.tmp 7),none⟩,⟨some 9,.indexAddr 3 (.tmp 8) (.con (.int .i64 0)),none⟩,⟨some 10,.fieldAddr 1 (.tmp 9),none⟩,⟨some 11,.load false 1 (.tmp 10),none⟩,⟨some 12,.mov (.tmp 1),none⟩,⟨some 13,.bin .eql (.tmp 11) (.tmp 12),none⟩,⟨some 14,.mov (.tmp 13),none⟩,⟨some 15,.mov (.tmp 0),(some (14,true))⟩,⟨some 16,.nilCheck (.tmp 15),(some (14,true))⟩,⟨some 17,.fieldAddr 0 (.tmp 16),(some (14,true))⟩,⟨some 18,.load false 1 (.tmp 17),(some (14,true))⟩,⟨some 19,.indexAddr 3 (.tmp 18) (.con (.int .i64 0)),(some (14,true))⟩,⟨some 20,.fieldAddr 0 (.tmp 19),(some (14,true))⟩,⟨some 21,.load false 1 (.tmp 20),(some (14,true))⟩,⟨some 22,.bin .eql (.tmp 21) (.con (.int .i64 2)),(some (14,true))⟩,⟨some 23,.mov (.tmp 22),(some (14,true))⟩,⟨some 24,.mov (.tmp 1),(some (23,false))⟩,⟨some 25,.call (.con (.func n_token_Key [])) [(.tmp 24)],(some (23,false))⟩,⟨some 26,.pick (.tmp 23) (.con (.bool true)) (.tmp 25),(some (14,true))⟩,⟨some 27,.pick (.tmp 14) (.tmp 26) (.con (.bool false)),none⟩,⟨some 4,.mov (.tmp 27),none⟩]
def parse_reader_is_c:ACode:=(.seq (.ops parse_reader_is_r0) (.seq (.ops parse_reader_is_r1) .ret))
def parse_reader_is_a:AFunc:=⟨28,[(.tmp 4)],parse_reader_is_c⟩
/-! token_Key -/
def token_Key_r0:List AStep := [⟨some 2,.mov (.con (.bool false)),none⟩]
def token_Key_r1:List AStep := [⟨some 3,.load false 1 (.con (.gptr g_token_keys)),none⟩,⟨some 4,.mov (.tmp 0),none⟩,⟨some 5,.call (.con (.func n_slices_Contains_string_string [])) [(.tmp 3),(.tmp 4)],none⟩,⟨some 2,.mov (.tmp 5),none⟩]
def token_Key_c:ACode:=(.seq (.ops token_Key_r0) (.seq (.ops token_Key_r1) .ret))
def token_Key_a:AFunc:=⟨6,[(.tmp 2)],token_Key_c⟩
/-! parse_reader_subs -/
def parse_reader_subs_r0:List AStep := [⟨some 2,.mov (.con .nils),none⟩]
def parse_reader_subs_r1:List AStep := [⟨some 3,.mov (.con .nils),none⟩]
def parse_reader_subs_r2:List AStep := [⟨some 5,.mov (.tmp 0),none⟩,⟨some 6,.call (.con (.func n_parse_reader_name [])) [(.tmp 5)],none⟩,⟨some 7,.build [(.str []),(.str [])] [(0,(1,(.tmp 6)))],none⟩,⟨some 4,.alloc [(.str []),(.str [])],none⟩,⟨none,.store 2 (.tmp 4) (.tmp 7),none⟩]
def parse_reader_subs_r3:List AStep := [⟨some 8,.mov (.tmp 0),none⟩,⟨some 9,.call (.con (.func n_parse_reader_pass [])) [(.tmp 8),(.con (.str [35]))],none⟩]
def parse_reader_subs_r4:List AStep := [⟨some 10,.mov (.tmp 0),none⟩,⟨some 11,.call (.con (.func n_parse_reader_name [])) [(.tmp 10)],none⟩,⟨some 12,.fieldAddr 1 (.tmp 4),none⟩,⟨none,.store 1 (.tmp 12) (.tmp 11),none⟩]
def parse_reader_subs_r5:List AStep := [⟨some 13,.mov (.tmp 3),none⟩,⟨some 14,.load true 2 (.tmp 4),none⟩,⟨some 15,.buildSlice 2 1 [(.str []),(.str [])] [(0,(2,(.tmp 14)))],none⟩,⟨some 16,.append 2 (.tmp 13) (.tmp 15),none⟩,⟨some 3,.mov (.tmp 16),none⟩]
def parse_reader_subs_r6:List AStep := [⟨some 17,.mov (.tmp 0),none⟩,⟨some 18,.call (.con (.func n_parse_reader_pass [])) [(.tmp 17),(.con (.str [44]))],none⟩,⟨some 19,.not (.tmp 18),none⟩]
def parse_reader_subs_r7:List AStep := [⟨some 20,.mov (.tmp 3),none⟩,⟨some 2,.mov (.tmp 20),none⟩]
def parse_reader_subs_l8:ACode:=(.block 1 (.seq (.ops parse_reader_subs_r2) (.seq (.seq (.ops parse_reader_subs_r3) (.cond (.tmp 9) (.ops parse_reader_subs_r4) .skip)) (.seq (.ops parse_reader_subs_r5) (.seq (.ops parse_reader_subs_r6) (.cond (.tmp 19) (.seq (.ops parse_reader_subs_r7) .ret) .skip))))))
def parse_reader_subs_c:ACode:=(.seq (.ops parse_reader_subs_r0) (.seq (.ops parse_reader_subs_r1) (.block 0 (.loop parse_reader_subs_l8))))
def parse_reader_subs_a:AFunc:=⟨21,[(.tmp 2)],parse_reader_subs_c⟩
/-! parse_reader_rewrite -/
def parse_reader_rewrite_r0:List AStep := [⟨some 2,.mov (.con .nils),none⟩]
def parse_reader_rewrite_r1:List AStep := [⟨some 5,.mov (.tmp 0),none⟩,⟨some 6,.call (.con (.func n_parse_reader_part [])) [(.tmp 5)],none⟩,⟨some 3,.mov (.tmp 6),none⟩]
def parse_reader_rewrite_r2:List AStep := [⟨some 7,.mov (.tmp 0),none⟩,⟨some 8,.call (.con (.func n_parse_reader_sign [])) [(.tmp 7)],none⟩,⟨some 4,.mov (.tmp 8),none⟩]
def parse_reader_rewrite_r3:List AStep := [⟨some 9,.mov (.tmp 4),none⟩,⟨some 10,.bin .neq (.tmp 9) (.con (.int .i64 0)),none⟩]
def parse_reader_rewrite_r4:List AStep := [⟨some 13,.mov (.tmp 3),none⟩,⟨some 14,.mov (.tmp 0),none⟩,⟨some 15,.call (.con (.func n_parse_reader_part [])) [(.tmp 14)],none⟩,⟨some 16,.append 3 (.tmp 13) (.tmp 15),none⟩,⟨some 17,.mov (.tmp 4),none⟩,⟨some 18,.build [(.int .i64 0),(.str []),(.str [])] [(0,(1,(.tmp 17)))],none⟩,⟨some 19,.buildSlice 3 1 [(.int .i64 0),(.str []),(.str [])] [(0,(3,(.tmp 18)))],none⟩,⟨some 20,.append 3 (.tmp 16) (.tmp 19),none⟩,⟨some 3,.mov (.tmp 20),none⟩]
def parse_reader_rewrite_r5:List AStep := [⟨some 11,.mov (.tmp 0),none⟩,⟨some 12,.call (.con (.func n_parse_reader_sign [])) [(.tmp 11)],none⟩,⟨some 4,.mov (.tmp 12),none⟩]
def parse_reader_rewrite_l6:ACode:=(.seq (.seq (.ops parse_reader_rewrite_r3) (.cond (.tmp 10) .skip (.exit 0))) (.seq (.block 1 (.ops parse_reader_rewrite_r4)) (.ops parse_reader_rewrite_r5)))
def parse_reader_rewrite_r7:List AStep := [⟨some 21,.mov (.tmp 3),none⟩,⟨some 2,.mov (.tmp 21),none⟩]
def parse_reader_rewrite_c:ACode:=(.seq (.ops parse_reader_rewrite_r0) (.seq (.ops parse_reader_rewrite_r1) (.seq (.seq (.ops parse_reader_rewrite_r2) (.block 0 (.loop parse_reader_rewrite_l6))) (.seq (.ops parse_reader_rewrite_r7) .ret))))
def parse_reader_rewrite_a:AFunc:=⟨22,[(.tmp 2)],parse_reader_rewrite_c⟩
/-! slices_IndexFunc_parse_Type_parse_Type -/
def slices_IndexFunc_parse_Type_parse_Type_r0:List AStep := [⟨some 4,.mov (.con (.int .i64 0)),none⟩]
def slices_IndexFunc_parse_Type_parse_Type_r1:List AStep := [⟨some 6,.mov (.tmp 0),none⟩,⟨some 7,.len (.tmp 6),none⟩,⟨some 8,.mov (.con (.int .i64 0)),none⟩]
def slices_IndexFunc_parse_Type_parse_Type_r2:List AStep := [⟨some 9,.bin .lss (.tmp 8) (.tmp 7),none⟩]
def slices_IndexFunc_parse_Type_parse_Type_r3:List AStep := [⟨some 10,.mov (.tmp 8),none⟩,⟨some 5,.mov (.tmp 10),none⟩]
def slices_IndexFunc_parse_Type_parse_Type_r4:List AStep := [⟨some 11,.mov (.tmp 1),none⟩,⟨some 12,.mov (.tmp 0),none⟩,⟨some 13,.mov (.tmp 5),none⟩,⟨some 14,.indexAddr 2 (.tmp 12) (.tmp 13),none⟩,⟨some 15,.load true 2 (.tmp 14),none⟩,⟨some 16,.call (.tmp 11) [(.tmp 15)],none⟩]
def slices_IndexFunc_parse_Type_parse_Type_r5:List AStep := [⟨some 17,.mov (.tmp 5),none⟩,⟨some 4,.mov (.tmp 17),none⟩]
def slices_IndexFunc_parse_Type_parse_Type_r6:List AStep := [⟨some 18,.bin .add (.tmp 8) (.con (.int .i64 1)),none⟩,⟨some 8,.mov (.tmp 18),none⟩]
def slices_IndexFunc_parse_Type_parse_Type_l7:ACode:=(.seq (.ops slices_IndexFunc_parse_Type_parse_Type_r2) (.seq (.cond (.tmp 9) .skip (.exit 0)) (.seq (.block 1 (.seq (.ops slices_IndexFunc_parse_Type_parse_Type_r3) (.seq (.ops slices_IndexFunc_parse_Type_parse_Type_r4) (.cond (.tmp 16) (.seq (.ops slices_IndexFunc_parse_Type_parse_Type_r5) .ret) .skip)))) (.ops slices_IndexFunc_parse_Type_parse_Type_r6))))
def slices_IndexFunc_parse_Type_parse_Type_r8:List AStep := [⟨some 4,.mov (.con (.int .i64 (-1))),none⟩]
def slices_IndexFunc_parse_Type_parse_Type_c:ACode:=(.seq (.ops slices_IndexFunc_parse_Type_parse_Type_r0) (.seq (.seq (.ops slices_IndexFunc_parse_Type_parse_Type_r1) (.block 0 (.loop slices_IndexFunc_parse_Type_parse_Type_l7))) (.seq (.ops slices_IndexFunc_parse_Type_parse_Type_r8) .ret)))
def slices_IndexFunc_parse_Type_parse_Type_a:AFunc:=⟨19,[(.tmp 4)],slices_IndexFunc_parse_Type_parse_Type_c⟩
/-! check_kind_1 -/
def check_kind_1_r0:List AStep := [⟨some 2,.box (.tmp 0),none⟩,⟨some 3,.mov (.con (.bool false)),none⟩]
def check_kind_1_r1:List AStep := [⟨some 4,.fieldAddr 0 (.tmp 2),none⟩,⟨some 5,.load false 1 (.tmp 4),none⟩,⟨some 6,.load false 1 (.tmp 1),none⟩,⟨some 7,.bin .eql (.tmp 5) (.tmp 6),none⟩,⟨some 3,.mov (.tmp 7),none⟩]
def check_kind_1_c:ACode:=(.seq (.ops check_kind_1_r0) (.seq (.ops check_kind_1_r1) .ret))
def check_kind_1_a:AFunc:=⟨8,[(.tmp 3)],check_kind_1_c⟩
/-! slices_IndexFunc_parse_Rel_parse_Rel -/
def slices_IndexFunc_parse_Rel_parse_Rel_r0:List AStep := [⟨some 4,.mov (.con (.int .i64 0)),none⟩]
def slices_IndexFunc_parse_Rel_parse_Rel_r1:List AStep := [⟨some 6,.mov (.tmp 0),none⟩,⟨some 7,.len (.tmp 6),none⟩,⟨some 8,.mov (.con (.int .i64 0)),none⟩]
def slices_IndexFunc_parse_Rel_parse_Rel_r2:List AStep := [⟨some 9,.bin .lss (.tmp 8) (.tmp 7),none⟩]
def slices_IndexFunc_parse_Rel_parse_Rel_r3:List AStep := [⟨some 10,.mov (.tmp 8),none⟩,⟨some 5,.mov (.tmp 10),none⟩]
def slices_IndexFunc_parse_Rel_parse_Rel_r4:List AStep := [⟨some 11,.mov (.tmp 1),none⟩,⟨some 12,.mov (.tmp 0),none⟩,⟨some 13,.mov (.tmp 5),none⟩,⟨some 14,.indexAddr 6 (.tmp 12) (.tmp 13),none⟩,⟨some 15,.load true 6 (.tmp 14),none⟩,⟨some 16,.call (.tmp 11) [(.tmp 15)],none⟩]
def slices_IndexFunc_parse_Rel_parse_Rel_r5:List AStep := [⟨some 17,.mov (.tmp 5),none⟩,⟨some 4,.mov (.tmp 17),none⟩]
def slices_IndexFunc_parse_Rel_parse_Rel_r6:List AStep := [⟨some 18,.bin .add (.tmp 8) (.con (.int .i64 1)),none⟩,⟨some 8,.mov (.tmp 18),none⟩]
def slices_IndexFunc_parse_Rel_parse_Rel_l7:ACode:=(.seq (.ops slices_IndexFunc_parse_Rel_parse_Rel_r2) (.seq (.cond (.tmp 9) .skip (.exit 0)) (.seq (.block 1 (.seq (.ops slices_IndexFunc_parse_Rel_parse_Rel_r3) (.seq (.ops slices_IndexFunc_parse_Rel_parse_Rel_r4) (.cond (.tmp 16) (.seq (.ops slices_IndexFunc_parse_Rel_parse_Rel_r5) .ret) .skip)))) (.ops slices_IndexFunc_parse_Rel_parse_Rel_r6))))
def slices_IndexFunc_parse_Rel_parse_Rel_r8:List AStep := [⟨some 4,.mov (.con (.int .i64 (-1))),none⟩]
def slices_IndexFunc_parse_Rel_parse_Rel_c:ACode:=(.seq (.ops slices_IndexFunc_parse_Rel_parse_Rel_r0) (.seq (.seq (.ops slices_IndexFunc_parse_Rel_parse_Rel_r1) (.block 0 (.loop slices_IndexFunc_parse_Rel_parse_Rel_l7))) (.seq (.ops slices_IndexFunc_parse_Rel_parse_Rel_r8) .ret)))
def slices_IndexFunc_parse_Rel_parse_Rel_a:AFunc:=⟨19,[(.tmp 4)],slices_IndexFunc_parse_Rel_parse_Rel_c⟩
/-! slices_Index_parse_Sub_parse_Sub -/
def slices_Index_parse_Sub_parse_Sub_r0:List AStep := [⟨some 3,.box (.tmp 1),none⟩,⟨some 4,.mov (.con (.int .i64 0)),none⟩]
def slices_Index_parse_Sub_parse_Sub_r1:List AStep := [⟨some 6,.mov (.tmp 0),none⟩,⟨some 7,.len (.tmp 6),none⟩,⟨some 8,.mov (.con (.int .i64 0)),none⟩]
def slices_Index_parse_Sub_parse_Sub_r2:List AStep := [⟨some 9,.bin .lss (.tmp 8) (.tmp 7),none⟩]
def slices_Index_parse_Sub_parse_Sub_r3:List AStep := [⟨some 10,.mov (.tmp 8),none⟩,⟨some 5,.mov (.tmp 10),none⟩]
def slices_Index_parse_Sub_parse_Sub_r4:List DStep := [⟨0,0,⟨(some 11),(.load true 2 (.tmp 3)),none⟩⟩,⟨1,0,⟨(some 12),(.mov (.tmp 0)),none⟩⟩,⟨2,0,⟨(some 13),(.mov (.tmp 5)),none⟩⟩,⟨3,6,⟨(some 14),(.indexAddr 2 (.tmp 12) (.tmp 13)),none⟩⟩,⟨4,14,⟨(some 15),(.load true 2 (.tmp 14)),none⟩⟩,⟨5,31,⟨(some 16),(.eq (.flatK [.s,.s]) false (.tmp 11) (.tmp 15)),none⟩⟩]
def slices_Index_parse_Sub_parse_Sub_r5:List AStep := [⟨some 17,.mov (.tmp 5),none⟩,⟨some 4,.mov (.tmp 17),none⟩]
def slices_Index_parse_Sub_parse_Sub_r6:List AStep := [⟨some 18,.bin .add (.tmp 8) (.con (.int .i64 1)),none⟩,⟨some 8,.mov (.tmp 18),none⟩]
def slices_Index_parse_Sub_parse_Sub_l7:ACode:=(.seq (.ops slices_Index_parse_Sub_parse_Sub_r2) (.seq (.cond (.tmp 9) .skip (.exit 0)) (.seq (.block 1 (.seq (.ops slices_Index_parse_Sub_parse_Sub_r3) (.seq (.draw slices_Index_parse_Sub_parse_Sub_r4) (.cond (.tmp 16) (.seq (.ops slices_Index_parse_Sub_parse_Sub_r5) .ret) .skip)))) (.ops slices_Index_parse_Sub_parse_Sub_r6))))
def slices_Index_parse_Sub_parse_Sub_r8:List AStep := [⟨some 4,.mov (.con (.int .i64 (-1))),none⟩]
def slices_Index_parse_Sub_parse_Sub_c:ACode:=(.seq (.ops slices_Index_parse_Sub_parse_Sub_r0) (.seq (.seq (.ops slices_Index_parse_Sub_parse_Sub_r1) (.block 0 (.loop slices_Index_parse_Sub_parse_Sub_l7))) (.seq (.ops slices_Index_parse_Sub_parse_Sub_r8) .ret)))
def slices_Index_parse_Sub_parse_Sub_a:AFunc:=⟨19,[(.tmp 4)],slices_Index_parse_Sub_parse_Sub_c⟩
/-! check_Find_1 -/
def check_Find_1_r0:List AStep := [⟨some 2,.box (.tmp 0),none⟩,⟨some 3,.mov (.con (.bool false)),none⟩]
def check_Find_1_r1:List AStep := [⟨some 4,.fieldAddr 0 (.tmp 2),none⟩,⟨some 5,.load false 1 (.tmp 4),none⟩,⟨some 6,.load false 1 (.tmp 1),none⟩,⟨some 7,.bin .eql (.tmp 5) (.tmp 6),none⟩,⟨some 3,.mov (.tmp 7),none⟩]
def check_Find_1_c:ACode:=(.seq (.ops check_Find_1_r0) (.seq (.ops check_Find_1_r1) .ret))
def check_Find_1_a:AFunc:=⟨8,[(.tmp 3)],check_Find_1_c⟩
/-! slices_ContainsFunc_parse_Sub_parse_Sub -/
def slices_ContainsFunc_parse_Sub_parse_Sub_r0:List AStep := [⟨some 4,.mov (.con (.bool false)),none⟩]
def slices_ContainsFunc_parse_Sub_parse_Sub_r1:List AStep := [⟨some 5,.mov (.tmp 0),none⟩,⟨some 6,.mov (.tmp 1),none⟩,⟨some 7,.call (.con (.func n_slices_IndexFunc_parse_Sub_parse_Sub [])) [(.tmp 5),(.tmp 6)],none⟩,⟨some 8,.bin .geq (.tmp 7) (.con (.int .i64 0)),none⟩,⟨some 4,.mov (.tmp 8),none⟩]
def slices_ContainsFunc_parse_Sub_parse_Sub_c:ACode:=(.seq (.ops slices_ContainsFunc_parse_Sub_parse_Sub_r0) (.seq (.ops slices_ContainsFunc_parse_Sub_parse_Sub_r1) .ret))
def slices_ContainsFunc_parse_Sub_parse_Sub_a:AFunc:=⟨9,[(.tmp 4)],slices_ContainsFunc_parse_Sub_parse_Sub_c⟩
/-! check_leads_1 -/
def check_leads_1_r0:List AStep := [⟨some 3,.box (.tmp 0),none⟩,⟨some 4,.mov (.con (.bool false)),none⟩]
def check_leads_1_r1:List AStep := [⟨some 8,.load true 1 (.tmp 1),none⟩,⟨some 9,.fieldAddr 0 (.tmp 3),none⟩,⟨some 10,.load false 1 (.tmp 9),none⟩,⟨some 11,.call (.con (.func n_check_kind [])) [(.tmp 8),(.tmp 10)],none⟩,⟨some 7,.mov (.tmp 11),none⟩,⟨some 12,.extract (.tmp 7) 0,none⟩,⟨some 13,.extract (.tmp 7) 1,none⟩,⟨some 5,.alloc [(.str []),.nils],none⟩,⟨none,.store 2 (.tmp 5) (.tmp 12),none⟩,⟨some 6,.mov (.tmp 13),none⟩]
def check_leads_1_r2:List AStep := [⟨some 14,.fieldAddr 1 (.tmp 3),none⟩,⟨some 15,.load false 1 (.tmp 14),none⟩,⟨some 16,.bin .eql (.tmp 15) (.con (.str [])),none⟩,⟨some 17,.mov (.tmp 16),none⟩,⟨some 18,.load true 2 (.tmp 5),(some (17,true))⟩,⟨some 19,.load false 1 (.tmp 2),(some (17,true))⟩,⟨some 20,.call (.con (.func n_check_has [])) [(.tmp 18),(.tmp 19)],(some (17,true))⟩,⟨some 21,.pick (.tmp 17) (.tmp 20) (.con (.bool false)),none⟩,⟨some 4,.mov (.tmp 21),none⟩]
def check_leads_1_c:ACode:=(.seq (.ops check_leads_1_r0) (.seq (.ops check_leads_1_r1) (.seq (.ops check_leads_1_r2) .ret)))
def check_leads_1_a:AFunc:=⟨22,[(.tmp 4)],check_leads_1_c⟩
/-! cmp_isNaN_int -/
def cmp_isNaN_int_r0:List AStep := [⟨some 2,.mov (.con (.bool false)),none⟩]
def cmp_isNaN_int_r1:List AStep := [⟨some 3,.mov (.tmp 0),none⟩,⟨some 4,.mov (.tmp 0),none⟩,⟨some 5,.bin .neq (.tmp 3) (.tmp 4),none⟩,⟨some 2,.mov (.tmp 5),none⟩]
def cmp_isNaN_int_c:ACode:=(.seq (.ops cmp_isNaN_int_r0) (.seq (.ops cmp_isNaN_int_r1) .ret))
def cmp_isNaN_int_a:AFunc:=⟨6,[(.tmp 2)],cmp_isNaN_int_c⟩
/-! stringslite_HasPrefix -/
def stringslite_HasPrefix_r0:List AStep := [⟨some 4,.mov (.con (.bool false)),none⟩]
def stringslite_HasPrefix_r1:List AStep := [⟨some 5,.mov (.tmp 0),none⟩,⟨some 6,.lenT (.tmp 5),none⟩,⟨some 7,.mov (.tmp 1),none⟩,⟨some 8,.lenT (.tmp 7),none⟩,⟨some 9,.bin .geq (.tmp 6) (.tmp 8),none⟩,⟨some 10,.mov (.tmp 9),none⟩,⟨some 11,.mov (.tmp 0),(some (10,true))⟩,⟨some 12,.mov (.tmp 1),(some (10,true))⟩,⟨some 13,.lenT (.tmp 12),(some (10,true))⟩,⟨some 14,.sliceT (.tmp 11) none (some (.tmp 13)),(some (10,true))⟩,⟨some 15,.mov (.tmp 1),(some (10,true))⟩,⟨some 16,.bin .eql (.tmp 14) (.tmp 15),(some (10,true))⟩,⟨some 17,.pick (.tmp 10) (.tmp 16) (.con (.bool false)),none⟩,⟨some 4,.mov (.tmp 17),none⟩]
def stringslite_HasPrefix_c:ACode:=(.seq (.ops stringslite_HasPrefix_r0) (.seq (.ops stringslite_HasPrefix_r1) .ret))
def stringslite_HasPrefix_a:AFunc:=⟨18,[(.tmp 4)],stringslite_HasPrefix_c⟩
/-! stringslite_Cut -/
def stringslite_Cut_r0:List AStep := [⟨some 4,.mov (.con (.str [])),none⟩,⟨some 5,.mov (.con (.str [])),none⟩,⟨some 6,.mov (.con (.bool false)),none⟩]
def stringslite_Cut_r1:List AStep := [⟨some 8,.mov (.tmp 0),none⟩,⟨some 9,.mov (.tmp 1),none⟩,⟨some 10,.call (.con (.func n_stringslite_Index [])) [(.tmp 8),(.tmp 9)],none⟩,⟨some 7,.mov (.tmp 10),none⟩]
def stringslite_Cut_r2:List AStep := [⟨some 11,.mov (.tmp 7),none⟩,⟨some 12,.bin .geq (.tmp 11) (.con (.int .i64 0)),none⟩]
def stringslite_Cut_r3:List DStep := [⟨0,0,⟨(some 13),(.mov (.tmp 0)),none⟩⟩,⟨1,0,⟨(some 14),(.mov (.tmp 7)),none⟩⟩,⟨2,3,⟨(some 15),(.sliceT (.tmp 13) none (some (.tmp 14))),none⟩⟩,⟨3,0,⟨(some 16),(.mov (.tmp 0)),none⟩⟩,⟨4,0,⟨(some 17),(.mov (.tmp 7)),none⟩⟩,⟨5,0,⟨(some 18),(.mov (.tmp 1)),none⟩⟩,⟨6,32,⟨(some 19),(.lenT (.tmp 18)),none⟩⟩,⟨7,112,⟨(some 20),(.bin .add (.tmp 17) (.tmp 19)),none⟩⟩,⟨8,248,⟨(some 21),(.sliceT (.tmp 16) (some (.tmp 20)) none),none⟩⟩,⟨9,7,⟨(some 4),(.mov (.tmp 15)),none⟩⟩,⟨10,1023,⟨(some 5),(.mov (.tmp 21)),none⟩⟩,⟨11,2047,⟨(some 6),(.mov (.con (.bool true))),none⟩⟩]
def stringslite_Cut_r4:List AStep := [⟨some 22,.mov (.tmp 0),none⟩,⟨some 4,.mov (.tmp 22),none⟩,⟨some 5,.mov (.con (.str [])),none⟩,⟨some 6,.mov (.con (.bool false)),none⟩]
def stringslite_Cut_c:ACode:=(.seq (.ops stringslite_Cut_r0) (.seq (.seq (.ops stringslite_Cut_r1) (.seq (.ops stringslite_Cut_r2) (.cond (.tmp 12) (.seq (.draw stringslite_Cut_r3) .ret) .skip))) (.seq (.ops stringslite_Cut_r4) .ret)))
def stringslite_Cut_a:AFunc:=⟨23,[(.tmp 4),(.tmp 5),(.tmp 6)],stringslite_Cut_c⟩
/-! glyph_Count -/
def glyph_Count_r0:List AStep := [⟨some 2,.mov (.con (.int .i64 0)),none⟩]
def glyph_Count_r1:List AStep := [⟨some 3,.mov (.con (.int .i64 0)),none⟩]
def glyph_Count_r2:List AStep := [⟨some 4,.mov (.tmp 0),none⟩,⟨some 5,.rangeT (.tmp 4),none⟩]
def glyph_Count_r3:List AStep := [⟨some 6,.nextT (.tmp 5),none⟩,⟨some 7,.extract (.tmp 6) 0,none⟩]
def glyph_Count_r4:List AStep := [⟨some 8,.mov (.tmp 3),none⟩,⟨some 9,.bin .add (.tmp 8) (.con (.int .i64 1)),none⟩,⟨some 3,.mov (.tmp 9),none⟩]
def glyph_Count_l5:ACode:=(.seq (.ops glyph_Count_r3) (.seq (.cond (.tmp 7) .skip (.exit 0)) (.block 1 (.ops glyph_Count_r4))))
def glyph_Count_r6:List AStep := [⟨some 10,.mov (.tmp 3),none⟩,⟨some 2,.mov (.tmp 10),none⟩]
def glyph_Count_c:ACode:=(.seq (.ops glyph_Count_r0) (.seq (.ops glyph_Count_r1) (.seq (.seq (.ops glyph_Count_r2) (.block 0 (.loop glyph_Count_l5))) (.seq (.ops glyph_Count_r6) .ret))))
def glyph_Count_a:AFunc:=⟨11,[(.tmp 2)],glyph_Count_c⟩
/-! slices_Contains_string_string -/
def slices_Contains_string_string_r0:List AStep := [⟨some 4,.mov (.con (.bool false)),none⟩]
def slices_Contains_string_string_r1:List AStep := [⟨some 5,.mov (.tmp 0),none⟩,⟨some 6,.mov (.tmp 1),none⟩,⟨some 7,.call (.con (.func n_slices_Index_string_string [])) [(.tmp 5),(.tmp 6)],none⟩,⟨some 8,.bin .geq (.tmp 7) (.con (.int .i64 0)),none⟩,⟨some 4,.mov (.tmp 8),none⟩]
def slices_Contains_string_string_c:ACode:=(.seq (.ops slices_Contains_string_string_r0) (.seq (.ops slices_Contains_string_string_r1) .ret))
def slices_Contains_string_string_a:AFunc:=⟨9,[(.tmp 4)],slices_Contains_string_string_c⟩
/-! parse_reader_part -/
def parse_reader_part_r0:List AStep := [⟨some 2,.mov (.con .nils),none⟩]
def parse_reader_part_r1:List AStep := [⟨some 6,.mov (.tmp 0),none⟩,⟨some 7,.call (.con (.func n_parse_reader_pass [])) [(.tmp 6),(.con (.str [116,104,105,115]))],none⟩,⟨some 5,.mov (.tmp 7),none⟩]
def parse_reader_part_r2:List AStep := [⟨some 8,.build [(.int .i64 0),(.str []),(.str [])] [(0,(1,(.con (.int .i64 1))))],none⟩,⟨some 9,.buildSlice 3 1 [(.int .i64 0),(.str []),(.str [])] [(0,(3,(.tmp 8)))],none⟩,⟨some 2,.mov (.tmp 9),none⟩]
def parse_reader_part_r3:List AStep := [⟨some 11,.mov (.tmp 0),none⟩,⟨some 12,.call (.con (.func n_parse_reader_is [])) [(.tmp 11),(.con (.str [40]))],none⟩,⟨some 10,.mov (.tmp 12),none⟩]
def parse_reader_part_r4:List AStep := [⟨some 13,.mov (.tmp 0),none⟩,⟨some 14,.nilCheck (.tmp 13),none⟩,⟨some 15,.fieldAddr 1 (.tmp 14),none⟩,⟨some 16,.load false 1 (.tmp 15),none⟩,⟨some 17,.bin .eql (.tmp 16) (.con (.int .i64 8)),none⟩]
def parse_reader_part_r5:List AStep := [⟨some 18,.mov (.tmp 0),none⟩,⟨some 19,.call (.con (.func n_parse_reader_fail [])) [(.tmp 18),(.con (.int .i64 13))],none⟩]
def parse_reader_part_r6:List AStep := [⟨some 20,.mov (.tmp 0),none⟩,⟨some 21,.call (.con (.func n_parse_reader_need [])) [(.tmp 20),(.con (.str [40]))],none⟩]
def parse_reader_part_r7:List AStep := [⟨some 22,.mov (.tmp 0),none⟩,⟨some 23,.nilCheck (.tmp 22),none⟩,⟨some 24,.fieldAddr 1 (.tmp 23),none⟩,⟨some 25,.load false 1 (.tmp 24),none⟩,⟨some 26,.bin .add (.tmp 25) (.con (.int .i64 1)),none⟩,⟨some 27,.nilCheck (.tmp 22),none⟩,⟨some 28,.fieldAddr 1 (.tmp 27),none⟩,⟨none,.store 1 (.tmp 28) (.tmp 26),none⟩]
def parse_reader_part_r8:List AStep := [⟨some 29,.mov (.tmp 0),none⟩,⟨some 30,.call (.con (.func n_parse_reader_rewrite [])) [(.tmp 29)],none⟩,⟨some 3,.mov (.tmp 30),none⟩]
def parse_reader_part_r9:List AStep := [⟨some 31,.mov (.tmp 0),none⟩,⟨some 32,.call (.con (.func n_parse_reader_need [])) [(.tmp 31),(.con (.str [41]))],none⟩]
def parse_reader_part_r10:List AStep := [⟨some 33,.mov (.tmp 0),none⟩,⟨some 34,.nilCheck (.tmp 33),none⟩,⟨some 35,.fieldAddr 1 (.tmp 34),none⟩,⟨some 36,.load false 1 (.tmp 35),none⟩,⟨some 37,.bin .sub (.tmp 36) (.con (.int .i64 1)),none⟩,⟨some 38,.nilCheck (.tmp 33),none⟩,⟨some 39,.fieldAddr 1 (.tmp 38),none⟩,⟨none,.store 1 (.tmp 39) (.tmp 37),none⟩]
def parse_reader_part_r11:List AStep := [⟨some 40,.mov (.tmp 3),none⟩,⟨some 2,.mov (.tmp 40),none⟩]
def parse_reader_part_r12:List AStep := [⟨some 41,.mov (.tmp 0),none⟩,⟨some 42,.call (.con (.func n_parse_reader_name [])) [(.tmp 41)],none⟩,⟨some 43,.build [(.int .i64 0),(.str []),(.str [])] [(0,(1,(.con (.int .i64 2)))),(1,(1,(.tmp 42)))],none⟩,⟨some 4,.alloc [(.int .i64 0),(.str []),(.str [])],none⟩,⟨none,.store 3 (.tmp 4) (.tmp 43),none⟩]
def parse_reader_part_r13:List AStep := [⟨some 44,.mov (.tmp 0),none⟩,⟨some 45,.call (.con (.func n_parse_reader_pass [])) [(.tmp 44),(.con (.str [46]))],none⟩]
def parse_reader_part_r14:List AStep := [⟨some 46,.fieldAddr 0 (.tmp 4),none⟩,⟨none,.store 1 (.tmp 46) (.con (.int .i64 3)),none⟩]
def parse_reader_part_r15:List AStep := [⟨some 47,.mov (.tmp 0),none⟩,⟨some 48,.call (.con (.func n_parse_reader_name [])) [(.tmp 47)],none⟩,⟨some 49,.fieldAddr 2 (.tmp 4),none⟩,⟨none,.store 1 (.tmp 49) (.tmp 48),none⟩]
def parse_reader_part_r16:List AStep := [⟨some 50,.load true 3 (.tmp 4),none⟩,⟨some 51,.buildSlice 3 1 [(.int .i64 0),(.str []),(.str [])] [(0,(3,(.tmp 50)))],none⟩,⟨some 2,.mov (.tmp 51),none⟩]
def parse_reader_part_c:ACode:=(.seq (.ops parse_reader_part_r0) (.seq (.block 0 (.seq (.ops parse_reader_part_r1) (.cond (.tmp 5) (.seq (.ops parse_reader_part_r2) .ret) (.seq (.ops parse_reader_part_r3) (.cond (.tmp 10) (.seq (.seq (.ops parse_reader_part_r4) (.cond (.tmp 17) (.ops parse_reader_part_r5) .skip)) (.seq (.ops parse_reader_part_r6) (.seq (.ops parse_reader_part_r7) (.seq (.ops parse_reader_part_r8) (.seq (.ops parse_reader_part_r9) (.seq (.ops parse_reader_part_r10) (.seq (.ops parse_reader_part_r11) .ret))))))) .skip))))) (.seq (.ops parse_reader_part_r12) (.seq (.seq (.ops parse_reader_part_r13) (.cond (.tmp 45) (.seq (.ops parse_reader_part_r14) (.ops parse_reader_part_r15)) .skip)) (.seq (.ops parse_reader_part_r16) .ret)))))
def parse_reader_part_a:AFunc:=⟨52,[(.tmp 2)],parse_reader_part_c⟩
/-! parse_reader_sign -/
def parse_reader_sign_r0:List AStep := [⟨some 2,.mov (.con (.int .i64 0)),none⟩]
def parse_reader_sign_r1:List AStep := [⟨(some 5),.makeMap,none⟩,⟨none,.mapPut .str (.tmp 5) (.con (.str [124])) (.con (.int .i64 4)),none⟩,⟨none,.mapPut .str (.tmp 5) (.con (.str [38])) (.con (.int .i64 5)),none⟩,⟨none,.mapPut .str (.tmp 5) (.con (.str [45])) (.con (.int .i64 6)),none⟩,⟨some 6,.mov (.tmp 5),none⟩,⟨some 7,.rangeM (.tmp 6),none⟩]
def parse_reader_sign_r2:List AStep := [⟨some 8,.nextM (.tmp 7),none⟩,⟨some 9,.extract (.tmp 8) 0,none⟩]
def parse_reader_sign_r3:List AStep := [⟨some 10,.entryM (.tmp 7),none⟩,⟨some 11,.extract (.tmp 10) 0,none⟩,⟨some 12,.extract (.tmp 10) 1,none⟩,⟨some 3,.mov (.tmp 11),none⟩,⟨some 4,.mov (.tmp 12),none⟩]
def parse_reader_sign_r4:List AStep := [⟨some 13,.mov (.tmp 0),none⟩,⟨some 14,.mov (.tmp 3),none⟩,⟨some 15,.call (.con (.func n_parse_reader_pass [])) [(.tmp 13),(.tmp 14)],none⟩]
def parse_reader_sign_r5:List AStep := [⟨some 16,.mov (.tmp 4),none⟩,⟨some 2,.mov (.tmp 16),none⟩]
def parse_reader_sign_l6:ACode:=(.seq (.ops parse_reader_sign_r2) (.seq (.cond (.tmp 9) .skip (.exit 0)) (.block 1 (.seq (.ops parse_reader_sign_r3) (.seq (.ops parse_reader_sign_r4) (.cond (.tmp 15) (.seq (.ops parse_reader_sign_r5) .ret) .skip))))))
def parse_reader_sign_r7:List AStep := [⟨some 2,.mov (.con (.int .i64 0)),none⟩]
def parse_reader_sign_c:ACode:=(.seq (.ops parse_reader_sign_r0) (.seq (.seq (.ops parse_reader_sign_r1) (.block 0 (.loop parse_reader_sign_l6))) (.seq (.ops parse_reader_sign_r7) .ret)))
def parse_reader_sign_a:AFunc:=⟨17,[(.tmp 2)],parse_reader_sign_c⟩
/-! slices_IndexFunc_parse_Sub_parse_Sub -/
def slices_IndexFunc_parse_Sub_parse_Sub_r0:List AStep := [⟨some 4,.mov (.con (.int .i64 0)),none⟩]
def slices_IndexFunc_parse_Sub_parse_Sub_r1:List AStep := [⟨some 6,.mov (.tmp 0),none⟩,⟨some 7,.len (.tmp 6),none⟩,⟨some 8,.mov (.con (.int .i64 0)),none⟩]
def slices_IndexFunc_parse_Sub_parse_Sub_r2:List AStep := [⟨some 9,.bin .lss (.tmp 8) (.tmp 7),none⟩]
def slices_IndexFunc_parse_Sub_parse_Sub_r3:List AStep := [⟨some 10,.mov (.tmp 8),none⟩,⟨some 5,.mov (.tmp 10),none⟩]
def slices_IndexFunc_parse_Sub_parse_Sub_r4:List AStep := [⟨some 11,.mov (.tmp 1),none⟩,⟨some 12,.mov (.tmp 0),none⟩,⟨some 13,.mov (.tmp 5),none⟩,⟨some 14,.indexAddr 2 (.tmp 12) (.tmp 13),none⟩,⟨some 15,.load true 2 (.tmp 14),none⟩,⟨some 16,.call (.tmp 11) [(.tmp 15)],none⟩]
def slices_IndexFunc_parse_Sub_parse_Sub_r5:List AStep := [⟨some 17,.mov (.tmp 5),none⟩,⟨some 4,.mov (.tmp 17),none⟩]
def slices_IndexFunc_parse_Sub_parse_Sub_r6:List AStep := [⟨some 18,.bin .add (.tmp 8) (.con (.int .i64 1)),none⟩,⟨some 8,.mov (.tmp 18),none⟩]
def slices_IndexFunc_parse_Sub_parse_Sub_l7:ACode:=(.seq (.ops slices_IndexFunc_parse_Sub_parse_Sub_r2) (.seq (.cond (.tmp 9) .skip (.exit 0)) (.seq (.block 1 (.seq (.ops slices_IndexFunc_parse_Sub_parse_Sub_r3) (.seq (.ops slices_IndexFunc_parse_Sub_parse_Sub_r4) (.cond (.tmp 16) (.seq (.ops slices_IndexFunc_parse_Sub_parse_Sub_r5) .ret) .skip)))) (.ops slices_IndexFunc_parse_Sub_parse_Sub_r6))))
def slices_IndexFunc_parse_Sub_parse_Sub_r8:List AStep := [⟨some 4,.mov (.con (.int .i64 (-1))),none⟩]
def slices_IndexFunc_parse_Sub_parse_Sub_c:ACode:=(.seq (.ops slices_IndexFunc_parse_Sub_parse_Sub_r0) (.seq (.seq (.ops slices_IndexFunc_parse_Sub_parse_Sub_r1) (.block 0 (.loop slices_IndexFunc_parse_Sub_parse_Sub_l7))) (.seq (.ops slices_IndexFunc_parse_Sub_parse_Sub_r8) .ret)))
def slices_IndexFunc_parse_Sub_parse_Sub_a:AFunc:=⟨19,[(.tmp 4)],slices_IndexFunc_parse_Sub_parse_Sub_c⟩
/-! stringslite_Index -/
def stringslite_Index_r0:List AStep := [⟨some 4,.mov (.con (.int .i64 0)),none⟩]
def stringslite_Index_r1:List AStep := [⟨some 14,.mov (.tmp 1),none⟩,⟨some 15,.lenT (.tmp 14),none⟩,⟨some 5,.mov (.tmp 15),none⟩]
def stringslite_Index_r2:List AStep := [⟨some 17,.mov (.tmp 5),none⟩,⟨some 18,.bin .eql (.tmp 17) (.con (.int .i64 0)),none⟩,⟨some 19,.mov (.tmp 18),none⟩,⟨some 20,.mov (.tmp 1),(some (19,false))⟩,⟨some 21,.mov (.tmp 0),(some (19,false))⟩,⟨some 22,.bin .eql (.tmp 20) (.tmp 21),(some (19,false))⟩,⟨some 23,.pick (.tmp 19) (.con (.bool true)) (.tmp 22),none⟩,⟨some 16,.mov (.tmp 23),none⟩]
def stringslite_Index_r3:List AStep := [⟨some 4,.mov (.con (.int .i64 0)),none⟩]
def stringslite_Index_r4:List AStep := [⟨some 25,.mov (.tmp 5),none⟩,⟨some 26,.bin .eql (.tmp 25) (.con (.int .i64 1)),none⟩,⟨some 24,.mov (.tmp 26),none⟩]
def stringslite_Index_r5:List AStep := [⟨some 27,.mov (.tmp 0),none⟩,⟨some 28,.mov (.tmp 1),none⟩,⟨some 29,.indexStr (.tmp 28) (.con (.int .i64 0)),none⟩,⟨some 30,.call (.con (.func n_stringslite_IndexByte [])) [(.tmp 27),(.tmp 29)],none⟩,⟨some 4,.mov (.tmp 30),none⟩]
def stringslite_Index_r6:List AStep := [⟨some 32,.mov (.tmp 5),none⟩,⟨some 33,.mov (.tmp 0),none⟩,⟨some 34,.lenT (.tmp 33),none⟩,⟨some 35,.bin .geq (.tmp 32) (.tmp 34),none⟩,⟨some 31,.mov (.tmp 35),none⟩]
def stringslite_Index_r7:List AStep := [⟨some 4,.mov (.con (.int .i64 (-1))),none⟩]
def stringslite_Index_r8:List AStep := [⟨some 37,.mov (.tmp 5),none⟩,⟨some 38,.load false 1 (.con (.gptr g_bytealg_MaxLen)),none⟩,⟨some 39,.bin .leq (.tmp 37) (.tmp 38),none⟩,⟨some 40,.mov (.tmp 39),none⟩,⟨some 41,.mov (.tmp 0),(some (40,true))⟩,⟨some 42,.lenT (.tmp 41),(some (40,true))⟩,⟨some 43,.bin .leq (.tmp 42) (.con (.int .i64 64)),(some (40,true))⟩,⟨some 44,.pick (.tmp 40) (.tmp 43) (.con (.bool false)),none⟩,⟨some 36,.mov (.tmp 44),none⟩]
def stringslite_Index_r9:List AStep := [⟨some 45,.mov (.tmp 0),none⟩,⟨some 46,.mov (.tmp 1),none⟩,⟨some 47,.call (.con (.func n_bytealg_IndexString [])) [(.tmp 45),(.tmp 46)],none⟩,⟨some 4,.mov (.tmp 47),none⟩]
def stringslite_Index_r10:List AStep := [⟨some 48,.mov (.tmp 1),none⟩,⟨some 49,.indexStr (.tmp 48) (.con (.int .i64 0)),none⟩,⟨some 6,.mov (.tmp 49),none⟩]
def stringslite_Index_r11:List AStep := [⟨some 50,.mov (.tmp 1),none⟩,⟨some 51,.indexStr (.tmp 50) (.con (.int .i64 1)),none⟩,⟨some 7,.mov (.tmp 51),none⟩]
def stringslite_Index_r12:List AStep := [⟨some 8,.mov (.con (.int .i64 0)),none⟩]
def stringslite_Index_r13:List AStep := [⟨some 52,.mov (.tmp 0),none⟩,⟨some 53,.lenT (.tmp 52),none⟩,⟨some 54,.mov (.tmp 5),none⟩,⟨some 55,.bin .sub (.tmp 53) (.tmp 54),none⟩,⟨some 56,.bin .add (.tmp 55) (.con (.int .i64 1)),none⟩,⟨some 9,.mov (.tmp 56),none⟩]
def stringslite_Index_r14:List AStep := [⟨some 10,.mov (.con (.int .i64 0)),none⟩]
def stringslite_Index_r15:List AStep := [⟨some 57,.mov (.tmp 8),none⟩,⟨some 58,.mov (.tmp 9),none⟩,⟨some 59,.bin .lss (.tmp 57) (.tmp 58),none⟩]
def stringslite_Index_r16:List AStep := [⟨some 60,.mov (.tmp 0),none⟩,⟨some 61,.mov (.tmp 8),none⟩,⟨some 62,.indexStr (.tmp 60) (.tmp 61),none⟩,⟨some 63,.mov (.tmp 6),none⟩,⟨some 64,.bin .neq (.tmp 62) (.tmp 63),none⟩]
def stringslite_Index_r17:List AStep := [⟨some 65,.mov (.tmp 0),none⟩,⟨some 66,.mov (.tmp 8),none⟩,⟨some 67,.bin .add (.tmp 66) (.con (.int .i64 1)),none⟩,⟨some 68,.mov (.tmp 9),none⟩,⟨some 69,.sliceT (.tmp 65) (some (.tmp 67)) (some (.tmp 68)),none⟩,⟨some 70,.mov (.tmp 6),none⟩,⟨some 71,.call (.con (.func n_stringslite_IndexByte [])) [(.tmp 69),(.tmp 70)],none⟩,⟨some 11,.mov (.tmp 71),none⟩]
def stringslite_Index_r18:List AStep := [⟨some 72,.mov (.tmp 11),none⟩,⟨some 73,.bin .lss (.tmp 72) (.con (.int .i64 0)),none⟩]
def stringslite_Index_r19:List AStep := [⟨some 4,.mov (.con (.int .i64 (-1))),none⟩]
def stringslite_Index_r20:List AStep := [⟨some 74,.mov (.tmp 8),none⟩,⟨some 75,.mov (.tmp 11),none⟩,⟨some 76,.bin .add (.tmp 75) (.con (.int .i64 1)),none⟩,⟨some 77,.bin .add (.tmp 74) (.tmp 76),none⟩,⟨some 8,.mov (.tmp 77),none⟩]
def stringslite_Index_r21:List AStep := [⟨some 78,.mov (.tmp 0),none⟩,⟨some 79,.mov (.tmp 8),none⟩,⟨some 80,.bin .add (.tmp 79) (.con (.int .i64 1)),none⟩,⟨some 81,.indexStr (.tmp 78) (.tmp 80),none⟩,⟨some 82,.mov (.tmp 7),none⟩,⟨some 83,.bin .eql (.tmp 81) (.tmp 82),none⟩,⟨some 84,.mov (.tmp 83),none⟩,⟨some 85,.mov (.tmp 0),(some (84,true))⟩,⟨some 86,.mov (.tmp 8),(some (84,true))⟩,⟨some 87,.mov (.tmp 8),(some (84,true))⟩,⟨some 88,.mov (.tmp 5),(some (84,true))⟩,⟨some 89,.bin .add (.tmp 87) (.tmp 88),(some (84,true))⟩,⟨some 90,.sliceT (.tmp 85) (some (.tmp 86)) (some (.tmp 89)),(some (84,true))⟩,⟨some 91,.mov (.tmp 1),(some (84,true))⟩,⟨some 92,.bin .eql (.tmp 90) (.tmp 91),(some (84,true))⟩,⟨some 93,.pick (.tmp 84) (.tmp 92) (.con (.bool false)),none⟩]
def stringslite_Index_r22:List AStep := [⟨some 94,.mov (.tmp 8),none⟩,⟨some 4,.mov (.tmp 94),none⟩]
def stringslite_Index_r23:List AStep := [⟨some 95,.mov (.tmp 8),none⟩,⟨some 96,.bin .add (.tmp 95) (.con (.int .i64 1)),none⟩,⟨some 8,.mov (.tmp 96),none⟩]
def stringslite_Index_r24:List AStep := [⟨some 97,.mov (.tmp 10),none⟩,⟨some 98,.bin .add (.tmp 97) (.con (.int .i64 1)),none⟩,⟨some 10,.mov (.tmp 98),none⟩]
def stringslite_Index_r25:List AStep := [⟨some 99,.mov (.tmp 5),none⟩,⟨some 100,.load false 1 (.con (.gptr g_bytealg_MaxLen)),none⟩,⟨some 101,.bin .leq (.tmp 99) (.tmp 100),none⟩,⟨some 102,.mov (.tmp 101),none⟩,⟨some 103,.mov (.tmp 10),(some (102,true))⟩,⟨some 104,.mov (.tmp 8),(some (102,true))⟩,⟨some 105,.call (.con (.func n_bytealg_Cutover [])) [(.tmp 104)],(some (102,true))⟩,⟨some 106,.bin .gtr (.tmp 103) (.tmp 105),(some (102,true))⟩,⟨some 107,.pick (.tmp 102) (.tmp 106) (.con (.bool false)),none⟩]
def stringslite_Index_r26:List AStep := [⟨some 108,.mov (.tmp 0),none⟩,⟨some 109,.mov (.tmp 8),none⟩,⟨some 110,.sliceT (.tmp 108) (some (.tmp 109)) none,none⟩,⟨some 111,.mov (.tmp 1),none⟩,⟨some 112,.call (.con (.func n_bytealg_IndexString [])) [(.tmp 110),(.tmp 111)],none⟩,⟨some 12,.mov (.tmp 112),none⟩]
def stringslite_Index_r27:List AStep := [⟨some 113,.mov (.tmp 12),none⟩,⟨some 114,.bin .geq (.tmp 113) (.con (.int .i64 0)),none⟩]
def stringslite_Index_r28:List AStep := [⟨some 115,.mov (.tmp 12),none⟩,⟨some 116,.mov (.tmp 8),none⟩,⟨some 117,.bin .add (.tmp 115) (.tmp 116),none⟩,⟨some 4,.mov (.tmp 117),none⟩]
def stringslite_Index_r29:List AStep := [⟨some 4,.mov (.con (.int .i64 (-1))),none⟩]
def stringslite_Index_r30:List AStep := [⟨some 118,.mov (.tmp 5),none⟩,⟨some 119,.load false 1 (.con (.gptr g_bytealg_MaxLen)),none⟩,⟨some 120,.bin .gtr (.tmp 118) (.tmp 119),none⟩,⟨some 121,.mov (.tmp 120),none⟩,⟨some 122,.mov (.tmp 10),(some (121,true))⟩,⟨some 123,.mov (.tmp 8),(some (121,true))⟩,⟨some 124,.bin .shr (.tmp 123) (.con (.int .u64 4)),(some (121,true))⟩,⟨some 125,.bin .add (.con (.int .i64 4)) (.tmp 124),(some (121,true))⟩,⟨some 126,.bin .geq (.tmp 122) (.tmp 125),(some (121,true))⟩,⟨some 127,.pick (.tmp 121) (.tmp 126) (.con (.bool false)),none⟩,⟨some 128,.mov (.tmp 127),none⟩,⟨some 129,.mov (.tmp 8),(some (128,true))⟩,⟨some 130,.mov (.tmp 9),(some (128,true))⟩,⟨some 131,.bin .lss (.tmp 129) (.tmp 130),(some (128,true))⟩,⟨some 132,.pick (.tmp 128) (.tmp 131) (.con (.bool false)),none⟩]
def stringslite_Index_r31:List AStep := [⟨some 133,.mov (.tmp 0),none⟩,⟨some 134,.mov (.tmp 8),none⟩,⟨some 135,.sliceT (.tmp 133) (some (.tmp 134)) none,none⟩,⟨some 136,.mov (.tmp 1),none⟩,⟨some 137,.call (.con (.func n_bytealg_IndexRabinKarp_string [])) [(.tmp 135),(.tmp 136)],none⟩,⟨some 13,.mov (.tmp 137),none⟩]
def stringslite_Index_r32:List AStep := [⟨some 138,.mov (.tmp 13),none⟩,⟨some 139,.bin .lss (.tmp 138) (.con (.int .i64 0)),none⟩]
def stringslite_Index_r33:List AStep := [⟨some 4,.mov (.con (.int .i64 (-1))),none⟩]
def stringslite_Index_r34:List AStep := [⟨some 140,.mov (.tmp 8),none⟩,⟨some 141,.mov (.tmp 13),none⟩,⟨some 142,.bin .add (.tmp 140) (.tmp 141),none⟩,⟨some 4,.mov (.tmp 142),none⟩]
def stringslite_Index_l35:ACode:=(.seq (.seq (.ops stringslite_Index_r15) (.cond (.tmp 59) .skip (.exit 1))) (.block 2 (.seq (.seq (.ops stringslite_Index_r16) (.cond (.tmp 64) (.seq (.ops stringslite_Index_r17) (.seq (.seq (.ops stringslite_Index_r18) (.cond (.tmp 73) (.seq (.ops stringslite_Index_r19) .ret) .skip)) (.ops stringslite_Index_r20))) .skip)) (.seq (.seq (.ops stringslite_Index_r21) (.cond (.tmp 93) (.seq (.ops stringslite_Index_r22) .ret) .skip)) (.seq (.ops stringslite_Index_r23) (.seq (.ops stringslite_Index_r24) (.seq (.ops stringslite_Index_r25) (.cond (.tmp 107) (.seq (.ops stringslite_Index_r26) (.seq (.seq (.ops stringslite_Index_r27) (.cond (.tmp 114) (.seq (.ops stringslite_Index_r28) .ret) .skip)) (.seq (.ops stringslite_Index_r29) .ret))) (.seq (.ops stringslite_Index_r30) (.cond (.tmp 132) (.seq (.ops stringslite_Index_r31) (.seq (.seq (.ops stringslite_Index_r32) (.cond (.tmp 139) (.seq (.ops stringslite_Index_r33) .ret) .skip)) (.seq (.ops stringslite_Index_r34) .ret))) .skip))))))))))
def stringslite_Index_r36:List AStep := [⟨some 4,.mov (.con (.int .i64 (-1))),none⟩]
def stringslite_Index_c:ACode:=(.seq (.ops stringslite_Index_r0) (.seq (.ops stringslite_Index_r1) (.seq (.block 0 (.seq (.ops stringslite_Index_r2) (.cond (.tmp 16) (.seq (.ops stringslite_Index_r3) .ret) (.seq (.ops stringslite_Index_r4) (.cond (.tmp 24) (.seq (.ops stringslite_Index_r5) .ret) (.seq (.ops stringslite_Index_r6) (.cond (.tmp 31) (.seq (.ops stringslite_Index_r7) .ret) (.seq (.ops stringslite_Index_r8) (.cond (.tmp 36) (.seq (.ops stringslite_Index_r9) .ret) .skip))))))))) (.seq (.ops stringslite_Index_r10) (.seq (.ops stringslite_Index_r11) (.seq (.ops stringslite_Index_r12) (.seq (.ops stringslite_Index_r13) (.seq (.ops stringslite_Index_r14) (.seq (.block 1 (.loop stringslite_Index_l35)) (.seq (.ops stringslite_Index_r36) .ret))))))))))
def stringslite_Index_a:AFunc:=⟨143,[(.tmp 4)],stringslite_Index_c⟩
/-! slices_Index_string_string -/
def slices_Index_string_string_r0:List AStep := [⟨some 4,.mov (.con (.int .i64 0)),none⟩]
def slices_Index_string_string_r1:List AStep := [⟨some 6,.mov (.tmp 0),none⟩,⟨some 7,.len (.tmp 6),none⟩,⟨some 8,.mov (.con (.int .i64 0)),none⟩]
def slices_Index_string_string_r2:List AStep := [⟨some 9,.bin .lss (.tmp 8) (.tmp 7),none⟩]
def slices_Index_string_string_r3:List AStep := [⟨some 10,.mov (.tmp 8),none⟩,⟨some 5,.mov (.tmp 10),none⟩]
def slices_Index_string_string_r4:List AStep := [⟨some 11,.mov (.tmp 1),none⟩,⟨some 12,.mov (.tmp 0),none⟩,⟨some 13,.mov (.tmp 5),none⟩,⟨some 14,.indexAddr 1 (.tmp 12) (.tmp 13),none⟩,⟨some 15,.load false 1 (.tmp 14),none⟩,⟨some 16,.bin .eql (.tmp 11) (.tmp 15),none⟩]
def slices_Index_string_string_r5:List AStep := [⟨some 17,.mov (.tmp 5),none⟩,⟨some 4,.mov (.tmp 17),none⟩]
def slices_Index_string_string_r6:List AStep := [⟨some 18,.bin .add (.tmp 8) (.con (.int .i64 1)),none⟩,⟨some 8,.mov (.tmp 18),none⟩]
def slices_Index_string_string_l7:ACode:=(.seq (.ops slices_Index_string_string_r2) (.seq (.cond (.tmp 9) .skip (.exit 0)) (.seq (.block 1 (.seq (.ops slices_Index_string_string_r3) (.seq (.ops slices_Index_string_string_r4) (.cond (.tmp 16) (.seq (.ops slices_Index_string_string_r5) .ret) .skip)))) (.ops slices_Index_string_string_r6))))
def slices_Index_string_string_r8:List AStep := [⟨some 4,.mov (.con (.int .i64 (-1))),none⟩]
def slices_Index_string_string_c:ACode:=(.seq (.ops slices_Index_string_string_r0) (.seq (.seq (.ops slices_Index_string_string_r1) (.block 0 (.loop slices_Index_string_string_l7))) (.seq (.ops slices_Index_string_string_r8) .ret)))
def slices_Index_string_string_a:AFunc:=⟨19,[(.tmp 4)],slices_Index_string_string_c⟩
/-! stringslite_IndexByte -/
def stringslite_IndexByte_r0:List AStep := [⟨some 4,.mov (.con (.int .i64 0)),none⟩]
def stringslite_IndexByte_r1:List AStep := [⟨some 5,.mov (.tmp 0),none⟩,⟨some 6,.mov (.tmp 1),none⟩,⟨some 7,.call (.con (.func n_bytealg_IndexByteString [])) [(.tmp 5),(.tmp 6)],none⟩,⟨some 4,.mov (.tmp 7),none⟩]
def stringslite_IndexByte_c:ACode:=(.seq (.ops stringslite_IndexByte_r0) (.seq (.ops stringslite_IndexByte_r1) .ret))
def stringslite_IndexByte_a:AFunc:=⟨8,[(.tmp 4)],stringslite_IndexByte_c⟩
set_option maxRecDepth 100000 in
theorem T_doormanlaw10_StrataRight:table PP n_doormanlaw10_StrataRight=some doormanlaw10_StrataRight_a:=by kernel_rfl
set_option maxRecDepth 100000 in
theorem D_parse_Parse:tableD PP n_parse_Parse=some parse_Parse_a:=by kernel_rfl
set_option maxRecDepth 100000 in
theorem T_check_Check:table PP n_check_Check=some check_Check_a:=by kernel_rfl
set_option maxRecDepth 100000 in
theorem T_strata_Edges:table PP n_strata_Edges=some strata_Edges_a:=by kernel_rfl
set_option maxRecDepth 100000 in
theorem T_strata_Levels:table PP n_strata_Levels=some strata_Levels_a:=by kernel_rfl
set_option maxRecDepth 100000 in
theorem T_token_All:table PP n_token_All=some token_All_a:=by kernel_rfl
set_option maxRecDepth 100000 in
theorem R_parse_Parse_1:tableR PP n_parse_Parse_1=some parse_Parse_1_a:=by kernel_rfl
set_option maxRecDepth 100000 in
theorem T_parse_reader_schema:table PP n_parse_reader_schema=some parse_reader_schema_a:=by kernel_rfl
set_option maxRecDepth 100000 in
theorem T_check_counts:table PP n_check_counts=some check_counts_a:=by kernel_rfl
set_option maxRecDepth 100000 in
theorem T_check_path:table PP n_check_path=some check_path_a:=by kernel_rfl
set_option maxRecDepth 100000 in
theorem T_check_has:table PP n_check_has=some check_has_a:=by kernel_rfl
set_option maxRecDepth 100000 in
theorem T_check_subs:table PP n_check_subs=some check_subs_a:=by kernel_rfl
set_option maxRecDepth 100000 in
theorem T_check_op:table PP n_check_op=some check_op_a:=by kernel_rfl
set_option maxRecDepth 100000 in
theorem T_strata_numbers:table PP n_strata_numbers=some strata_numbers_a:=by kernel_rfl
set_option maxRecDepth 100000 in
theorem T_strata_nots:table PP n_strata_nots=some strata_nots_a:=by kernel_rfl
set_option maxRecDepth 100000 in
theorem T_strata_to:table PP n_strata_to=some strata_to_a:=by kernel_rfl
set_option maxRecDepth 100000 in
theorem T_strata_compare:table PP n_strata_compare=some strata_compare_a:=by kernel_rfl
set_option maxRecDepth 100000 in
theorem T_slices_Compact_strata_Edge_strata_Edge:table PP n_slices_Compact_strata_Edge_strata_Edge=some slices_Compact_strata_Edge_strata_Edge_a:=by kernel_rfl
set_option maxRecDepth 100000 in
theorem T_strata_Levels_1:table PP n_strata_Levels_1=some strata_Levels_1_a:=by kernel_rfl
set_option maxRecDepth 100000 in
theorem T_slices_ContainsFunc_strata_Edge_strata_Edge:table PP n_slices_ContainsFunc_strata_Edge_strata_Edge=some slices_ContainsFunc_strata_Edge_strata_Edge_a:=by kernel_rfl
set_option maxRecDepth 100000 in
theorem T_token_broken:table PP n_token_broken=some token_broken_a:=by kernel_rfl
set_option maxRecDepth 100000 in
theorem T_token_reader_blank:table PP n_token_reader_blank=some token_reader_blank_a:=by kernel_rfl
set_option maxRecDepth 100000 in
theorem T_token_reader_note:table PP n_token_reader_note=some token_reader_note_a:=by kernel_rfl
set_option maxRecDepth 100000 in
theorem T_token_reader_sign:table PP n_token_reader_sign=some token_reader_sign_a:=by kernel_rfl
set_option maxRecDepth 100000 in
theorem T_token_reader_word:table PP n_token_reader_word=some token_reader_word_a:=by kernel_rfl
set_option maxRecDepth 100000 in
theorem T_token_reader_put:table PP n_token_reader_put=some token_reader_put_a:=by kernel_rfl
set_option maxRecDepth 100000 in
theorem T_parse_reader_pass:table PP n_parse_reader_pass=some parse_reader_pass_a:=by kernel_rfl
set_option maxRecDepth 100000 in
theorem T_parse_reader_name:table PP n_parse_reader_name=some parse_reader_name_a:=by kernel_rfl
set_option maxRecDepth 100000 in
theorem T_parse_reader_need:table PP n_parse_reader_need=some parse_reader_need_a:=by kernel_rfl
set_option maxRecDepth 100000 in
theorem T_parse_reader_rel:table PP n_parse_reader_rel=some parse_reader_rel_a:=by kernel_rfl
set_option maxRecDepth 100000 in
theorem T_parse_reader_fail:table PP n_parse_reader_fail=some parse_reader_fail_a:=by kernel_rfl
set_option maxRecDepth 100000 in
theorem T_check_kind:table PP n_check_kind=some check_kind_a:=by kernel_rfl
set_option maxRecDepth 100000 in
theorem T_slices_ContainsFunc_parse_Rel_parse_Rel:table PP n_slices_ContainsFunc_parse_Rel_parse_Rel=some slices_ContainsFunc_parse_Rel_parse_Rel_a:=by kernel_rfl
set_option maxRecDepth 100000 in
theorem T_check_has_1:table PP n_check_has_1=some check_has_1_a:=by kernel_rfl
set_option maxRecDepth 100000 in
theorem T_slices_Contains_parse_Sub_parse_Sub:table PP n_slices_Contains_parse_Sub_parse_Sub=some slices_Contains_parse_Sub_parse_Sub_a:=by kernel_rfl
set_option maxRecDepth 100000 in
theorem T_check_Find:table PP n_check_Find=some check_Find_a:=by kernel_rfl
set_option maxRecDepth 100000 in
theorem T_check_leads:table PP n_check_leads=some check_leads_a:=by kernel_rfl
set_option maxRecDepth 100000 in
theorem T_strata_objects:table PP n_strata_objects=some strata_objects_a:=by kernel_rfl
set_option maxRecDepth 100000 in
theorem T_strata_compare_1:table PP n_strata_compare_1=some strata_compare_1_a:=by kernel_rfl
set_option maxRecDepth 100000 in
theorem T_cmp_Or_int:table PP n_cmp_Or_int=some cmp_Or_int_a:=by kernel_rfl
set_option maxRecDepth 100000 in
theorem T_cmp_Compare_int:table PP n_cmp_Compare_int=some cmp_Compare_int_a:=by kernel_rfl
set_option maxRecDepth 100000 in
theorem T_slices_IndexFunc_strata_Edge_strata_Edge:table PP n_slices_IndexFunc_strata_Edge_strata_Edge=some slices_IndexFunc_strata_Edge_strata_Edge_a:=by kernel_rfl
set_option maxRecDepth 100000 in
theorem T_glyph_Cut:table PP n_glyph_Cut=some glyph_Cut_a:=by kernel_rfl
set_option maxRecDepth 100000 in
theorem T_glyph_Valid:table PP n_glyph_Valid=some glyph_Valid_a:=by kernel_rfl
set_option maxRecDepth 100000 in
theorem T_strings_HasPrefix:table PP n_strings_HasPrefix=some strings_HasPrefix_a:=by kernel_rfl
set_option maxRecDepth 100000 in
theorem T_strings_Cut:table PP n_strings_Cut=some strings_Cut_a:=by kernel_rfl
set_option maxRecDepth 100000 in
theorem T_glyph_Name:table PP n_glyph_Name=some glyph_Name_a:=by kernel_rfl
set_option maxRecDepth 100000 in
theorem T_parse_reader_is:table PP n_parse_reader_is=some parse_reader_is_a:=by kernel_rfl
set_option maxRecDepth 100000 in
theorem T_token_Key:table PP n_token_Key=some token_Key_a:=by kernel_rfl
set_option maxRecDepth 100000 in
theorem T_parse_reader_subs:table PP n_parse_reader_subs=some parse_reader_subs_a:=by kernel_rfl
set_option maxRecDepth 100000 in
theorem T_parse_reader_rewrite:table PP n_parse_reader_rewrite=some parse_reader_rewrite_a:=by kernel_rfl
set_option maxRecDepth 100000 in
theorem T_slices_IndexFunc_parse_Type_parse_Type:table PP n_slices_IndexFunc_parse_Type_parse_Type=some slices_IndexFunc_parse_Type_parse_Type_a:=by kernel_rfl
set_option maxRecDepth 100000 in
theorem T_check_kind_1:table PP n_check_kind_1=some check_kind_1_a:=by kernel_rfl
set_option maxRecDepth 100000 in
theorem T_slices_IndexFunc_parse_Rel_parse_Rel:table PP n_slices_IndexFunc_parse_Rel_parse_Rel=some slices_IndexFunc_parse_Rel_parse_Rel_a:=by kernel_rfl
set_option maxRecDepth 100000 in
theorem T_slices_Index_parse_Sub_parse_Sub:table PP n_slices_Index_parse_Sub_parse_Sub=some slices_Index_parse_Sub_parse_Sub_a:=by kernel_rfl
set_option maxRecDepth 100000 in
theorem T_check_Find_1:table PP n_check_Find_1=some check_Find_1_a:=by kernel_rfl
set_option maxRecDepth 100000 in
theorem T_slices_ContainsFunc_parse_Sub_parse_Sub:table PP n_slices_ContainsFunc_parse_Sub_parse_Sub=some slices_ContainsFunc_parse_Sub_parse_Sub_a:=by kernel_rfl
set_option maxRecDepth 100000 in
theorem T_check_leads_1:table PP n_check_leads_1=some check_leads_1_a:=by kernel_rfl
set_option maxRecDepth 100000 in
theorem T_cmp_isNaN_int:table PP n_cmp_isNaN_int=some cmp_isNaN_int_a:=by kernel_rfl
set_option maxRecDepth 100000 in
theorem T_stringslite_HasPrefix:table PP n_stringslite_HasPrefix=some stringslite_HasPrefix_a:=by kernel_rfl
set_option maxRecDepth 100000 in
theorem T_stringslite_Cut:table PP n_stringslite_Cut=some stringslite_Cut_a:=by kernel_rfl
set_option maxRecDepth 100000 in
theorem T_glyph_Count:table PP n_glyph_Count=some glyph_Count_a:=by kernel_rfl
set_option maxRecDepth 100000 in
theorem T_slices_Contains_string_string:table PP n_slices_Contains_string_string=some slices_Contains_string_string_a:=by kernel_rfl
set_option maxRecDepth 100000 in
theorem T_parse_reader_part:table PP n_parse_reader_part=some parse_reader_part_a:=by kernel_rfl
set_option maxRecDepth 100000 in
theorem T_parse_reader_sign:table PP n_parse_reader_sign=some parse_reader_sign_a:=by kernel_rfl
set_option maxRecDepth 100000 in
theorem T_slices_IndexFunc_parse_Sub_parse_Sub:table PP n_slices_IndexFunc_parse_Sub_parse_Sub=some slices_IndexFunc_parse_Sub_parse_Sub_a:=by kernel_rfl
set_option maxRecDepth 100000 in
theorem T_stringslite_Index:table PP n_stringslite_Index=some stringslite_Index_a:=by kernel_rfl
set_option maxRecDepth 100000 in
theorem T_slices_Index_string_string:table PP n_slices_Index_string_string=some slices_Index_string_string_a:=by kernel_rfl
set_option maxRecDepth 100000 in
theorem T_stringslite_IndexByte:table PP n_stringslite_IndexByte=some stringslite_IndexByte_a:=by kernel_rfl
end Go.Proofs.YtdbmeidhlijopaaDoor.Ev.C
