/- The abstract texts of the functions. MADE BY PROGRAM (Gen). No condition. -/
import Derived.Test.YtndlggjnfabdoaaGreatDoorAb01
set_option linter.all false
namespace Ab.U
open Ab
def n_chiasmuslaw10_BuiltinBack : Nat := 3
def n_term_Size : Nat := 4
def n_chiasmuslaw10_Small : Nat := 5
def n_term_Value : Nat := 6
def n_chiasmuslaw10_awake : Nat := 7
def n_chiasmuslaw10_apply : Nat := 8
def n_chiasmusref01_Equal : Nat := 9
def n_chiasmuslaw10_small : Nat := 10
def n_slices_Clone___api_Term_api_Term_ : Nat := 11
def n_slices_Clone___api_Term_api_Term__m : Nat := 100011
def n_term_Size_1 : Nat := 12
def n_term_all : Nat := 13
def n_term_depth : Nat := 14
def n_chiasmuslaw10_nodes : Nat := 15
def n_chiasmuslaw10_shortTexts : Nat := 16
def n_term_check : Nat := 17
def n_builtin_Apply : Nat := 18
def n_chiasmuslaw10_number : Nat := 19
def n_chiasmuslaw10_chars : Nat := 20
def n_chiasmusref01_Compare : Nat := 21
def n_term_all_1 : Nat := 22
def n_term_all_1_1 : Nat := 23
def n_slices_ContainsFunc___api_Term_api_Term_ : Nat := 24
def n_chiasmuslaw10_shortTexts_1 : Nat := 25
def n_term_right : Nat := 26
def n_builtin_functions : Nat := 27
def n_builtin_Check : Nat := 28
def n_builtin_Apply_1 : Nat := 29
def n_term_Copy : Nat := 30
def n_builtin_copied : Nat := 31
def n_builtin_Keeps : Nat := 32
def n_builtin_need : Nat := 33
def n_chiasmusref01_Sign : Nat := 34
def n_slices_IndexFunc___api_Term_api_Term_ : Nat := 35
def n_term_identifier : Nat := 36
def n_strings_ContainsFunc : Nat := 37
def n_term_right_1 : Nat := 38
def n_term_isNumber : Nat := 39
def n_term_every : Nat := 40
def n___builtin_call__add : Nat := 41
def n___builtin_call__sub : Nat := 42
def n___builtin_call__mul : Nat := 43
def n___builtin_call__div : Nat := 44
def n___builtin_call__mod : Nat := 45
def n___builtin_call__divmod : Nat := 46
def n___builtin_call__compare : Nat := 47
def n___builtin_call__numb : Nat := 48
def n___builtin_call__symb : Nat := 49
def n___builtin_call__ord : Nat := 50
def n___builtin_call__chr : Nat := 51
def n___builtin_call__kind : Nat := 52
def n___builtin_call__lenw : Nat := 53
def n___builtin_call__first : Nat := 54
def n___builtin_call__last : Nat := 55
def n___builtin_call__explode : Nat := 56
def n___builtin_call__implode : Nat := 57
def n___builtin_call__upper : Nat := 58
def n___builtin_call__lower : Nat := 59
def n___builtin_call__mu : Nat := 60
def n___builtin_call__up : Nat := 61
def n___builtin_call__dn : Nat := 62
def n___builtin_call__bury : Nat := 63
def n___builtin_call__dig : Nat := 64
def n___builtin_call__copy : Nat := 65
def n___builtin_call__replace : Nat := 66
def n___builtin_call__print : Nat := 67
def n_slices_Clone___string_string_ : Nat := 68
def n_slices_Contains___string_string_ : Nat := 69
def n_term_is : Nat := 70
def n_strings_IndexFunc : Nat := 71
def n_strings_CutPrefix : Nat := 72
def n_builtin_group : Nat := 78
def n___builtin_call__text : Nat := 82
def n_strings_Trim : Nat := 83
def n_strings_TrimLeft : Nat := 84
def n_builtin_number : Nat := 85
def n_term_Chars : Nat := 86
def n___builtin_call__single : Nat := 87
def n_strconv_Atoi : Nat := 92
def n___builtin_call__cut : Nat := 94
def n_builtin_halves : Nat := 95
def n___builtin_call__implode_1 : Nat := 96
def n_term_Result : Nat := 98
def n_meta_Up : Nat := 99
def n_meta_Dn : Nat := 100
def n_term_Variables : Nat := 101
def n___builtin_call__put : Nat := 102
def n___builtin_call__keyed : Nat := 103
def n___builtin_call__top : Nat := 104
def n_slices_Index___string_string_ : Nat := 107
def n_term_classOf : Nat := 108
def n_strings_indexFunc : Nat := 109
def n_internal_stringslite_CutPrefix : Nat := 110
def n_term_String : Nat := 120
def n_strings_trimLeftByte : Nat := 121
def n_strings_trimRightByte : Nat := 122
def n_strings_makeASCIISet : Nat := 123
def n_strings_trimLeftASCII : Nat := 124
def n_strings_trimRightASCII : Nat := 125
def n_strings_trimLeftUnicode : Nat := 126
def n_strings_trimRightUnicode : Nat := 127
def n_internal_strconv_Atoi : Nat := 129
def n_strconv_toError : Nat := 130
def n_meta_up : Nat := 134
def n_meta_fits : Nat := 135
def n_meta_dn : Nat := 136
def n_term_Name : Nat := 137
def n_slices_Insert___api_Buried_api_Buried_ : Nat := 138
def n___builtin_call__keyed_1 : Nat := 139
def n_slices_IndexFunc___api_Buried_api_Buried_ : Nat := 140
def n___builtin_call__top_1 : Nat := 141
def n_term_Equal : Nat := 142
def n_internal_stringslite_HasPrefix : Nat := 146
def n___strings_asciiSet__contains : Nat := 158
def n_internal_strconv_ParseInt : Nat := 163
def n_meta_group : Nat := 169
def n_meta_char : Nat := 170
def n_meta_word : Nat := 171
def n_term_IsVariable : Nat := 172
def n_meta_letters : Nat := 173
def n___meta_reader__next : Nat := 174
def n_meta_isChar : Nat := 175
def n___meta_reader__starred : Nat := 176
def n_term_Compare : Nat := 179
def n_cmp_Compare_int_ : Nat := 200
def n_cmp_Compare_string_ : Nat := 201
def n_cmp_isNaN_int_ : Nat := 217
def n_cmp_isNaN_string_ : Nat := 218
/- chiasmus/chiasmuslaw10.BuiltinBack -/
def l0_chiasmuslaw10_BuiltinBack : ICode :=
 (.seq
 (.region [oN 42 (.bin .lss .val (.t 41) (.t 40))] [42] false)
 (.seq
 (.cond (.t 42)
 .skip
 (.exit 0))
 (.seq
 (.block 1
 (.seq
 (.region [oN 43 (.iaddr 2 (.t 39) (.t 41)),
 oN 44 (.load true 2 (.t 43)),
 oN 8 (.alloc [.str [], .str []]),
 oU (.store 2 (.t 8) (.t 44))] [8] false)
 (.seq
 (.region [oN 46 (.aaddr 1 2 (.t 8) (.c (.int .i64 0))),
 oN 47 (.load false 1 (.t 46)),
 oN 48 (.mov (.t 0)),
 oN 49 (.call (.c (.fn n_chiasmuslaw10_apply [] [])) [(.t 47), (.t 48)]),
 oN 45 (.mov (.t 49)),
 oN 50 (.ext (.t 45) 0),
 oN 51 (.ext (.t 45) 1),
 oN 9 (.mov (.t 50)),
 oN 10 (.mov (.t 51))] [9, 10] false)
 (.seq
 (.region [oN 52 (.mov (.t 10)),
 oN 53 (.bin .eql .val (.t 52) (.c (.int .i64 0)))] [53] false)
 (.cond (.t 53)
 (.seq
 (.region [oN 55 (.aaddr 1 2 (.t 8) (.c (.int .i64 1))),
 oN 56 (.load false 1 (.t 55)),
 oN 57 (.mov (.t 9)),
 oN 58 (.call (.c (.fn n_chiasmuslaw10_apply [] [])) [(.t 56), (.t 57)]),
 oN 54 (.mov (.t 58)),
 oN 59 (.ext (.t 54) 0),
 oN 60 (.ext (.t 54) 1),
 oN 11 (.mov (.t 59)),
 oN 12 (.mov (.t 60))] [11, 12] false)
 (.seq
 (.region [oN 61 (.mov (.t 12)),
 oN 62 (.bin .neq .val (.t 61) (.c (.int .i64 0))),
 oN 63 (.mov (.t 62)),
 oG 64 (some (63, false)) (.mov (.t 11)),
 oG 65 (some (63, false)) (.mov (.t 0)),
 oG 66 (some (63, false)) (.call (.c (.fn n_chiasmusref01_Equal [] [])) [(.t 64), (.t 65)]),
 oG 67 (some (63, false)) (.un .not (.t 66)),
 oN 68 (.pick (.t 63) (.c (.bool true)) (.t 67))] [68] false)
 (.cond (.t 68)
 (.seq
 (.region [oN 4 (.mov (.c (.bool false)))] [4] false)
 .ret)
 .skip)))
 .skip)))))
 (.region [oN 69 (.bin .add .val (.t 41) (.c (.int .i64 1))),
 oN 41 (.mov (.t 69))] [41] false))))
def l1_chiasmuslaw10_BuiltinBack : ICode :=
 (.seq
 (.region [oN 73 (.bin .lss .val (.t 72) (.t 71))] [73] false)
 (.seq
 (.cond (.t 73)
 .skip
 (.exit 2))
 (.seq
 (.block 3
 (.seq
 (.region [oN 74 (.iaddr 1 (.t 70) (.t 72)),
 oN 75 (.load false 1 (.t 74)),
 oN 14 (.mov (.t 75))] [14] false)
 (.seq
 (.region [oN 77 (.mov (.t 14)),
 oN 78 (.mov (.t 1)),
 oN 79 (.conv (.int .i64) (.t 78)),
 oN 80 (.call (.c (.fn n_chiasmuslaw10_small [] [])) [(.t 79)]),
 oN 81 (.build [.int .i64 0, .str [], .sl .nil 3 []] [(0, 1, (.c (.int .i64 3))), (1, 1, (.t 80))]),
 oN 82 (.bslice 3 [.int .i64 0, .str [], .sl .nil 3 []] 1 [(0, (.t 81))]),
 oN 83 (.mov (.t 0)),
 oN 84 (.app 3 (.t 82) (.t 83)),
 oN 85 (.call (.c (.fn n_chiasmuslaw10_apply [] [])) [(.t 77), (.t 84)]),
 oN 76 (.mov (.t 85)),
 oN 86 (.ext (.t 76) 0),
 oN 87 (.ext (.t 76) 1),
 oN 15 (.mov (.t 86)),
 oN 16 (.mov (.t 87))] [15, 16] false)
 (.seq
 (.seq
 (.alt [0, 1, 2, 3, 4, 5, 6, 7, 8, 9, 10, 11, 12, 13, 14, 15, 16, 17, 18, 20, 21, 19, 22, 23, 24, 25, 26] 19 21 false [oN 88 (.mov (.t 16)),
 oN 89 (.bin .neq .val (.t 88) (.c (.int .i64 0))),
 oN 90 (.mov (.t 89)),
 oG 91 (some (90, false)) (.mov (.t 15)),
 oG 92 (some (90, false)) (.len .slice (.t 91)),
 oG 93 (some (90, false)) (.bin .eql .val (.t 92) (.c (.int .i64 0))),
 oN 94 (.pick (.t 90) (.c (.bool true)) (.t 93)),
 oN 95 (.mov (.t 94)),
 oG 96 (some (95, false)) (.mov (.t 15)),
 oG 97 (some (95, false)) (.iaddr 3 (.t 96) (.c (.int .i64 0))),
 oG 98 (some (95, false)) (.faddr 0 (.t 97)),
 ⟨(some 99), .load false 1 (.t 98), (some (95, false)), [⟨false, 1, .t 97, some 0⟩], false⟩,
 oG 100 (some (95, false)) (.bin .neq .val (.t 99) (.c (.int .i64 4))),
 oN 101 (.pick (.t 95) (.c (.bool true)) (.t 100)),
 oN 102 (.mov (.t 101)),
 oG 103 (some (102, false)) (.mov (.t 15)),
 oG 104 (some (102, false)) (.iaddr 3 (.t 103) (.c (.int .i64 0))),
 oG 105 (some (102, false)) (.faddr 2 (.t 104)),
 ⟨(some 106), .load false 1 (.t 105), (some (102, false)), [⟨false, 1, .t 104, some 2⟩], false⟩,
 ⟨(some 107), .call (.c (.fn n_slices_Clone___api_Term_api_Term_ [] [])) [(.t 106)], (some (102, false)), [⟨false, 1, .t 97, some 0⟩, ⟨false, 1, .t 104, some 2⟩], false⟩,
 oG 108 (some (102, false)) (.mov (.t 15)),
 oG 109 (some (102, false)) (.slice 3 (.t 108) (some (.c (.int .i64 1))) none none),
 oG 110 (some (102, false)) (.app 3 (.t 107) (.t 109)),
 oG 111 (some (102, false)) (.mov (.t 0)),
 ⟨(some 112), .call (.c (.fn n_chiasmusref01_Equal [] [])) [(.t 110), (.t 111)], (some (102, false)), [], true⟩,
 oG 113 (some (102, false)) (.un .not (.t 112)),
 oN 114 (.pick (.t 102) (.c (.bool true)) (.t 113))] [114] .skip [])
 (.cond (.t 114)
 (.seq
 (.region [oN 4 (.mov (.c (.bool false)))] [4] false)
 .ret)
 .skip))
 (.seq
 (.region [oN 115 (.mov (.t 15)),
 oN 116 (.len .slice (.t 115)),
 oN 117 (.bin .sub .val (.t 116) (.c (.int .i64 1))),
 oN 17 (.mov (.t 117))] [17] false)
 (.seq
 (.seq
 (.region [oN 118 (.mov (.t 14)),
 oN 119 (.bin .eql .val (.t 118) (.c (.str [70, 105, 114, 115, 116])))] [119] false)
 (.cond (.t 119)
 (.region [oN 120 (.mov (.t 15)),
 oN 121 (.iaddr 3 (.t 120) (.c (.int .i64 0))),
 oN 122 (.faddr 2 (.t 121)),
 oN 123 (.load false 1 (.t 122)),
 oN 124 (.len .slice (.t 123)),
 oN 17 (.mov (.t 124))] [17] false)
 .skip))
 (.seq
 (.region [oN 125 (.mov (.t 17)),
 oN 126 (.mov (.t 1)),
 oN 127 (.conv (.int .i64) (.t 126)),
 oN 128 (.mov (.t 0)),
 oN 129 (.len .slice (.t 128)),
 oN 130 (.mm .min [(.t 127), (.t 129)]),
 oN 131 (.bin .neq .val (.t 125) (.t 130))] [131] false)
 (.cond (.t 131)
 (.seq
 (.region [oN 4 (.mov (.c (.bool false)))] [4] false)
 .ret)
 .skip))))))))
 (.region [oN 132 (.bin .add .val (.t 72) (.c (.int .i64 1))),
 oN 72 (.mov (.t 132))] [72] false))))
def b_chiasmuslaw10_BuiltinBack : ICode :=
 (.seq
 (.region [oN 4 (.mov (.c (.bool false)))] [4] false)
 (.seq
 (.seq
 (.region [oN 19 (.mov (.t 0)),
 oN 20 (.call (.c (.fn n_term_Size [] [])) [(.t 19)]),
 oN 18 (.mov (.t 20)),
 oN 21 (.ext (.t 18) 0),
 oN 22 (.ext (.t 18) 1),
 oN 5 (.mov (.t 21)),
 oN 6 (.mov (.t 22))] [6] false)
 (.seq
 (.region [oN 23 (.mov (.t 0)),
 oN 24 (.call (.c (.fn n_chiasmuslaw10_Small [] [])) [(.t 23)]),
 oN 25 (.un .not (.t 24)),
 oN 26 (.mov (.t 25)),
 oG 27 (some (26, false)) (.mov (.t 0)),
 oG 28 (some (26, false)) (.call (.c (.fn n_term_Value [] [])) [(.t 27)]),
 oG 29 (some (26, false)) (.bin .neq .val (.t 28) (.c (.int .i64 0))),
 oN 30 (.pick (.t 26) (.c (.bool true)) (.t 29)),
 oN 31 (.mov (.t 30)),
 oG 32 (some (31, false)) (.mov (.t 6)),
 oG 33 (some (31, false)) (.bin .eql .val (.t 32) (.c (.int .i64 100))),
 oN 34 (.pick (.t 31) (.c (.bool true)) (.t 33))] [34] false)
 (.cond (.t 34)
 (.seq
 (.region [oN 35 (.call (.c (.fn n_chiasmuslaw10_awake [] [])) []),
 oN 4 (.mov (.t 35))] [4] false)
 .ret)
 .skip)))
 (.seq
 (.seq
 (.region [oN 36 (.build [.str [], .str []] [(0, 1, (.c (.str [83, 121, 109, 98]))), (1, 1, (.c (.str [78, 117, 109, 98])))]),
 oN 37 (.build [.str [], .str []] [(0, 1, (.c (.str [69, 120, 112, 108, 111, 100, 101]))), (1, 1, (.c (.str [73, 109, 112, 108, 111, 100, 101])))]),
 oN 38 (.build [.str [], .str []] [(0, 1, (.c (.str [85, 112]))), (1, 1, (.c (.str [68, 110])))]),
 oN 39 (.bslice 2 [.str [], .str []] 3 [(0, (.t 36)), (1, (.t 37)), (2, (.t 38))]),
 oN 40 (.len .slice (.t 39)),
 oN 41 (.mov (.c (.int .i64 0)))] [39, 40, 41] false)
 (.block 0
 (.loop [4, 6, 8, 9, 10, 11, 12, 14, 15, 16, 17, 34, 42, 53, 68, 70, 71, 72, 73, 114, 119, 131] l0_chiasmuslaw10_BuiltinBack)))
 (.seq
 (.seq
 (.region [oN 70 (.bslice 1 [.str []] 2 [(0, (.c (.str [70, 105, 114, 115, 116]))), (1, (.c (.str [76, 97, 115, 116])))]),
 oN 71 (.len .slice (.t 70)),
 oN 72 (.mov (.c (.int .i64 0)))] [70, 71, 72] false)
 (.block 2
 (.loop [4, 6, 8, 9, 10, 11, 12, 14, 15, 16, 17, 34, 39, 40, 41, 42, 53, 68, 73, 114, 119, 131] l1_chiasmuslaw10_BuiltinBack)))
 (.seq
 (.region [oN 133 (.call (.c (.fn n_chiasmuslaw10_awake [] [])) []),
 oN 4 (.mov (.t 133))] [4] false)
 .ret)))))
def F_chiasmuslaw10_BuiltinBack : IFn := ⟨2, b_chiasmuslaw10_BuiltinBack, [.t 4], .pure⟩
def v_chiasmuslaw10_BuiltinBack : List Nat := [0, 1, 4, 6, 8, 9, 10, 11, 12, 14, 15, 16, 17, 34, 39, 40, 41, 42, 53, 68, 70, 71, 72, 73, 114, 119, 131]

/- chiasmus/term.Size -/
def l0_term_Size : ICode :=
 (.block 1
 (.region [oN 9 (.load false 1 (.t 4)),
 oN 10 (.call (.t 9) [])] [] false))
def b_term_Size : ICode :=
 (.seq
 (.region [oN 2 (.alloc [.int .i64 0]),
 oN 3 (.mov (.c (.int .i64 0)))] [2, 3] false)
 (.seq
 (.region [oN 5 (.mkfn n_term_Size_1 [] [(.t 2)]),
 oN 4 (.alloc [.nilf]),
 oU (.store 1 (.t 4) (.t 5))] [4] false)
 (.seq
 (.seq
 (.region [oN 6 (.mov (.t 0)),
 oN 7 (.call (.c (.fn n_term_all [] [])) [(.t 6)])] [7] false)
 (.block 0
 (.rangeFn (.t 7) [8]
 .skip l0_term_Size)))
 (.seq
 (.region [oN 11 (.load false 1 (.t 2)),
 oN 12 (.mov (.t 0)),
 oM 13 (.call (.c (.fn n_term_depth [] [])) [(.t 12)]),
 oU (.store 1 (.t 2) (.t 11)),
 oN 3 (.mov (.t 13))] [3] true)
 .ret))))
def F_term_Size : IFn := ⟨1, b_term_Size, [.cell 2 false 1, .t 3], .pure⟩
def v_term_Size : List Nat := [0, 2, 3, 4, 7, 8]

/- chiasmus/chiasmuslaw10.Small -/
def b_chiasmuslaw10_Small : ICode :=
 (.seq
 (.region [oN 2 (.mov (.c (.bool false)))] [2] false)
 (.seq
 (.region [oN 3 (.mov (.t 0)),
 oN 4 (.call (.c (.fn n_chiasmuslaw10_nodes [] [])) [(.t 3), (.c (.int .i64 300))]),
 oN 5 (.bin .leq .val (.t 4) (.c (.int .i64 300))),
 oN 6 (.mov (.t 5)),
 oG 7 (some (6, true)) (.mov (.t 0)),
 oG 8 (some (6, true)) (.call (.c (.fn n_chiasmuslaw10_shortTexts [] [])) [(.t 7)]),
 oN 9 (.pick (.t 6) (.t 8) (.c (.bool false))),
 oN 2 (.mov (.t 9))] [2] false)
 .ret))
def F_chiasmuslaw10_Small : IFn := ⟨1, b_chiasmuslaw10_Small, [.t 2], .pure⟩
def v_chiasmuslaw10_Small : List Nat := [0, 2]

/- chiasmus/term.Value -/
def b_term_Value : ICode :=
 (.seq
 (.region [oN 2 (.mov (.c (.int .i64 0)))] [2] false)
 (.seq
 (.region [oN 3 (.mov (.t 0)),
 oN 4 (.call (.c (.fn n_term_check [] [])) [(.t 3), (.c (.int .i64 4))]),
 oN 2 (.mov (.t 4))] [2] false)
 .ret))
def F_term_Value : IFn := ⟨1, b_term_Value, [.t 2], .pure⟩
def v_term_Value : List Nat := [0, 2]

/- chiasmus/chiasmuslaw10.awake -/
def b_chiasmuslaw10_awake : ICode :=
 (.seq
 (.region [oN 0 (.mov (.c (.bool false)))] [0] false)
 (.seq
 (.region [oN 11 (.call (.c (.fn n_chiasmuslaw10_number [] [])) [(.c (.str [50]))]),
 oN 12 (.bslice 3 [.int .i64 0, .str [], .sl .nil 3 []] 1 [(0, (.t 11))]),
 oN 13 (.call (.c (.fn n_chiasmuslaw10_chars [] [])) [(.c (.str [97, 98, 99]))]),
 oN 14 (.app 3 (.t 12) (.t 13)),
 oN 15 (.build [.sl .nil 2 [], .sl .nil 1 []] []),
 oN 16 (.call (.c (.fn n_builtin_Apply [] [])) [(.c (.str [70, 105, 114, 115, 116])), (.t 14), (.t 15)]),
 oN 10 (.mov (.t 16)),
 oN 17 (.ext (.t 10) 0),
 oN 18 (.ext (.t 10) 1),
 oN 19 (.ext (.t 10) 2),
 oN 2 (.alloc [.sl .nil 2 [], .sl .nil 1 []]),
 oN 1 (.mov (.t 17)),
 oU (.store 2 (.t 2) (.t 18)),
 oN 3 (.mov (.t 19))] [1, 3] false)
 (.seq
 (.region [oN 21 (.call (.c (.fn n_chiasmuslaw10_chars [] [])) [(.c (.str [107, 61, 118]))]),
 oN 22 (.build [.sl .nil 2 [], .sl .nil 1 []] []),
 oN 23 (.call (.c (.fn n_builtin_Apply [] [])) [(.c (.str [66, 114])), (.t 21), (.t 22)]),
 oN 20 (.mov (.t 23)),
 oN 24 (.ext (.t 20) 0),
 oN 25 (.ext (.t 20) 1),
 oN 26 (.ext (.t 20) 2),
 oN 5 (.alloc [.sl .nil 2 [], .sl .nil 1 []]),
 oN 4 (.mov (.t 24)),
 oU (.store 2 (.t 5) (.t 25)),
 oN 6 (.mov (.t 26))] [5, 6] false)
 (.seq
 (.region [⟨(some 28), .call (.c (.fn n_chiasmuslaw10_chars [] [])) [(.c (.str [107]))], none, [⟨false, 0, .c .junk, none⟩], true⟩,
 oN 29 (.load true 2 (.t 5)),
 ⟨(some 30), .call (.c (.fn n_builtin_Apply [] [])) [(.c (.str [67, 112])), (.t 28), (.t 29)], none, [⟨false, 0, .c .junk, none⟩], true⟩,
 oN 27 (.mov (.t 30)),
 oN 31 (.ext (.t 27) 0),
 oN 32 (.ext (.t 27) 1),
 oN 33 (.ext (.t 27) 2),
 oN 8 (.alloc [.sl .nil 2 [], .sl .nil 1 []]),
 oN 7 (.mov (.t 31)),
 oU (.store 2 (.t 8) (.t 32)),
 oN 9 (.mov (.t 33))] [7, 9] true)
 (.seq
 (.region [oN 34 (.mov (.t 3)),
 oN 35 (.bin .eql .val (.t 34) (.c (.int .i64 0))),
 oN 36 (.mov (.t 35)),
 oG 37 (some (36, true)) (.mov (.t 6)),
 oG 38 (some (36, true)) (.bin .eql .val (.t 37) (.c (.int .i64 0))),
 oN 39 (.pick (.t 36) (.t 38) (.c (.bool false))),
 oN 40 (.mov (.t 39)),
 oG 41 (some (40, true)) (.mov (.t 9)),
 oG 42 (some (40, true)) (.bin .eql .val (.t 41) (.c (.int .i64 0))),
 oN 43 (.pick (.t 40) (.t 42) (.c (.bool false))),
 oN 44 (.mov (.t 43)),
 oG 45 (some (44, true)) (.mov (.t 1)),
 oG 46 (some (44, true)) (.len .slice (.t 45)),
 oG 47 (some (44, true)) (.bin .eql .val (.t 46) (.c (.int .i64 2))),
 oN 48 (.pick (.t 44) (.t 47) (.c (.bool false))),
 oN 49 (.mov (.t 48)),
 oG 50 (some (49, true)) (.mov (.t 1)),
 oG 51 (some (49, true)) (.iaddr 3 (.t 50) (.c (.int .i64 0))),
 oG 52 (some (49, true)) (.faddr 0 (.t 51)),
 oG 53 (some (49, true)) (.load false 1 (.t 52)),
 oG 54 (some (49, true)) (.bin .eql .val (.t 53) (.c (.int .i64 4))),
 oN 55 (.pick (.t 49) (.t 54) (.c (.bool false))),
 oN 56 (.mov (.t 55)),
 oG 57 (some (56, true)) (.mov (.t 1)),
 oG 58 (some (56, true)) (.iaddr 3 (.t 57) (.c (.int .i64 0))),
 oG 59 (some (56, true)) (.faddr 2 (.t 58)),
 oG 60 (some (56, true)) (.load false 1 (.t 59)),
 ⟨(some 61), .call (.c (.fn n_chiasmuslaw10_chars [] [])) [(.c (.str [97, 98]))], (some (56, true)), [], true⟩,
 ⟨(some 62), .call (.c (.fn n_chiasmusref01_Equal [] [])) [(.t 60), (.t 61)], (some (56, true)), [], true⟩,
 oN 63 (.pick (.t 56) (.t 62) (.c (.bool false))),
 oN 64 (.mov (.t 63)),
 oG 65 (some (64, true)) (.mov (.t 7)),
 ⟨(some 66), .call (.c (.fn n_chiasmuslaw10_chars [] [])) [(.c (.str [118]))], (some (64, true)), [], true⟩,
 ⟨(some 67), .call (.c (.fn n_chiasmusref01_Equal [] [])) [(.t 65), (.t 66)], (some (64, true)), [], true⟩,
 oN 68 (.pick (.t 64) (.t 67) (.c (.bool false))),
 oN 0 (.mov (.t 68))] [0] true)
 .ret)))))
def F_chiasmuslaw10_awake : IFn := ⟨0, b_chiasmuslaw10_awake, [.t 0], .pure⟩
def v_chiasmuslaw10_awake : List Nat := [0, 1, 3, 5, 6, 7, 9]

/- chiasmus/chiasmuslaw10.apply -/
def b_chiasmuslaw10_apply : ICode :=
 (.seq
 (.region [oN 4 (.mov (.c (.sl .nil 3 []))),
 oN 5 (.mov (.c (.int .i64 0)))] [4, 5] false)
 (.seq
 (.region [oN 10 (.mov (.t 0)),
 oN 11 (.mov (.t 1)),
 oN 12 (.build [.sl .nil 2 [], .sl .nil 1 []] []),
 oN 13 (.call (.c (.fn n_builtin_Apply [] [])) [(.t 10), (.t 11), (.t 12)]),
 oN 9 (.mov (.t 13)),
 oN 14 (.ext (.t 9) 0),
 oN 15 (.ext (.t 9) 1),
 oN 16 (.ext (.t 9) 2),
 oN 7 (.alloc [.sl .nil 2 [], .sl .nil 1 []]),
 oN 6 (.mov (.t 14)),
 oU (.store 2 (.t 7) (.t 15)),
 oN 8 (.mov (.t 16))] [6, 8] false)
 (.seq
 (.region [oN 17 (.mov (.t 6)),
 oN 18 (.mov (.t 8)),
 oN 4 (.mov (.t 17)),
 oN 5 (.mov (.t 18))] [4, 5] false)
 .ret)))
def F_chiasmuslaw10_apply : IFn := ⟨2, b_chiasmuslaw10_apply, [.t 4, .t 5], .pure⟩
def v_chiasmuslaw10_apply : List Nat := [0, 1, 4, 5, 6, 8]

/- chiasmus/chiasmusref01.Equal -/
def b_chiasmusref01_Equal : ICode :=
 (.seq
 (.region [oN 4 (.mov (.c (.bool false)))] [4] false)
 (.seq
 (.region [oN 5 (.mov (.t 0)),
 oN 6 (.mov (.t 1)),
 oN 7 (.call (.c (.fn n_chiasmusref01_Compare [] [])) [(.t 5), (.t 6)]),
 oN 8 (.bin .eql .val (.t 7) (.c (.int .i64 0))),
 oN 4 (.mov (.t 8))] [4] false)
 .ret))
def F_chiasmusref01_Equal : IFn := ⟨2, b_chiasmusref01_Equal, [.t 4], .pure⟩
def v_chiasmusref01_Equal : List Nat := [0, 1, 4]

/- chiasmus/chiasmuslaw10.small -/
def b_chiasmuslaw10_small : ICode :=
 (.seq
 (.region [oN 2 (.mov (.c (.str [])))] [2] false)
 (.seq
 (.seq
 (.region [oN 3 (.mov (.t 0)),
 oN 4 (.bin .lss .val (.t 3) (.c (.int .i64 10)))] [4] false)
 (.cond (.t 4)
 (.seq
 (.region [oN 5 (.mov (.t 0)),
 oN 6 (.bin .add .val (.c (.int .i64 48)) (.t 5)),
 oN 7 (.conv (.int .i32) (.t 6)),
 oN 8 (.conv .intStr (.t 7)),
 oN 2 (.mov (.t 8))] [2] false)
 .ret)
 .skip))
 (.seq
 (.region [oN 9 (.mov (.t 0)),
 oN 10 (.bin .quo .val (.t 9) (.c (.int .i64 10))),
 oN 11 (.call (.c (.fn n_chiasmuslaw10_small [] [])) [(.t 10)]),
 oN 12 (.mov (.t 0)),
 oN 13 (.bin .rem .val (.t 12) (.c (.int .i64 10))),
 oN 14 (.call (.c (.fn n_chiasmuslaw10_small [] [])) [(.t 13)]),
 oN 15 (.bin .add .val (.t 11) (.t 14)),
 oN 2 (.mov (.t 15))] [2] false)
 .ret)))
def F_chiasmuslaw10_small : IFn := ⟨1, b_chiasmuslaw10_small, [.t 2], .pure⟩
def v_chiasmuslaw10_small : List Nat := [0, 2, 4]

/- slices.Clone[[]chiasmus/api.Term,chiasmus/api.Term] -/
def b_slices_Clone___api_Term_api_Term_ : ICode :=
 (.seq
 (.region [oN 2 (.mov (.c (.sl .nil 3 [])))] [2] false)
 (.seq
 (.seq
 (.region [oN 3 (.mov (.t 0)),
 oN 4 (.bin .eql .slice (.t 3) (.c (.sl .nil 3 [])))] [4] false)
 (.cond (.t 4)
 (.seq
 (.region [oN 2 (.mov (.c (.sl .nil 3 [])))] [2] false)
 .ret)
 .skip))
 (.seq
 (.region [oN 5 (.bslice 3 [.int .i64 0, .str [], .sl .nil 3 []] 0 []),
 oN 6 (.mov (.t 0)),
 oN 7 (.app 3 (.t 5) (.t 6)),
 oN 2 (.mov (.t 7))] [2] false)
 .ret)))
def F_slices_Clone___api_Term_api_Term_ : IFn := ⟨1, b_slices_Clone___api_Term_api_Term_, [.t 2], .keep⟩
def v_slices_Clone___api_Term_api_Term_ : List Nat := [0, 2, 4]

/- slices.Clone[[]chiasmus/api.Term,chiasmus/api.Term] -/
def b_slices_Clone___api_Term_api_Term__m : ICode :=
 (.seq
 (.region [oN 2 (.mov (.c (.sl .nil 3 [])))] [2] false)
 (.seq
 (.seq
 (.region [oN 3 (.mov (.t 0)),
 oN 4 (.bin .eql .slice (.t 3) (.c (.sl .nil 3 [])))] [4] false)
 (.cond (.t 4)
 (.seq
 (.region [oN 2 (.mov (.c (.sl .nil 3 [])))] [2] false)
 .ret)
 .skip))
 (.seq
 (.region [oN 5 (.bslice 3 [.int .i64 0, .str [], .sl .nil 3 []] 0 []),
 oN 6 (.mov (.t 0)),
 oN 7 (.appm 3 (.t 5) (.t 6)),
 oN 2 (.mov (.t 7))] [2] false)
 .ret)))
def F_slices_Clone___api_Term_api_Term__m : IFn := ⟨1, b_slices_Clone___api_Term_api_Term__m, [.t 2], .eff⟩
def v_slices_Clone___api_Term_api_Term__m : List Nat := [0, 2, 4]

/- chiasmus/term.Size$1 -/
def b_term_Size_1 : ICode :=
 (.region [oN 1 (.load false 1 (.t 0)),
 oN 2 (.bin .add .val (.t 1) (.c (.int .i64 1))),
 oU (.store 1 (.t 0) (.t 2))] [] false)
def F_term_Size_1 : IFn := ⟨1, b_term_Size_1, [], .eff⟩
def v_term_Size_1 : List Nat := [0]

/- chiasmus/term.all -/
def b_term_all : ICode :=
 (.seq
 (.region [oN 1 (.box 1 (.t 0)),
 oN 2 (.mov (.c (.nilf)))] [1, 2] false)
 (.seq
 (.region [oN 3 (.mkfn n_term_all_1 [] [(.t 1)]),
 oN 2 (.mov (.t 3))] [2] false)
 .ret))
def F_term_all : IFn := ⟨1, b_term_all, [.t 2], .eff⟩
def v_term_all : List Nat := [0, 1, 2]

/- chiasmus/term.depth -/
def l0_term_depth : ICode :=
 (.seq
 (.region [oN 9 (.bin .lss .val (.t 8) (.t 7))] [9] false)
 (.seq
 (.cond (.t 9)
 .skip
 (.exit 0))
 (.seq
 (.block 1
 (.seq
 (.region [oN 10 (.iaddr 3 (.t 6) (.t 8)),
 oN 11 (.load true 3 (.t 10)),
 oN 5 (.alloc [.int .i64 0, .str [], .sl .nil 3 []]),
 oU (.store 3 (.t 5) (.t 11))] [5] false)
 (.seq
 (.region [oN 12 (.faddr 0 (.t 5)),
 oN 13 (.load false 1 (.t 12)),
 oN 14 (.bin .eql .val (.t 13) (.c (.int .i64 4))),
 oN 15 (.mov (.t 14)),
 oG 16 (some (15, false)) (.faddr 0 (.t 5)),
 oG 17 (some (15, false)) (.load false 1 (.t 16)),
 oG 18 (some (15, false)) (.bin .eql .val (.t 17) (.c (.int .i64 8))),
 oN 19 (.pick (.t 15) (.c (.bool true)) (.t 18)),
 oN 20 (.mov (.t 19)),
 oG 21 (some (20, false)) (.faddr 2 (.t 5)),
 oG 22 (some (20, false)) (.load false 1 (.t 21)),
 oG 23 (some (20, false)) (.len .slice (.t 22)),
 oG 24 (some (20, false)) (.bin .gtr .val (.t 23) (.c (.int .i64 0))),
 oN 25 (.pick (.t 20) (.c (.bool true)) (.t 24))] [25] false)
 (.cond (.t 25)
 (.region [oN 26 (.mov (.t 3)),
 oN 27 (.faddr 2 (.t 5)),
 oN 28 (.load false 1 (.t 27)),
 oN 29 (.call (.c (.fn n_term_depth [] [])) [(.t 28)]),
 oN 30 (.bin .add .val (.c (.int .i64 1)) (.t 29)),
 oN 31 (.mm .max [(.t 26), (.t 30)]),
 oN 3 (.mov (.t 31))] [3] false)
 .skip))))
 (.region [oN 32 (.bin .add .val (.t 8) (.c (.int .i64 1))),
 oN 8 (.mov (.t 32))] [8] false))))
def b_term_depth : ICode :=
 (.seq
 (.region [oN 2 (.mov (.c (.int .i64 0)))] [2] false)
 (.seq
 (.region [oN 3 (.mov (.c (.int .i64 0)))] [3] false)
 (.seq
 (.seq
 (.region [oN 6 (.mov (.t 0)),
 oN 7 (.len .slice (.t 6)),
 oN 8 (.mov (.c (.int .i64 0)))] [6, 7, 8] false)
 (.block 0
 (.loop [0, 2, 5, 9, 25] l0_term_depth)))
 (.seq
 (.region [oN 33 (.mov (.t 3)),
 oN 2 (.mov (.t 33))] [2] false)
 .ret))))
def F_term_depth : IFn := ⟨1, b_term_depth, [.t 2], .pure⟩
def v_term_depth : List Nat := [0, 2, 3, 5, 6, 7, 8, 9, 25]

/- chiasmus/chiasmuslaw10.nodes -/
def l0_chiasmuslaw10_nodes : ICode :=
 (.seq
 (.region [oN 11 (.bin .lss .val (.t 10) (.t 9))] [11] false)
 (.seq
 (.cond (.t 11)
 .skip
 (.exit 0))
 (.seq
 (.block 1
 (.seq
 (.region [oN 12 (.iaddr 3 (.t 8) (.t 10)),
 oN 13 (.load true 3 (.t 12)),
 oN 7 (.alloc [.int .i64 0, .str [], .sl .nil 3 []]),
 oU (.store 3 (.t 7) (.t 13))] [7] false)
 (.seq
 (.seq
 (.region [oN 14 (.mov (.t 5)),
 oN 15 (.mov (.t 1)),
 oN 16 (.bin .gtr .val (.t 14) (.t 15))] [16] false)
 (.cond (.t 16)
 (.exit 0)
 .skip))
 (.region [oN 17 (.mov (.t 5)),
 oN 18 (.faddr 2 (.t 7)),
 oN 19 (.load false 1 (.t 18)),
 oN 20 (.mov (.t 1)),
 oN 21 (.mov (.t 5)),
 oN 22 (.bin .sub .val (.t 20) (.t 21)),
 oN 23 (.call (.c (.fn n_chiasmuslaw10_nodes [] [])) [(.t 19), (.t 22)]),
 oN 24 (.bin .add .val (.c (.int .i64 1)) (.t 23)),
 oN 25 (.bin .add .val (.t 17) (.t 24)),
 oN 5 (.mov (.t 25))] [5] false))))
 (.region [oN 26 (.bin .add .val (.t 10) (.c (.int .i64 1))),
 oN 10 (.mov (.t 26))] [10] false))))
def b_chiasmuslaw10_nodes : ICode :=
 (.seq
 (.region [oN 4 (.mov (.c (.int .i64 0)))] [4] false)
 (.seq
 (.region [oN 5 (.mov (.c (.int .i64 0)))] [5] false)
 (.seq
 (.seq
 (.region [oN 8 (.mov (.t 0)),
 oN 9 (.len .slice (.t 8)),
 oN 10 (.mov (.c (.int .i64 0)))] [8, 9, 10] false)
 (.block 0
 (.loop [0, 4, 7, 11, 16] l0_chiasmuslaw10_nodes)))
 (.seq
 (.region [oN 27 (.mov (.t 5)),
 oN 4 (.mov (.t 27))] [4] false)
 .ret))))
def F_chiasmuslaw10_nodes : IFn := ⟨2, b_chiasmuslaw10_nodes, [.t 4], .pure⟩
def v_chiasmuslaw10_nodes : List Nat := [0, 1, 4, 5, 7, 8, 9, 10, 11, 16]

/- chiasmus/chiasmuslaw10.shortTexts -/
def b_chiasmuslaw10_shortTexts : ICode :=
 (.seq
 (.region [oN 2 (.mov (.c (.bool false)))] [2] false)
 (.seq
 (.region [oN 3 (.mov (.t 0)),
 oN 4 (.call (.c (.fn n_slices_ContainsFunc___api_Term_api_Term_ [] [])) [(.t 3), (.c (.fn n_chiasmuslaw10_shortTexts_1 [] []))]),
 oN 5 (.un .not (.t 4)),
 oN 2 (.mov (.t 5))] [2] false)
 .ret))
def F_chiasmuslaw10_shortTexts : IFn := ⟨1, b_chiasmuslaw10_shortTexts, [.t 2], .pure⟩
def v_chiasmuslaw10_shortTexts : List Nat := [0, 2]

/- chiasmus/term.check -/
def l0_term_check : ICode :=
 (.block 1
 (.seq
 (.region [oN 10 (.load false 1 (.t 5)),
 oN 11 (.bin .add .val (.t 10) (.c (.int .i64 1))),
 oU (.store 1 (.t 5) (.t 11))] [] false)
 (.seq
 (.region [oN 12 (.load false 1 (.t 5)),
 oN 13 (.bin .gtr .val (.t 12) (.c (.int .i64 4000)))] [13] false)
 (.cond (.t 13)
 (.seq
 (.region [oU (.store 1 (.t 4) (.c (.int .i64 5)))] [] false)
 .ret)
 .skip))))
def l1_term_check : ICode :=
 (.block 3
 (.seq
 (.region [oN 20 (.faddr 0 (.t 6)),
 oN 21 (.load false 1 (.t 20)),
 oN 22 (.load false 1 (.t 3)),
 oN 23 (.bin .gtr .val (.t 21) (.t 22)),
 oN 24 (.mov (.t 23)),
 oG 25 (some (24, false)) (.load true 3 (.t 6)),
 oG 26 (some (24, false)) (.call (.c (.fn n_term_right [] [])) [(.t 25)]),
 oG 27 (some (24, false)) (.un .not (.t 26)),
 oN 28 (.pick (.t 24) (.c (.bool true)) (.t 27))] [28] false)
 (.cond (.t 28)
 (.seq
 (.region [oU (.store 1 (.t 4) (.c (.int .i64 2)))] [] false)
 .ret)
 .skip)))
def b_term_check : ICode :=
 (.seq
 (.region [oN 3 (.box 1 (.t 1)),
 oN 4 (.alloc [.int .i64 0])] [3, 4] false)
 (.seq
 (.region [oN 5 (.alloc [.int .i64 0]),
 oU (.store 1 (.t 5) (.c (.int .i64 0)))] [5] false)
 (.seq
 (.seq
 (.region [oN 7 (.mov (.t 0)),
 oN 8 (.call (.c (.fn n_term_all [] [])) [(.t 7)])] [8] false)
 (.block 0
 (.rangeFn (.t 8) [9]
 .skip l0_term_check)))
 (.seq
 (.seq
 (.region [oN 14 (.mov (.t 0)),
 oN 15 (.call (.c (.fn n_term_depth [] [])) [(.t 14)]),
 oN 16 (.bin .gtr .val (.t 15) (.c (.int .i64 100)))] [16] false)
 (.cond (.t 16)
 (.seq
 (.region [oU (.store 1 (.t 4) (.c (.int .i64 6)))] [] false)
 .ret)
 .skip))
 (.seq
 (.seq
 (.region [oN 17 (.mov (.t 0)),
 oN 18 (.call (.c (.fn n_term_all [] [])) [(.t 17)])] [18] false)
 (.block 2
 (.rangeFn (.t 18) [19]
 (.region [oN 6 (.alloc [.int .i64 0, .str [], .sl .nil 3 []]),
 oU (.store 3 (.t 6) (.t 19))] [6] false) l1_term_check)))
 (.seq
 (.region [oU (.store 1 (.t 4) (.c (.int .i64 0)))] [] false)
 .ret))))))
def F_term_check : IFn := ⟨2, b_term_check, [.cell 4 false 1], .pure⟩
def v_term_check : List Nat := [0, 1, 3, 4, 5, 6, 8, 9, 13, 16, 18, 19, 28]

/- chiasmus/builtin.Apply -/
def b_builtin_Apply : ICode :=
 (.seq
 (.region [oN 5 (.box 2 (.t 2)),
 oN 6 (.alloc [.sl .nil 3 []]),
 oN 7 (.alloc [.sl .nil 2 [], .sl .nil 1 []]),
 oN 8 (.alloc [.int .i64 0])] [5, 6, 7, 8] false)
 (.seq
 (.region [oN 17 (.call (.c (.fn n_builtin_functions [] [])) []),
 oN 18 (.mov (.t 0)),
 oN 19 (.lookup .str (.nilf) (.t 17) (.t 18) true),
 oN 16 (.mov (.t 19)),
 oN 20 (.ext (.t 16) 0),
 oN 21 (.ext (.t 16) 1),
 oN 9 (.mov (.t 20)),
 oN 10 (.mov (.t 21))] [9, 10] false)
 (.seq
 (.seq
 (.region [oN 22 (.mov (.t 10)),
 oN 23 (.un .not (.t 22))] [23] false)
 (.cond (.t 23)
 (.seq
 (.region [oN 24 (.build [.sl .nil 2 [], .sl .nil 1 []] []),
 oU (.store 1 (.t 6) (.c (.sl .nil 3 []))),
 oU (.store 2 (.t 7) (.t 24)),
 oU (.store 1 (.t 8) (.c (.int .i64 9)))] [] false)
 .ret)
 .skip))
 (.seq
 (.seq
 (.region [oN 25 (.mov (.t 1)),
 oN 26 (.call (.c (.fn n_term_Value [] [])) [(.t 25)]),
 oN 11 (.mov (.t 26))] [11] false)
 (.seq
 (.region [oN 27 (.mov (.t 11)),
 oN 28 (.bin .neq .val (.t 27) (.c (.int .i64 0)))] [28] false)
 (.cond (.t 28)
 (.seq
 (.region [oN 29 (.build [.sl .nil 2 [], .sl .nil 1 []] []),
 oN 30 (.mov (.t 11)),
 oU (.store 1 (.t 6) (.c (.sl .nil 3 []))),
 oU (.store 2 (.t 7) (.t 29)),
 oU (.store 1 (.t 8) (.t 30))] [] false)
 .ret)
 .skip)))
 (.seq
 (.seq
 (.region [oN 31 (.load true 2 (.t 5)),
 oN 32 (.call (.c (.fn n_builtin_Check [] [])) [(.t 31)]),
 oN 12 (.mov (.t 32))] [12] false)
 (.seq
 (.region [oN 33 (.mov (.t 12)),
 oN 34 (.bin .neq .val (.t 33) (.c (.int .i64 0)))] [34] false)
 (.cond (.t 34)
 (.seq
 (.region [oN 35 (.build [.sl .nil 2 [], .sl .nil 1 []] []),
 oN 36 (.mov (.t 12)),
 oU (.store 1 (.t 6) (.c (.sl .nil 3 []))),
 oU (.store 2 (.t 7) (.t 35)),
 oU (.store 1 (.t 8) (.t 36))] [] false)
 .ret)
 .skip)))
 (.seq
 (.region [oN 37 (.mkfn n_builtin_Apply_1 [] [(.t 6), (.t 7), (.t 8)]),
 oU (.defer (.t 37) [])] [] false)
 (.seq
 (.alt [0, 2, 3, 1, 4, 5, 6] 1 3 false [oN 38 (.mov (.t 1)),
 oM 39 (.call (.c (.fn n_term_Copy [] [])) [(.t 38)]),
 oN 40 (.load true 2 (.t 5)),
 ⟨(some 41), .call (.c (.fn n_builtin_copied [] [])) [(.t 40)], none, [⟨true, 2, .t 5, none⟩], false⟩,
 oN 42 (.build [.sl .nil 3 [], .sl .nil 2 [], .sl .nil 1 []] [(0, 1, (.t 39)), (1, 2, (.t 41))]),
 oN 43 (.box 3 (.t 42)),
 oN 13 (.mov (.t 43))] [13] .skip [])
 (.seq
 (.region [oN 44 (.mov (.t 9)),
 oN 45 (.mov (.t 13)),
 oN 46 (.call (.t 44) [(.t 45)]),
 oU (.store 1 (.t 6) (.t 46))] [] false)
 (.seq
 (.seq
 (.region [oN 47 (.mov (.t 0)),
 oN 48 (.call (.c (.fn n_builtin_Keeps [] [])) [(.t 47)]),
 oN 49 (.un .not (.t 48))] [49] false)
 (.cond (.t 49)
 (.seq
 (.region [oN 51 (.load false 1 (.t 6)),
 oN 52 (.call (.c (.fn n_term_Size [] [])) [(.t 51)]),
 oN 50 (.mov (.t 52)),
 oN 53 (.ext (.t 50) 0),
 oN 54 (.ext (.t 50) 1),
 oN 14 (.mov (.t 53)),
 oN 15 (.mov (.t 54))] [14, 15] false)
 (.region [oN 55 (.mov (.t 14)),
 oN 56 (.bin .leq .val (.t 55) (.c (.int .i64 4000))),
 oN 57 (.mov (.t 56)),
 oG 58 (some (57, true)) (.mov (.t 15)),
 oG 59 (some (57, true)) (.bin .leq .val (.t 58) (.c (.int .i64 100))),
 oN 60 (.pick (.t 57) (.t 59) (.c (.bool false))),
 oN 61 (.call (.c (.fn n_builtin_need [] [])) [(.t 60), (.c (.int .i64 7))])] [] false))
 .skip))
 (.seq
 (.region [oN 62 (.load false 1 (.t 6)),
 oN 63 (.mov (.t 13)),
 oN 64 (.nilchk (.t 63)),
 oN 65 (.faddr 1 (.t 64)),
 ⟨(some 66), .load true 2 (.t 65), none, [⟨true, 2, .t 13, some 1⟩], false⟩,
 ⟨none, .store 1 (.t 6) (.t 62), none, [⟨true, 2, .t 13, some 1⟩], false⟩,
 oU (.store 2 (.t 7) (.t 66)),
 oU (.store 1 (.t 8) (.c (.int .i64 0)))] [] true)
 .ret))))))))))
def F_builtin_Apply : IFn := ⟨3, b_builtin_Apply, [.cell 6 false 1, .cell 7 true 2, .cell 8 false 1], .pure⟩
def v_builtin_Apply : List Nat := [0, 1, 2, 5, 6, 7, 8, 9, 10, 11, 12, 13, 14, 15, 23, 28, 34, 49]

/- chiasmus/chiasmuslaw10.number -/
def b_chiasmuslaw10_number : ICode :=
 (.seq
 (.region [oN 2 (.alloc [.int .i64 0, .str [], .sl .nil 3 []])] [2] false)
 (.seq
 (.region [oN 3 (.mov (.t 0)),
 oN 4 (.build [.int .i64 0, .str [], .sl .nil 3 []] [(0, 1, (.c (.int .i64 3))), (1, 1, (.t 3))]),
 oU (.store 3 (.t 2) (.t 4))] [] false)
 .ret))
def F_chiasmuslaw10_number : IFn := ⟨1, b_chiasmuslaw10_number, [.cell 2 true 3], .pure⟩
def v_chiasmuslaw10_number : List Nat := [0, 2]

/- chiasmus/chiasmuslaw10.chars -/
def l0_chiasmuslaw10_chars : ICode :=
 (.seq
 (.region [oN 8 (.bin .lss .val (.t 7) (.t 6))] [8] false)
 (.seq
 (.cond (.t 8)
 .skip
 (.exit 0))
 (.seq
 (.block 1
 (.seq
 (.region [oN 9 (.mov (.t 7)),
 oN 4 (.mov (.t 9))] [4] false)
 (.region [oN 10 (.mov (.t 3)),
 oN 11 (.mov (.t 0)),
 oN 12 (.mov (.t 4)),
 oN 13 (.mov (.t 4)),
 oN 14 (.bin .add .val (.t 13) (.c (.int .i64 1))),
 oN 15 (.slice 0 (.t 11) (some (.t 12)) (some (.t 14)) none),
 oN 16 (.build [.int .i64 0, .str [], .sl .nil 3 []] [(0, 1, (.c (.int .i64 1))), (1, 1, (.t 15))]),
 oN 17 (.bslice 3 [.int .i64 0, .str [], .sl .nil 3 []] 1 [(0, (.t 16))]),
 oN 18 (.app 3 (.t 10) (.t 17)),
 oN 3 (.mov (.t 18))] [3] false)))
 (.region [oN 19 (.bin .add .val (.t 7) (.c (.int .i64 1))),
 oN 7 (.mov (.t 19))] [7] false))))
def b_chiasmuslaw10_chars : ICode :=
 (.seq
 (.region [oN 2 (.mov (.c (.sl .nil 3 [])))] [2] false)
 (.seq
 (.region [oN 3 (.mov (.c (.sl .nil 3 [])))] [3] false)
 (.seq
 (.seq
 (.region [oN 5 (.mov (.t 0)),
 oN 6 (.len .str (.t 5)),
 oN 7 (.mov (.c (.int .i64 0)))] [6, 7] false)
 (.block 0
 (.loop [2, 4, 8] l0_chiasmuslaw10_chars)))
 (.seq
 (.region [oN 20 (.mov (.t 3)),
 oN 2 (.mov (.t 20))] [2] false)
 .ret))))
def F_chiasmuslaw10_chars : IFn := ⟨1, b_chiasmuslaw10_chars, [.t 2], .pure⟩
def v_chiasmuslaw10_chars : List Nat := [0, 2, 3, 4, 6, 7, 8]

/- chiasmus/chiasmusref01.Compare -/
def l0_chiasmusref01_Compare : ICode :=
 (.seq
 (.seq
 (.region [oN 8 (.mov (.t 5)),
 oN 9 (.mov (.t 0)),
 oN 10 (.len .slice (.t 9)),
 oN 11 (.bin .lss .val (.t 8) (.t 10)),
 oN 12 (.mov (.t 11)),
 oG 13 (some (12, true)) (.mov (.t 5)),
 oG 14 (some (12, true)) (.mov (.t 1)),
 oG 15 (some (12, true)) (.len .slice (.t 14)),
 oG 16 (some (12, true)) (.bin .lss .val (.t 13) (.t 15)),
 oN 17 (.pick (.t 12) (.t 16) (.c (.bool false)))] [17] false)
 (.cond (.t 17)
 .skip
 (.exit 0)))
 (.seq
 (.block 1
 (.seq
 (.seq
 (.region [oN 20 (.mov (.t 0)),
 oN 21 (.mov (.t 5)),
 oN 22 (.iaddr 3 (.t 20) (.t 21)),
 oN 23 (.faddr 0 (.t 22)),
 oN 24 (.load false 1 (.t 23)),
 oN 25 (.mov (.t 1)),
 oN 26 (.mov (.t 5)),
 oN 27 (.iaddr 3 (.t 25) (.t 26)),
 oN 28 (.faddr 0 (.t 27)),
 oN 29 (.load false 1 (.t 28)),
 oN 30 (.bin .neq .val (.t 24) (.t 29))] [30] true)
 (.cond (.t 30)
 (.seq
 (.seq
 (.region [oN 31 (.mov (.t 0)),
 oN 32 (.mov (.t 5)),
 oN 33 (.iaddr 3 (.t 31) (.t 32)),
 oN 34 (.faddr 0 (.t 33)),
 oN 35 (.load false 1 (.t 34)),
 oN 36 (.mov (.t 1)),
 oN 37 (.mov (.t 5)),
 oN 38 (.iaddr 3 (.t 36) (.t 37)),
 oN 39 (.faddr 0 (.t 38)),
 oN 40 (.load false 1 (.t 39)),
 oN 41 (.bin .lss .val (.t 35) (.t 40))] [41] true)
 (.cond (.t 41)
 (.seq
 (.region [oN 4 (.mov (.c (.int .i64 (-1))))] [4] false)
 .ret)
 .skip))
 (.seq
 (.region [oN 4 (.mov (.c (.int .i64 1)))] [4] false)
 .ret))
 .skip))
 (.seq
 (.seq
 (.region [oN 42 (.mov (.t 0)),
 oN 43 (.mov (.t 5)),
 oN 44 (.iaddr 3 (.t 42) (.t 43)),
 oN 45 (.faddr 1 (.t 44)),
 oN 46 (.load false 1 (.t 45)),
 oN 47 (.mov (.t 1)),
 oN 48 (.mov (.t 5)),
 oN 49 (.iaddr 3 (.t 47) (.t 48)),
 oN 50 (.faddr 1 (.t 49)),
 oN 51 (.load false 1 (.t 50)),
 oM 52 (.call (.c (.fn n_chiasmusref01_Sign [] [])) [(.t 46), (.t 51)]),
 oN 6 (.mov (.t 52))] [6] true)
 (.seq
 (.region [oN 53 (.mov (.t 6)),
 oN 54 (.bin .neq .val (.t 53) (.c (.int .i64 0)))] [54] false)
 (.cond (.t 54)
 (.seq
 (.region [oN 55 (.mov (.t 6)),
 oN 4 (.mov (.t 55))] [4] false)
 .ret)
 .skip)))
 (.seq
 (.region [oN 56 (.mov (.t 0)),
 oN 57 (.mov (.t 5)),
 oN 58 (.iaddr 3 (.t 56) (.t 57)),
 oN 59 (.faddr 2 (.t 58)),
 oN 60 (.load false 1 (.t 59)),
 oN 61 (.mov (.t 1)),
 oN 62 (.mov (.t 5)),
 oN 63 (.iaddr 3 (.t 61) (.t 62)),
 oN 64 (.faddr 2 (.t 63)),
 oN 65 (.load false 1 (.t 64)),
 oM 66 (.call (.c (.fn n_chiasmusref01_Compare [] [])) [(.t 60), (.t 65)]),
 oN 7 (.mov (.t 66))] [7] true)
 (.seq
 (.region [oN 67 (.mov (.t 7)),
 oN 68 (.bin .neq .val (.t 67) (.c (.int .i64 0)))] [68] false)
 (.cond (.t 68)
 (.seq
 (.region [oN 69 (.mov (.t 7)),
 oN 4 (.mov (.t 69))] [4] false)
 .ret)
 .skip))))))
 (.region [oN 18 (.mov (.t 5)),
 oN 19 (.bin .add .val (.t 18) (.c (.int .i64 1))),
 oN 5 (.mov (.t 19))] [5] false)))
def b_chiasmusref01_Compare : ICode :=
 (.seq
 (.region [oN 4 (.mov (.c (.int .i64 0)))] [4] false)
 (.seq
 (.seq
 (.region [oN 5 (.mov (.c (.int .i64 0)))] [5] false)
 (.block 0
 (.loop [4, 6, 7, 17, 30, 41, 54, 68, 74, 79] l0_chiasmusref01_Compare)))
 (.seq
 (.seq
 (.region [oN 70 (.mov (.t 0)),
 oN 71 (.len .slice (.t 70)),
 oN 72 (.mov (.t 1)),
 oN 73 (.len .slice (.t 72)),
 oN 74 (.bin .lss .val (.t 71) (.t 73))] [74] false)
 (.cond (.t 74)
 (.seq
 (.region [oN 4 (.mov (.c (.int .i64 (-1))))] [4] false)
 .ret)
 .skip))
 (.seq
 (.seq
 (.region [oN 75 (.mov (.t 0)),
 oN 76 (.len .slice (.t 75)),
 oN 77 (.mov (.t 1)),
 oN 78 (.len .slice (.t 77)),
 oN 79 (.bin .gtr .val (.t 76) (.t 78))] [79] false)
 (.cond (.t 79)
 (.seq
 (.region [oN 4 (.mov (.c (.int .i64 1)))] [4] false)
 .ret)
 .skip))
 (.seq
 (.region [oN 4 (.mov (.c (.int .i64 0)))] [4] false)
 .ret)))))
def F_chiasmusref01_Compare : IFn := ⟨2, b_chiasmusref01_Compare, [.t 4], .pure⟩
def v_chiasmusref01_Compare : List Nat := [0, 1, 4, 5, 6, 7, 17, 30, 41, 54, 68, 74, 79]

/- chiasmus/term.all$1 -/
def b_term_all_1 : ICode :=
 (.seq
 (.region [oN 2 (.box 1 (.t 0))] [2] false)
 (.seq
 (.region [oN 3 (.alloc [.nilf])] [3] false)
 (.seq
 (.region [oN 4 (.mkfn n_term_all_1_1 [] [(.t 2), (.t 3)]),
 oU (.store 1 (.t 3) (.t 4))] [] false)
 (.region [oN 5 (.load false 1 (.t 3)),
 oN 6 (.load false 1 (.t 1)),
 oN 7 (.call (.t 5) [(.t 6)])] [] false))))
def F_term_all_1 : IFn := ⟨2, b_term_all_1, [], .eff⟩
def v_term_all_1 : List Nat := [0, 1, 2, 3]

/- chiasmus/term.all$1$1 -/
def l0_term_all_1_1 : ICode :=
 (.seq
 (.region [oN 10 (.bin .lss .val (.t 9) (.t 8))] [10] false)
 (.seq
 (.cond (.t 10)
 .skip
 (.exit 0))
 (.seq
 (.block 1
 (.seq
 (.region [oN 11 (.iaddr 3 (.t 7) (.t 9)),
 oN 12 (.load true 3 (.t 11)),
 oN 6 (.alloc [.int .i64 0, .str [], .sl .nil 3 []]),
 oU (.store 3 (.t 6) (.t 12))] [6] false)
 (.seq
 (.region [oN 13 (.load false 1 (.t 1)),
 oN 14 (.load true 3 (.t 6)),
 oN 15 (.call (.t 13) [(.t 14)]),
 oN 16 (.un .not (.t 15)),
 oN 17 (.mov (.t 16)),
 oG 18 (some (17, false)) (.load false 1 (.t 2)),
 oG 19 (some (17, false)) (.faddr 2 (.t 6)),
 oG 20 (some (17, false)) (.load false 1 (.t 19)),
 oG 21 (some (17, false)) (.call (.t 18) [(.t 20)]),
 oG 22 (some (17, false)) (.un .not (.t 21)),
 oN 23 (.pick (.t 17) (.c (.bool true)) (.t 22))] [23] false)
 (.cond (.t 23)
 (.seq
 (.region [oN 4 (.mov (.c (.bool false)))] [4] false)
 .ret)
 .skip))))
 (.region [oN 24 (.bin .add .val (.t 9) (.c (.int .i64 1))),
 oN 9 (.mov (.t 24))] [9] false))))
def b_term_all_1_1 : ICode :=
 (.seq
 (.region [oN 4 (.mov (.c (.bool false)))] [4] false)
 (.seq
 (.seq
 (.region [oN 7 (.mov (.t 0)),
 oN 8 (.len .slice (.t 7)),
 oN 9 (.mov (.c (.int .i64 0)))] [7, 8, 9] false)
 (.block 0
 (.loop [0, 4, 6, 10, 23] l0_term_all_1_1)))
 (.seq
 (.region [oN 4 (.mov (.c (.bool true)))] [4] false)
 .ret)))
def F_term_all_1_1 : IFn := ⟨3, b_term_all_1_1, [.t 4], .eff⟩
def v_term_all_1_1 : List Nat := [0, 1, 2, 4, 6, 7, 8, 9, 10, 23]

/- slices.ContainsFunc[[]chiasmus/api.Term,chiasmus/api.Term] -/
def b_slices_ContainsFunc___api_Term_api_Term_ : ICode :=
 (.seq
 (.region [oN 4 (.mov (.c (.bool false)))] [4] false)
 (.seq
 (.region [oN 5 (.mov (.t 0)),
 oN 6 (.mov (.t 1)),
 oN 7 (.call (.c (.fn n_slices_IndexFunc___api_Term_api_Term_ [] [])) [(.t 5), (.t 6)]),
 oN 8 (.bin .geq .val (.t 7) (.c (.int .i64 0))),
 oN 4 (.mov (.t 8))] [4] false)
 .ret))
def F_slices_ContainsFunc___api_Term_api_Term_ : IFn := ⟨2, b_slices_ContainsFunc___api_Term_api_Term_, [.t 4], .pure⟩
def v_slices_ContainsFunc___api_Term_api_Term_ : List Nat := [0, 1, 4]

/- chiasmus/chiasmuslaw10.shortTexts$1 -/
def b_chiasmuslaw10_shortTexts_1 : ICode :=
 (.seq
 (.region [oN 1 (.box 3 (.t 0)),
 oN 2 (.mov (.c (.bool false)))] [1, 2] false)
 (.seq
 (.region [oN 3 (.faddr 1 (.t 1)),
 oN 4 (.load false 1 (.t 3)),
 oN 5 (.len .str (.t 4)),
 oN 6 (.bin .gtr .val (.t 5) (.c (.int .i64 600))),
 oN 7 (.mov (.t 6)),
 oG 8 (some (7, false)) (.faddr 2 (.t 1)),
 oG 9 (some (7, false)) (.load false 1 (.t 8)),
 oG 10 (some (7, false)) (.call (.c (.fn n_chiasmuslaw10_shortTexts [] [])) [(.t 9)]),
 oG 11 (some (7, false)) (.un .not (.t 10)),
 oN 12 (.pick (.t 7) (.c (.bool true)) (.t 11)),
 oN 2 (.mov (.t 12))] [2] false)
 .ret))
def F_chiasmuslaw10_shortTexts_1 : IFn := ⟨1, b_chiasmuslaw10_shortTexts_1, [.t 2], .pure⟩
def v_chiasmuslaw10_shortTexts_1 : List Nat := [0, 1, 2]

/- chiasmus/term.right -/
def b_term_right : ICode :=
 (.seq
 (.region [oN 1 (.box 3 (.t 0)),
 oN 2 (.mov (.c (.bool false)))] [1, 2] false)
 (.seq
 (.seq
 (.region [oN 3 (.faddr 0 (.t 1)),
 oN 4 (.load false 1 (.t 3))] [4] false)
 (.block 0
 (.seq
 (.region [oN 6 (.bin .eql .val (.t 4) (.c (.int .i64 4))),
 oN 5 (.mov (.t 6))] [5] false)
 (.cond (.t 5)
 (.seq
 (.region [oN 7 (.faddr 1 (.t 1)),
 oN 8 (.load false 1 (.t 7)),
 oN 9 (.bin .eql .val (.t 8) (.c (.str []))),
 oN 2 (.mov (.t 9))] [2] false)
 .ret)
 (.seq
 (.region [oN 11 (.bin .eql .val (.t 4) (.c (.int .i64 8))),
 oN 10 (.mov (.t 11))] [10] false)
 (.cond (.t 10)
 (.seq
 (.region [oN 12 (.faddr 1 (.t 1)),
 oN 13 (.load false 1 (.t 12)),
 oN 14 (.call (.c (.fn n_term_identifier [] [])) [(.t 13), (.c (.int .i64 40))]),
 oN 2 (.mov (.t 14))] [2] false)
 .ret)
 .skip))))))
 (.seq
 (.seq
 (.region [oN 15 (.faddr 2 (.t 1)),
 oN 16 (.load false 1 (.t 15)),
 oN 17 (.len .slice (.t 16)),
 oN 18 (.bin .gtr .val (.t 17) (.c (.int .i64 0)))] [18] false)
 (.cond (.t 18)
 (.seq
 (.region [oN 2 (.mov (.c (.bool false)))] [2] false)
 .ret)
 .skip))
 (.seq
 (.seq
 (.region [oN 19 (.faddr 0 (.t 1)),
 oN 20 (.load false 1 (.t 19))] [20] false)
 (.block 1
 (.seq
 (.region [oN 22 (.bin .eql .val (.t 20) (.c (.int .i64 1))),
 oN 21 (.mov (.t 22))] [21] false)
 (.cond (.t 21)
 (.seq
 (.region [oN 23 (.faddr 1 (.t 1)),
 oN 24 (.load false 1 (.t 23)),
 oN 25 (.len .str (.t 24)),
 oN 26 (.bin .eql .val (.t 25) (.c (.int .i64 1))),
 oN 2 (.mov (.t 26))] [2] false)
 .ret)
 (.seq
 (.region [oN 28 (.bin .eql .val (.t 20) (.c (.int .i64 2))),
 oN 27 (.mov (.t 28))] [27] false)
 (.cond (.t 27)
 (.seq
 (.region [oN 29 (.faddr 1 (.t 1)),
 oN 30 (.load false 1 (.t 29)),
 oN 31 (.bin .neq .val (.t 30) (.c (.str []))),
 oN 32 (.mov (.t 31)),
 oG 33 (some (32, true)) (.faddr 1 (.t 1)),
 oG 34 (some (32, true)) (.load false 1 (.t 33)),
 oG 35 (some (32, true)) (.len .str (.t 34)),
 oG 36 (some (32, true)) (.bin .leq .val (.t 35) (.c (.int .i64 60))),
 oN 37 (.pick (.t 32) (.t 36) (.c (.bool false))),
 oN 38 (.mov (.t 37)),
 oG 39 (some (38, true)) (.faddr 1 (.t 1)),
 oG 40 (some (38, true)) (.load false 1 (.t 39)),
 oG 41 (some (38, true)) (.call (.c (.fn n_strings_ContainsFunc [] [])) [(.t 40), (.c (.fn n_term_right_1 [] []))]),
 oG 42 (some (38, true)) (.un .not (.t 41)),
 oN 43 (.pick (.t 38) (.t 42) (.c (.bool false))),
 oN 2 (.mov (.t 43))] [2] false)
 .ret)
 (.seq
 (.region [oN 45 (.bin .eql .val (.t 20) (.c (.int .i64 3))),
 oN 44 (.mov (.t 45))] [44] false)
 (.cond (.t 44)
 (.seq
 (.region [oN 46 (.faddr 1 (.t 1)),
 oN 47 (.load false 1 (.t 46)),
 oN 48 (.call (.c (.fn n_term_isNumber [] [])) [(.t 47)]),
 oN 2 (.mov (.t 48))] [2] false)
 .ret)
 (.seq
 (.seq
 (.region [oN 50 (.bin .eql .val (.t 20) (.c (.int .i64 5))),
 oN 49 (.mov (.t 50))] [49] false)
 (.cond (.t 49)
 .skip
 (.seq
 (.region [oN 51 (.bin .eql .val (.t 20) (.c (.int .i64 6))),
 oN 49 (.mov (.t 51))] [49] false)
 (.cond (.t 49)
 .skip
 (.region [oN 52 (.bin .eql .val (.t 20) (.c (.int .i64 7))),
 oN 49 (.mov (.t 52))] [49] false)))))
 (.cond (.t 49)
 (.seq
 (.region [oN 53 (.faddr 1 (.t 1)),
 oN 54 (.load false 1 (.t 53)),
 oN 55 (.bin .neq .val (.t 54) (.c (.str []))),
 oN 56 (.mov (.t 55)),
 oG 57 (some (56, true)) (.faddr 1 (.t 1)),
 oG 58 (some (56, true)) (.load false 1 (.t 57)),
 oG 59 (some (56, true)) (.len .str (.t 58)),
 oG 60 (some (56, true)) (.bin .leq .val (.t 59) (.c (.int .i64 40))),
 oN 61 (.pick (.t 56) (.t 60) (.c (.bool false))),
 oN 62 (.mov (.t 61)),
 oG 63 (some (62, true)) (.faddr 1 (.t 1)),
 oG 64 (some (62, true)) (.load false 1 (.t 63)),
 oG 65 (some (62, true)) (.call (.c (.fn n_term_every [] [])) [(.t 64), (.c (.int .u8 3))]),
 oN 66 (.pick (.t 62) (.t 65) (.c (.bool false))),
 oN 2 (.mov (.t 66))] [2] false)
 .ret)
 .skip))))))))))
 (.seq
 (.region [oN 2 (.mov (.c (.bool false)))] [2] false)
 .ret)))))
def F_term_right : IFn := ⟨1, b_term_right, [.t 2], .pure⟩
def v_term_right : List Nat := [0, 1, 2, 4, 5, 10, 18, 20, 21, 27, 44, 49]

/- chiasmus/builtin.functions -/
def b_builtin_functions : ICode :=
 (.seq
 (.region [oN 0 (.mov (.c (.map none)))] [0] false)
 (.seq
 (.region [oN 1 (.mkmap),
 oU (.mapset .str (.t 1) (.c (.str [65, 100, 100])) (.c (.fn n___builtin_call__add [] []))),
 oU (.mapset .str (.t 1) (.c (.str [83, 117, 98])) (.c (.fn n___builtin_call__sub [] []))),
 oU (.mapset .str (.t 1) (.c (.str [77, 117, 108])) (.c (.fn n___builtin_call__mul [] []))),
 oU (.mapset .str (.t 1) (.c (.str [68, 105, 118])) (.c (.fn n___builtin_call__div [] []))),
 oU (.mapset .str (.t 1) (.c (.str [77, 111, 100])) (.c (.fn n___builtin_call__mod [] []))),
 oU (.mapset .str (.t 1) (.c (.str [68, 105, 118, 109, 111, 100])) (.c (.fn n___builtin_call__divmod [] []))),
 oU (.mapset .str (.t 1) (.c (.str [67, 111, 109, 112, 97, 114, 101])) (.c (.fn n___builtin_call__compare [] []))),
 oU (.mapset .str (.t 1) (.c (.str [78, 117, 109, 98])) (.c (.fn n___builtin_call__numb [] []))),
 oU (.mapset .str (.t 1) (.c (.str [83, 121, 109, 98])) (.c (.fn n___builtin_call__symb [] []))),
 oU (.mapset .str (.t 1) (.c (.str [79, 114, 100])) (.c (.fn n___builtin_call__ord [] []))),
 oU (.mapset .str (.t 1) (.c (.str [67, 104, 114])) (.c (.fn n___builtin_call__chr [] []))),
 oU (.mapset .str (.t 1) (.c (.str [84, 121, 112, 101])) (.c (.fn n___builtin_call__kind [] []))),
 oU (.mapset .str (.t 1) (.c (.str [76, 101, 110, 119])) (.c (.fn n___builtin_call__lenw [] []))),
 oU (.mapset .str (.t 1) (.c (.str [70, 105, 114, 115, 116])) (.c (.fn n___builtin_call__first [] []))),
 oU (.mapset .str (.t 1) (.c (.str [76, 97, 115, 116])) (.c (.fn n___builtin_call__last [] []))),
 oU (.mapset .str (.t 1) (.c (.str [69, 120, 112, 108, 111, 100, 101])) (.c (.fn n___builtin_call__explode [] []))),
 oU (.mapset .str (.t 1) (.c (.str [73, 109, 112, 108, 111, 100, 101])) (.c (.fn n___builtin_call__implode [] []))),
 oU (.mapset .str (.t 1) (.c (.str [85, 112, 112, 101, 114])) (.c (.fn n___builtin_call__upper [] []))),
 oU (.mapset .str (.t 1) (.c (.str [76, 111, 119, 101, 114])) (.c (.fn n___builtin_call__lower [] []))),
 oU (.mapset .str (.t 1) (.c (.str [77, 117])) (.c (.fn n___builtin_call__mu [] []))),
 oU (.mapset .str (.t 1) (.c (.str [85, 112])) (.c (.fn n___builtin_call__up [] []))),
 oU (.mapset .str (.t 1) (.c (.str [68, 110])) (.c (.fn n___builtin_call__dn [] []))),
 oU (.mapset .str (.t 1) (.c (.str [66, 114])) (.c (.fn n___builtin_call__bury [] []))),
 oU (.mapset .str (.t 1) (.c (.str [68, 103])) (.c (.fn n___builtin_call__dig [] []))),
 oU (.mapset .str (.t 1) (.c (.str [67, 112])) (.c (.fn n___builtin_call__copy [] []))),
 oU (.mapset .str (.t 1) (.c (.str [82, 112])) (.c (.fn n___builtin_call__replace [] []))),
 oU (.mapset .str (.t 1) (.c (.str [80, 114, 111, 117, 116])) (.c (.fn n___builtin_call__print [] []))),
 oN 2 (.mov (.t 1)),
 oN 0 (.mov (.t 2))] [0] false)
 .ret))
def F_builtin_functions : IFn := ⟨0, b_builtin_functions, [.t 0], .eff⟩
def v_builtin_functions : List Nat := [0]

/- chiasmus/builtin.Check -/
def l0_builtin_Check : ICode :=
 (.seq
 (.region [oN 32 (.bin .lss .val (.t 31) (.t 30))] [32] false)
 (.seq
 (.cond (.t 32)
 .skip
 (.exit 2))
 (.seq
 (.block 3
 (.seq
 (.region [oN 33 (.iaddr 1 (.t 29) (.t 31)),
 oN 34 (.load false 1 (.t 33)),
 oN 6 (.mov (.t 34))] [6] false)
 (.seq
 (.region [oN 35 (.mov (.t 6)),
 oN 36 (.call (.c (.fn n_term_Value [] [])) [(.t 35)]),
 oN 7 (.mov (.t 36))] [7] false)
 (.seq
 (.region [oN 37 (.mov (.t 7)),
 oN 38 (.bin .neq .val (.t 37) (.c (.int .i64 0)))] [38] false)
 (.cond (.t 38)
 (.seq
 (.region [oN 39 (.mov (.t 7)),
 oN 2 (.mov (.t 39))] [2] false)
 .ret)
 .skip)))))
 (.region [oN 40 (.bin .add .val (.t 31) (.c (.int .i64 1))),
 oN 31 (.mov (.t 40))] [31] false))))
def l1_builtin_Check : ICode :=
 (.seq
 (.region [oN 22 (.bin .lss .val (.t 21) (.t 20))] [22] false)
 (.seq
 (.cond (.t 22)
 .skip
 (.exit 0))
 (.seq
 (.block 1
 (.seq
 (.region [oN 23 (.iaddr 2 (.t 19) (.t 21)),
 oN 24 (.load true 2 (.t 23)),
 oN 4 (.alloc [.sl .nil 3 [], .sl .nil 3 []]),
 oU (.store 2 (.t 4) (.t 24))] [4] false)
 (.seq
 (.region [oN 25 (.faddr 0 (.t 4)),
 oN 26 (.load false 1 (.t 25)),
 oN 27 (.faddr 1 (.t 4)),
 oN 28 (.load false 1 (.t 27)),
 oN 29 (.bslice 1 [.sl .nil 3 []] 2 [(0, (.t 26)), (1, (.t 28))]),
 oN 30 (.len .slice (.t 29)),
 oN 31 (.mov (.c (.int .i64 0)))] [29, 30, 31] false)
 (.block 2
 (.loop [0, 1, 2, 4, 6, 7, 17, 22, 32, 38] l0_builtin_Check)))))
 (.region [oN 41 (.bin .add .val (.t 21) (.c (.int .i64 1))),
 oN 21 (.mov (.t 41))] [21] false))))
def b_builtin_Check : ICode :=
 (.seq
 (.region [oN 1 (.box 2 (.t 0)),
 oN 2 (.mov (.c (.int .i64 0)))] [1, 2] false)
 (.seq
 (.seq
 (.region [oN 8 (.faddr 0 (.t 1)),
 oN 9 (.load false 1 (.t 8)),
 oN 10 (.len .slice (.t 9)),
 oN 11 (.bin .gtr .val (.t 10) (.c (.int .i64 200))),
 oN 12 (.mov (.t 11)),
 oG 13 (some (12, false)) (.faddr 1 (.t 1)),
 oG 14 (some (12, false)) (.load false 1 (.t 13)),
 oG 15 (some (12, false)) (.len .slice (.t 14)),
 oG 16 (some (12, false)) (.bin .gtr .val (.t 15) (.c (.int .i64 200))),
 oN 17 (.pick (.t 12) (.c (.bool true)) (.t 16))] [17] false)
 (.cond (.t 17)
 (.seq
 (.region [oN 2 (.mov (.c (.int .i64 5)))] [2] false)
 .ret)
 .skip))
 (.seq
 (.seq
 (.region [oN 18 (.faddr 0 (.t 1)),
 oN 19 (.load false 1 (.t 18)),
 oN 20 (.len .slice (.t 19)),
 oN 21 (.mov (.c (.int .i64 0)))] [19, 20, 21] false)
 (.block 0
 (.loop [0, 1, 2, 4, 6, 7, 17, 22, 29, 30, 31, 32, 38] l1_builtin_Check)))
 (.seq
 (.region [oN 2 (.mov (.c (.int .i64 0)))] [2] false)
 .ret))))
def F_builtin_Check : IFn := ⟨1, b_builtin_Check, [.t 2], .pure⟩
def v_builtin_Check : List Nat := [0, 1, 2, 4, 6, 7, 17, 19, 20, 21, 22, 29, 30, 31, 32, 38]

/- chiasmus/builtin.Apply$1 -/
def b_builtin_Apply_1 : ICode :=
 (.seq
 (.region [oN 6 (.recover),
 oN 3 (.mov (.t 6))] [3] false)
 (.seq
 (.region [oN 7 (.mov (.t 3)),
 oN 8 (.bin .neq .iface (.t 7) (.c (.nilif)))] [8] false)
 (.cond (.t 8)
 (.seq
 (.region [oN 10 (.mov (.t 3)),
 oN 11 (.tassert 62 (.agg [.int .i64 0]) true (.t 10)),
 oN 9 (.mov (.t 11)),
 oN 12 (.ext (.t 9) 0),
 oN 13 (.ext (.t 9) 1),
 oN 4 (.alloc [.int .i64 0]),
 oU (.store 1 (.t 4) (.t 12)),
 oN 5 (.mov (.t 13))] [4, 5] false)
 (.seq
 (.seq
 (.region [oN 14 (.mov (.t 5)),
 oN 15 (.un .not (.t 14))] [15] false)
 (.cond (.t 15)
 (.region [oN 16 (.mov (.t 3)),
 oU (.panic (.t 16))] [] false)
 .skip))
 (.region [oN 17 (.build [.sl .nil 2 [], .sl .nil 1 []] []),
 oN 18 (.faddr 0 (.t 4)),
 ⟨(some 19), .load false 1 (.t 18), none, [⟨false, 1, .t 4, some 0⟩], false⟩,
 ⟨none, .store 1 (.t 0) (.c (.sl .nil 3 [])), none, [⟨false, 1, .t 4, some 0⟩], false⟩,
 ⟨none, .store 2 (.t 1) (.t 17), none, [⟨false, 1, .t 4, some 0⟩], false⟩,
 oU (.store 1 (.t 2) (.t 19))] [] true)))
 .skip)))
def F_builtin_Apply_1 : IFn := ⟨3, b_builtin_Apply_1, [], .eff⟩
def v_builtin_Apply_1 : List Nat := [0, 1, 2, 3, 4, 5, 8, 15]

/- chiasmus/term.Copy -/
def l0_term_Copy : ICode :=
 (.seq
 (.region [oN 10 (.bin .lss .val (.t 9) (.t 8))] [10] false)
 (.seq
 (.cond (.t 10)
 .skip
 (.exit 0))
 (.seq
 (.block 1
 (.seq
 (.region [oN 11 (.mov (.t 9)),
 oN 4 (.mov (.t 11))] [4] false)
 (.region [oN 12 (.mov (.t 3)),
 oN 13 (.mov (.t 4)),
 oN 14 (.mov (.t 3)),
 oN 15 (.mov (.t 4)),
 oN 16 (.iaddr 3 (.t 14) (.t 15)),
 oN 17 (.faddr 2 (.t 16)),
 oN 18 (.load false 1 (.t 17)),
 oN 19 (.call (.c (.fn n_term_Copy [] [])) [(.t 18)]),
 oN 20 (.iaddr 3 (.t 12) (.t 13)),
 oN 21 (.faddr 2 (.t 20)),
 oU (.store 1 (.t 21) (.t 19))] [] false)))
 (.region [oN 22 (.bin .add .val (.t 9) (.c (.int .i64 1))),
 oN 9 (.mov (.t 22))] [9] false))))
def b_term_Copy : ICode :=
 (.seq
 (.region [oN 2 (.mov (.c (.sl .nil 3 [])))] [2] false)
 (.seq
 (.region [oN 5 (.mov (.t 0)),
 oN 6 (.call (.c (.fn n_slices_Clone___api_Term_api_Term__m [] [])) [(.t 5)]),
 oN 3 (.mov (.t 6))] [3] false)
 (.seq
 (.seq
 (.region [oN 7 (.mov (.t 3)),
 oN 8 (.len .slice (.t 7)),
 oN 9 (.mov (.c (.int .i64 0)))] [8, 9] false)
 (.block 0
 (.loop [0, 2, 4, 10] l0_term_Copy)))
 (.seq
 (.region [oN 23 (.mov (.t 3)),
 oN 2 (.mov (.t 23))] [2] false)
 .ret))))
def F_term_Copy : IFn := ⟨1, b_term_Copy, [.t 2], .pure⟩
def v_term_Copy : List Nat := [0, 2, 3, 4, 8, 9, 10]

/- chiasmus/builtin.copied -/
def l0_builtin_copied : ICode :=
 (.seq
 (.region [oN 14 (.bin .lss .val (.t 13) (.t 12))] [14] false)
 (.seq
 (.cond (.t 14)
 .skip
 (.exit 0))
 (.seq
 (.block 1
 (.seq
 (.region [oN 15 (.iaddr 2 (.t 11) (.t 13)),
 oN 16 (.load true 2 (.t 15)),
 oN 5 (.alloc [.sl .nil 3 [], .sl .nil 3 []]),
 oU (.store 2 (.t 5) (.t 16))] [5] false)
 (.region [oN 17 (.faddr 0 (.t 3)),
 oN 18 (.load false 1 (.t 17)),
 oN 19 (.faddr 0 (.t 5)),
 oN 20 (.load false 1 (.t 19)),
 oM 21 (.call (.c (.fn n_term_Copy [] [])) [(.t 20)]),
 oN 22 (.faddr 1 (.t 5)),
 oN 23 (.load false 1 (.t 22)),
 oM 24 (.call (.c (.fn n_term_Copy [] [])) [(.t 23)]),
 oN 25 (.build [.sl .nil 3 [], .sl .nil 3 []] [(0, 1, (.t 21)), (1, 1, (.t 24))]),
 oN 26 (.bslice 2 [.sl .nil 3 [], .sl .nil 3 []] 1 [(0, (.t 25))]),
 oN 27 (.appm 2 (.t 18) (.t 26)),
 oN 28 (.faddr 0 (.t 3)),
 oU (.store 1 (.t 28) (.t 27))] [] true)))
 (.region [oN 29 (.bin .add .val (.t 13) (.c (.int .i64 1))),
 oN 13 (.mov (.t 29))] [13] false))))
def b_builtin_copied : ICode :=
 (.seq
 (.region [oN 1 (.box 2 (.t 0)),
 oN 2 (.alloc [.sl .nil 2 [], .sl .nil 1 []])] [1, 2] false)
 (.seq
 (.region [oN 6 (.faddr 1 (.t 1)),
 oN 7 (.load false 1 (.t 6)),
 oN 8 (.call (.c (.fn n_slices_Clone___string_string_ [] [])) [(.t 7)]),
 oN 9 (.build [.sl .nil 2 [], .sl .nil 1 []] [(1, 1, (.t 8))]),
 oN 3 (.alloc [.sl .nil 2 [], .sl .nil 1 []]),
 oU (.store 2 (.t 3) (.t 9))] [3] false)
 (.seq
 (.seq
 (.region [oN 10 (.faddr 0 (.t 1)),
 oN 11 (.load false 1 (.t 10)),
 oN 12 (.len .slice (.t 11)),
 oN 13 (.mov (.c (.int .i64 0)))] [11, 12, 13] false)
 (.block 0
 (.loop [0, 1, 5, 14] l0_builtin_copied)))
 (.seq
 (.region [oN 30 (.load true 2 (.t 3)),
 oU (.store 2 (.t 2) (.t 30))] [] false)
 .ret))))
def F_builtin_copied : IFn := ⟨1, b_builtin_copied, [.cell 2 true 2], .eff⟩
def v_builtin_copied : List Nat := [0, 1, 2, 3, 5, 11, 12, 13, 14]

/- chiasmus/builtin.Keeps -/
def b_builtin_Keeps : ICode :=
 (.seq
 (.region [oN 2 (.mov (.c (.bool false)))] [2] false)
 (.seq
 (.region [oN 3 (.bslice 1 [.str []] 5 [(0, (.c (.str [66, 114]))), (1, (.c (.str [67, 112]))), (2, (.c (.str [68, 103]))), (3, (.c (.str [80, 114, 111, 117, 116]))), (4, (.c (.str [82, 112])))]),
 oN 4 (.mov (.t 0)),
 oN 5 (.call (.c (.fn n_slices_Contains___string_string_ [] [])) [(.t 3), (.t 4)]),
 oN 2 (.mov (.t 5))] [2] false)
 .ret))
def F_builtin_Keeps : IFn := ⟨1, b_builtin_Keeps, [.t 2], .pure⟩
def v_builtin_Keeps : List Nat := [0, 2]

/- chiasmus/builtin.need -/
def b_builtin_need : ICode :=
 (.seq
 (.region [oN 4 (.mov (.t 0)),
 oN 5 (.un .not (.t 4))] [5] false)
 (.cond (.t 5)
 (.region [oN 6 (.mov (.t 1)),
 oN 7 (.build [.int .i64 0] [(0, 1, (.t 6))]),
 oN 8 (.mkif 62 (.t 7)),
 oU (.panic (.t 8))] [] false)
 .skip))
def F_builtin_need : IFn := ⟨2, b_builtin_need, [], .pure⟩
def v_builtin_need : List Nat := [0, 1, 5]

/- chiasmus/chiasmusref01.Sign -/
def b_chiasmusref01_Sign : ICode :=
 (.seq
 (.region [oN 4 (.mov (.c (.int .i64 0)))] [4] false)
 (.seq
 (.seq
 (.region [oN 5 (.mov (.t 0)),
 oN 6 (.mov (.t 1)),
 oN 7 (.bin .lss .val (.t 5) (.t 6))] [7] false)
 (.cond (.t 7)
 (.seq
 (.region [oN 4 (.mov (.c (.int .i64 (-1))))] [4] false)
 .ret)
 .skip))
 (.seq
 (.seq
 (.region [oN 8 (.mov (.t 0)),
 oN 9 (.mov (.t 1)),
 oN 10 (.bin .gtr .val (.t 8) (.t 9))] [10] false)
 (.cond (.t 10)
 (.seq
 (.region [oN 4 (.mov (.c (.int .i64 1)))] [4] false)
 .ret)
 .skip))
 (.seq
 (.region [oN 4 (.mov (.c (.int .i64 0)))] [4] false)
 .ret))))
def F_chiasmusref01_Sign : IFn := ⟨2, b_chiasmusref01_Sign, [.t 4], .pure⟩
def v_chiasmusref01_Sign : List Nat := [0, 1, 4, 7, 10]

/- slices.IndexFunc[[]chiasmus/api.Term,chiasmus/api.Term] -/
def l0_slices_IndexFunc___api_Term_api_Term_ : ICode :=
 (.seq
 (.region [oN 9 (.bin .lss .val (.t 8) (.t 7))] [9] false)
 (.seq
 (.cond (.t 9)
 .skip
 (.exit 0))
 (.seq
 (.block 1
 (.seq
 (.region [oN 10 (.mov (.t 8)),
 oN 5 (.mov (.t 10))] [5] false)
 (.seq
 (.region [oN 11 (.mov (.t 1)),
 oN 12 (.mov (.t 0)),
 oN 13 (.mov (.t 5)),
 oN 14 (.iaddr 3 (.t 12) (.t 13)),
 oN 15 (.load true 3 (.t 14)),
 oN 16 (.call (.t 11) [(.t 15)])] [16] false)
 (.cond (.t 16)
 (.seq
 (.region [oN 17 (.mov (.t 5)),
 oN 4 (.mov (.t 17))] [4] false)
 .ret)
 .skip))))
 (.region [oN 18 (.bin .add .val (.t 8) (.c (.int .i64 1))),
 oN 8 (.mov (.t 18))] [8] false))))
def b_slices_IndexFunc___api_Term_api_Term_ : ICode :=
 (.seq
 (.region [oN 4 (.mov (.c (.int .i64 0)))] [4] false)
 (.seq
 (.seq
 (.region [oN 6 (.mov (.t 0)),
 oN 7 (.len .slice (.t 6)),
 oN 8 (.mov (.c (.int .i64 0)))] [7, 8] false)
 (.block 0
 (.loop [4, 5, 9, 16] l0_slices_IndexFunc___api_Term_api_Term_)))
 (.seq
 (.region [oN 4 (.mov (.c (.int .i64 (-1))))] [4] false)
 .ret)))
def F_slices_IndexFunc___api_Term_api_Term_ : IFn := ⟨2, b_slices_IndexFunc___api_Term_api_Term_, [.t 4], .pure⟩
def v_slices_IndexFunc___api_Term_api_Term_ : List Nat := [0, 1, 4, 5, 7, 8, 9, 16]

/- chiasmus/term.identifier -/
def b_term_identifier : ICode :=
 (.seq
 (.region [oN 4 (.mov (.c (.bool false)))] [4] false)
 (.seq
 (.region [oN 5 (.mov (.t 0)),
 oN 6 (.bin .neq .val (.t 5) (.c (.str []))),
 oN 7 (.mov (.t 6)),
 oG 8 (some (7, true)) (.mov (.t 0)),
 oG 9 (some (7, true)) (.len .str (.t 8)),
 oG 10 (some (7, true)) (.mov (.t 1)),
 oG 11 (some (7, true)) (.bin .leq .val (.t 9) (.t 10)),
 oN 12 (.pick (.t 7) (.t 11) (.c (.bool false))),
 oN 13 (.mov (.t 12)),
 oG 14 (some (13, true)) (.mov (.t 0)),
 oG 15 (some (13, true)) (.index (.t 14) (.c (.int .i64 0))),
 oG 16 (some (13, true)) (.call (.c (.fn n_term_is [] [])) [(.t 15), (.c (.int .u8 1))]),
 oN 17 (.pick (.t 13) (.t 16) (.c (.bool false))),
 oN 18 (.mov (.t 17)),
 oG 19 (some (18, true)) (.mov (.t 0)),
 oG 20 (some (18, true)) (.call (.c (.fn n_term_every [] [])) [(.t 19), (.c (.int .u8 4))]),
 oN 21 (.pick (.t 18) (.t 20) (.c (.bool false))),
 oN 4 (.mov (.t 21))] [4] false)
 .ret))
def F_term_identifier : IFn := ⟨2, b_term_identifier, [.t 4], .pure⟩
def v_term_identifier : List Nat := [0, 1, 4]

/- strings.ContainsFunc -/
def b_strings_ContainsFunc : ICode :=
 (.seq
 (.region [oN 4 (.mov (.c (.bool false)))] [4] false)
 (.seq
 (.region [oN 5 (.mov (.t 0)),
 oN 6 (.mov (.t 1)),
 oN 7 (.call (.c (.fn n_strings_IndexFunc [] [])) [(.t 5), (.t 6)]),
 oN 8 (.bin .geq .val (.t 7) (.c (.int .i64 0))),
 oN 4 (.mov (.t 8))] [4] false)
 .ret))
def F_strings_ContainsFunc : IFn := ⟨2, b_strings_ContainsFunc, [.t 4], .pure⟩
def v_strings_ContainsFunc : List Nat := [0, 1, 4]

/- chiasmus/term.right$1 -/
def b_term_right_1 : ICode :=
 (.seq
 (.region [oN 2 (.mov (.c (.bool false)))] [2] false)
 (.seq
 (.region [oN 3 (.mov (.t 0)),
 oN 4 (.bin .lss .val (.t 3) (.c (.int .i32 32))),
 oN 5 (.mov (.t 4)),
 oG 6 (some (5, false)) (.mov (.t 0)),
 oG 7 (some (5, false)) (.bin .gtr .val (.t 6) (.c (.int .i32 126))),
 oN 8 (.pick (.t 5) (.c (.bool true)) (.t 7)),
 oN 2 (.mov (.t 8))] [2] false)
 .ret))
def F_term_right_1 : IFn := ⟨1, b_term_right_1, [.t 2], .pure⟩
def v_term_right_1 : List Nat := [0, 2]

/- chiasmus/term.isNumber -/
def b_term_isNumber : ICode :=
 (.seq
 (.region [oN 2 (.mov (.c (.bool false)))] [2] false)
 (.seq
 (.region [oN 6 (.mov (.t 0)),
 oN 7 (.call (.c (.fn n_strings_CutPrefix [] [])) [(.t 6), (.c (.str [45]))]),
 oN 5 (.mov (.t 7)),
 oN 8 (.ext (.t 5) 0),
 oN 9 (.ext (.t 5) 1),
 oN 3 (.mov (.t 8)),
 oN 4 (.mov (.t 9))] [3, 4] false)
 (.seq
 (.seq
 (.region [oN 10 (.mov (.t 3)),
 oN 11 (.bin .eql .val (.t 10) (.c (.str []))),
 oN 12 (.mov (.t 11)),
 oG 13 (some (12, false)) (.mov (.t 3)),
 oG 14 (some (12, false)) (.len .str (.t 13)),
 oG 15 (some (12, false)) (.bin .gtr .val (.t 14) (.c (.int .i64 500))),
 oN 16 (.pick (.t 12) (.c (.bool true)) (.t 15)),
 oN 17 (.mov (.t 16)),
 oG 18 (some (17, false)) (.mov (.t 3)),
 oG 19 (some (17, false)) (.call (.c (.fn n_term_every [] [])) [(.t 18), (.c (.int .u8 2))]),
 oG 20 (some (17, false)) (.un .not (.t 19)),
 oN 21 (.pick (.t 17) (.c (.bool true)) (.t 20))] [21] false)
 (.cond (.t 21)
 (.seq
 (.region [oN 2 (.mov (.c (.bool false)))] [2] false)
 .ret)
 .skip))
 (.seq
 (.region [oN 22 (.mov (.t 3)),
 oN 23 (.index (.t 22) (.c (.int .i64 0))),
 oN 24 (.bin .neq .val (.t 23) (.c (.int .u8 48))),
 oN 25 (.mov (.t 24)),
 oG 26 (some (25, false)) (.mov (.t 3)),
 oG 27 (some (25, false)) (.len .str (.t 26)),
 oG 28 (some (25, false)) (.bin .eql .val (.t 27) (.c (.int .i64 1))),
 oG 29 (some (25, false)) (.mov (.t 28)),
 oG 30 (some (29, true)) (.mov (.t 4)),
 oG 31 (some (29, true)) (.un .not (.t 30)),
 oG 32 (some (25, false)) (.pick (.t 29) (.t 31) (.c (.bool false))),
 oN 33 (.pick (.t 25) (.c (.bool true)) (.t 32)),
 oN 2 (.mov (.t 33))] [2] false)
 .ret))))
def F_term_isNumber : IFn := ⟨1, b_term_isNumber, [.t 2], .pure⟩
def v_term_isNumber : List Nat := [0, 2, 3, 4, 21]

/- chiasmus/term.every -/
def l0_term_every : ICode :=
 (.seq
 (.region [oN 9 (.bin .lss .val (.t 8) (.t 7))] [9] false)
 (.seq
 (.cond (.t 9)
 .skip
 (.exit 0))
 (.seq
 (.block 1
 (.seq
 (.region [oN 10 (.mov (.t 8)),
 oN 5 (.mov (.t 10))] [5] false)
 (.seq
 (.region [oN 11 (.mov (.t 0)),
 oN 12 (.mov (.t 5)),
 oN 13 (.index (.t 11) (.t 12)),
 oN 14 (.mov (.t 1)),
 oN 15 (.call (.c (.fn n_term_is [] [])) [(.t 13), (.t 14)]),
 oN 16 (.un .not (.t 15))] [16] false)
 (.cond (.t 16)
 (.seq
 (.region [oN 4 (.mov (.c (.bool false)))] [4] false)
 .ret)
 .skip))))
 (.region [oN 17 (.bin .add .val (.t 8) (.c (.int .i64 1))),
 oN 8 (.mov (.t 17))] [8] false))))
def b_term_every : ICode :=
 (.seq
 (.region [oN 4 (.mov (.c (.bool false)))] [4] false)
 (.seq
 (.seq
 (.region [oN 6 (.mov (.t 0)),
 oN 7 (.len .str (.t 6)),
 oN 8 (.mov (.c (.int .i64 0)))] [7, 8] false)
 (.block 0
 (.loop [4, 5, 9, 16] l0_term_every)))
 (.seq
 (.region [oN 4 (.mov (.c (.bool true)))] [4] false)
 .ret)))
def F_term_every : IFn := ⟨2, b_term_every, [.t 4], .pure⟩
def v_term_every : List Nat := [0, 1, 4, 5, 7, 8, 9, 16]

/- (*chiasmus/builtin.call).numb -/
def b___builtin_call__numb : ICode :=
 (.seq
 (.region [oN 2 (.mov (.c (.sl .nil 3 [])))] [2] false)
 (.seq
 (.region [oN 7 (.mov (.t 0)),
 oN 8 (.call (.c (.fn n___builtin_call__text [] [])) [(.t 7)]),
 oN 9 (.call (.c (.fn n_strings_CutPrefix [] [])) [(.t 8), (.c (.str [45]))]),
 oN 6 (.mov (.t 9)),
 oN 10 (.ext (.t 6) 0),
 oN 11 (.ext (.t 6) 1),
 oN 3 (.mov (.t 10)),
 oN 4 (.mov (.t 11))] [3, 4] false)
 (.seq
 (.region [oN 12 (.mov (.t 3)),
 oN 13 (.bin .neq .val (.t 12) (.c (.str []))),
 oN 14 (.mov (.t 13)),
 oG 15 (some (14, true)) (.mov (.t 3)),
 oG 16 (some (14, true)) (.call (.c (.fn n_strings_Trim [] [])) [(.t 15), (.c (.str [48, 49, 50, 51, 52, 53, 54, 55, 56, 57]))]),
 oG 17 (some (14, true)) (.bin .eql .val (.t 16) (.c (.str []))),
 oN 18 (.pick (.t 14) (.t 17) (.c (.bool false))),
 oN 19 (.call (.c (.fn n_builtin_need [] [])) [(.t 18), (.c (.int .i64 22))])] [] false)
 (.seq
 (.region [oN 20 (.mov (.t 3)),
 oN 21 (.call (.c (.fn n_strings_TrimLeft [] [])) [(.t 20), (.c (.str [48]))]),
 oN 5 (.mov (.t 21))] [5] false)
 (.seq
 (.seq
 (.region [oN 22 (.mov (.t 5)),
 oN 23 (.bin .eql .val (.t 22) (.c (.str [])))] [23] false)
 (.cond (.t 23)
 (.seq
 (.region [oN 24 (.call (.c (.fn n_builtin_number [] [])) [(.c (.str [48]))]),
 oN 25 (.bslice 3 [.int .i64 0, .str [], .sl .nil 3 []] 1 [(0, (.t 24))]),
 oN 2 (.mov (.t 25))] [2] false)
 .ret)
 .skip))
 (.seq
 (.region [oN 26 (.mov (.t 5)),
 oN 27 (.len .str (.t 26)),
 oN 28 (.bin .leq .val (.t 27) (.c (.int .i64 500))),
 oN 29 (.call (.c (.fn n_builtin_need [] [])) [(.t 28), (.c (.int .i64 7))])] [] false)
 (.seq
 (.seq
 (.region [oN 30 (.mov (.t 4))] [30] false)
 (.cond (.t 30)
 (.region [oN 31 (.mov (.t 5)),
 oN 32 (.bin .add .val (.c (.str [45])) (.t 31)),
 oN 5 (.mov (.t 32))] [5] false)
 .skip))
 (.seq
 (.region [oN 33 (.mov (.t 5)),
 oN 34 (.call (.c (.fn n_builtin_number [] [])) [(.t 33)]),
 oN 35 (.bslice 3 [.int .i64 0, .str [], .sl .nil 3 []] 1 [(0, (.t 34))]),
 oN 2 (.mov (.t 35))] [2] false)
 .ret))))))))
def F___builtin_call__numb : IFn := ⟨1, b___builtin_call__numb, [.t 2], .pure⟩
def v___builtin_call__numb : List Nat := [0, 2, 3, 4, 5, 23, 30]

/- (*chiasmus/builtin.call).symb -/
def b___builtin_call__symb : ICode :=
 (.seq
 (.region [oN 2 (.mov (.c (.sl .nil 3 [])))] [2] false)
 (.seq
 (.region [oN 3 (.mov (.t 0)),
 oN 4 (.call (.c (.fn n___builtin_call__single [] [])) [(.t 3), (.c (.int .i64 3))]),
 oN 5 (.call (.c (.fn n_term_Chars [] [])) [(.t 4)]),
 oN 2 (.mov (.t 5))] [2] false)
 .ret))
def F___builtin_call__symb : IFn := ⟨1, b___builtin_call__symb, [.t 2], .pure⟩
def v___builtin_call__symb : List Nat := [0, 2]

/- (*chiasmus/builtin.call).first -/
def b___builtin_call__first : ICode :=
 (.seq
 (.region [oN 2 (.mov (.c (.sl .nil 3 [])))] [2] false)
 (.seq
 (.region [oN 6 (.mov (.t 0)),
 oN 7 (.call (.c (.fn n___builtin_call__cut [] [])) [(.t 6)]),
 oN 5 (.mov (.t 7)),
 oN 8 (.ext (.t 5) 0),
 oN 9 (.ext (.t 5) 1),
 oN 3 (.mov (.t 8)),
 oN 4 (.mov (.t 9))] [3, 4] false)
 (.seq
 (.region [oN 10 (.mov (.t 4)),
 oN 11 (.mov (.t 3)),
 oN 12 (.call (.c (.fn n_builtin_halves [] [])) [(.t 10), (.t 11)]),
 oN 2 (.mov (.t 12))] [2] false)
 .ret)))
def F___builtin_call__first : IFn := ⟨1, b___builtin_call__first, [.t 2], .pure⟩
def v___builtin_call__first : List Nat := [0, 2, 3, 4]

/- (*chiasmus/builtin.call).last -/
def b___builtin_call__last : ICode :=
 (.seq
 (.region [oN 2 (.mov (.c (.sl .nil 3 [])))] [2] false)
 (.seq
 (.region [oN 6 (.mov (.t 0)),
 oN 7 (.call (.c (.fn n___builtin_call__cut [] [])) [(.t 6)]),
 oN 5 (.mov (.t 7)),
 oN 8 (.ext (.t 5) 0),
 oN 9 (.ext (.t 5) 1),
 oN 3 (.mov (.t 8)),
 oN 4 (.mov (.t 9))] [3, 4] false)
 (.seq
 (.region [oN 10 (.mov (.t 4)),
 oN 11 (.mov (.t 4)),
 oN 12 (.len .slice (.t 11)),
 oN 13 (.mov (.t 3)),
 oN 14 (.bin .sub .val (.t 12) (.t 13)),
 oN 15 (.call (.c (.fn n_builtin_halves [] [])) [(.t 10), (.t 14)]),
 oN 2 (.mov (.t 15))] [2] false)
 .ret)))
def F___builtin_call__last : IFn := ⟨1, b___builtin_call__last, [.t 2], .pure⟩
def v___builtin_call__last : List Nat := [0, 2, 3, 4]

/- (*chiasmus/builtin.call).explode -/
def b___builtin_call__explode : ICode :=
 (.seq
 (.region [oN 2 (.mov (.c (.sl .nil 3 [])))] [2] false)
 (.seq
 (.region [oN 3 (.mov (.t 0)),
 oN 4 (.call (.c (.fn n___builtin_call__single [] [])) [(.t 3), (.c (.int .i64 2))]),
 oN 5 (.call (.c (.fn n_term_Chars [] [])) [(.t 4)]),
 oN 2 (.mov (.t 5))] [2] false)
 .ret))
def F___builtin_call__explode : IFn := ⟨1, b___builtin_call__explode, [.t 2], .pure⟩
def v___builtin_call__explode : List Nat := [0, 2]

/- (*chiasmus/builtin.call).implode -/
def b___builtin_call__implode : ICode :=
 (.seq
 (.region [oN 2 (.mov (.c (.sl .nil 3 [])))] [2] false)
 (.seq
 (.region [oN 5 (.mov (.t 0)),
 oN 6 (.call (.c (.fn n___builtin_call__text [] [])) [(.t 5)]),
 oN 3 (.mov (.t 6))] [3] false)
 (.seq
 (.region [oN 4 (.mov (.c (.fn n___builtin_call__implode_1 [] [])))] [4] false)
 (.seq
 (.region [oN 7 (.mov (.t 3)),
 oN 8 (.bin .neq .val (.t 7) (.c (.str []))),
 oN 9 (.mov (.t 8)),
 oG 10 (some (9, true)) (.mov (.t 3)),
 oG 11 (some (9, true)) (.len .str (.t 10)),
 oG 12 (some (9, true)) (.bin .leq .val (.t 11) (.c (.int .i64 60))),
 oN 13 (.pick (.t 9) (.t 12) (.c (.bool false))),
 oN 14 (.mov (.t 13)),
 oG 15 (some (14, true)) (.mov (.t 3)),
 oG 16 (some (14, true)) (.mov (.t 4)),
 oG 17 (some (14, true)) (.call (.c (.fn n_strings_ContainsFunc [] [])) [(.t 15), (.t 16)]),
 oG 18 (some (14, true)) (.un .not (.t 17)),
 oN 19 (.pick (.t 14) (.t 18) (.c (.bool false))),
 oN 20 (.call (.c (.fn n_builtin_need [] [])) [(.t 19), (.c (.int .i64 22))])] [] false)
 (.seq
 (.region [oN 21 (.mov (.t 3)),
 oN 22 (.build [.int .i64 0, .str [], .sl .nil 3 []] [(0, 1, (.c (.int .i64 2))), (1, 1, (.t 21))]),
 oN 23 (.bslice 3 [.int .i64 0, .str [], .sl .nil 3 []] 1 [(0, (.t 22))]),
 oN 2 (.mov (.t 23))] [2] false)
 .ret)))))
def F___builtin_call__implode : IFn := ⟨1, b___builtin_call__implode, [.t 2], .pure⟩
def v___builtin_call__implode : List Nat := [0, 2, 3, 4]

/- (*chiasmus/builtin.call).up -/
def b___builtin_call__up : ICode :=
 (.seq
 (.region [oN 2 (.mov (.c (.sl .nil 3 [])))] [2] false)
 (.seq
 (.region [oN 6 (.mov (.t 0)),
 oN 7 (.nilchk (.t 6)),
 oN 8 (.faddr 0 (.t 7)),
 oN 9 (.load false 1 (.t 8)),
 oN 10 (.call (.c (.fn n_meta_Up [] [])) [(.t 9)]),
 oN 5 (.mov (.t 10)),
 oN 11 (.ext (.t 5) 0),
 oN 12 (.ext (.t 5) 1),
 oN 3 (.mov (.t 11)),
 oN 4 (.mov (.t 12))] [3, 4] false)
 (.seq
 (.region [oN 13 (.mov (.t 4)),
 oN 14 (.bin .eql .val (.t 13) (.c (.int .i64 0))),
 oN 15 (.mov (.t 14)),
 oG 16 (some (15, false)) (.mov (.t 4)),
 oG 17 (some (15, false)) (.bin .eql .val (.t 16) (.c (.int .i64 7))),
 oN 18 (.pick (.t 15) (.c (.bool true)) (.t 17)),
 oN 19 (.call (.c (.fn n_builtin_need [] [])) [(.t 18), (.c (.int .i64 22))])] [] false)
 (.seq
 (.region [oN 20 (.mov (.t 4)),
 oN 21 (.bin .eql .val (.t 20) (.c (.int .i64 0))),
 oN 22 (.mov (.t 4)),
 oN 23 (.call (.c (.fn n_builtin_need [] [])) [(.t 21), (.t 22)])] [] false)
 (.seq
 (.region [oN 24 (.mov (.t 3)),
 oN 2 (.mov (.t 24))] [2] false)
 .ret)))))
def F___builtin_call__up : IFn := ⟨1, b___builtin_call__up, [.t 2], .pure⟩
def v___builtin_call__up : List Nat := [0, 2, 3, 4]

/- (*chiasmus/builtin.call).dn -/
def b___builtin_call__dn : ICode :=
 (.seq
 (.region [oN 2 (.mov (.c (.sl .nil 3 [])))] [2] false)
 (.seq
 (.region [oN 6 (.mov (.t 0)),
 oN 7 (.nilchk (.t 6)),
 oN 8 (.faddr 0 (.t 7)),
 oN 9 (.load false 1 (.t 8)),
 oN 10 (.call (.c (.fn n_meta_Dn [] [])) [(.t 9)]),
 oN 5 (.mov (.t 10)),
 oN 11 (.ext (.t 5) 0),
 oN 12 (.ext (.t 5) 1),
 oN 3 (.mov (.t 11)),
 oN 4 (.mov (.t 12))] [3, 4] false)
 (.seq
 (.region [oN 13 (.mov (.t 4)),
 oN 14 (.bin .eql .val (.t 13) (.c (.int .i64 0))),
 oN 15 (.mov (.t 14)),
 oG 16 (some (15, true)) (.mov (.t 3)),
 oG 17 (some (15, true)) (.call (.c (.fn n_term_Variables [] [])) [(.t 16)]),
 oG 18 (some (15, true)) (.len .slice (.t 17)),
 oG 19 (some (15, true)) (.bin .eql .val (.t 18) (.c (.int .i64 0))),
 oN 20 (.pick (.t 15) (.t 19) (.c (.bool false))),
 oN 21 (.call (.c (.fn n_builtin_need [] [])) [(.t 20), (.c (.int .i64 22))])] [] false)
 (.seq
 (.region [oN 22 (.mov (.t 3)),
 oN 2 (.mov (.t 22))] [2] false)
 .ret))))
def F___builtin_call__dn : IFn := ⟨1, b___builtin_call__dn, [.t 2], .pure⟩
def v___builtin_call__dn : List Nat := [0, 2, 3, 4]

/- (*chiasmus/builtin.call).bury -/
def b___builtin_call__bury : ICode :=
 (.seq
 (.region [oN 2 (.mov (.c (.sl .nil 3 [])))] [2] false)
 (.seq
 (.region [oN 3 (.mov (.t 0)),
 oN 4 (.mov (.t 0)),
 oN 5 (.call (.c (.fn n___builtin_call__keyed [] [])) [(.t 4)]),
 oN 6 (.ext (.t 5) 0),
 oN 7 (.ext (.t 5) 1),
 oN 8 (.call (.c (.fn n___builtin_call__put [] [])) [(.t 3), (.t 6), (.t 7)]),
 oN 2 (.mov (.t 8))] [2] false)
 .ret))
def F___builtin_call__bury : IFn := ⟨1, b___builtin_call__bury, [.t 2], .eff⟩
def v___builtin_call__bury : List Nat := [0, 2]

/- (*chiasmus/builtin.call).copy -/
def b___builtin_call__copy : ICode :=
 (.seq
 (.region [oN 2 (.mov (.c (.sl .nil 3 [])))] [2] false)
 (.seq
 (.region [oN 4 (.mov (.t 0)),
 oN 5 (.mov (.t 0)),
 oN 6 (.nilchk (.t 5)),
 oN 7 (.faddr 0 (.t 6)),
 oN 8 (.load false 1 (.t 7)),
 oN 9 (.call (.c (.fn n___builtin_call__top [] [])) [(.t 4), (.t 8)]),
 oN 3 (.mov (.t 9))] [3] false)
 (.seq
 (.seq
 (.region [oN 10 (.mov (.t 3)),
 oN 11 (.bin .lss .val (.t 10) (.c (.int .i64 0)))] [11] false)
 (.cond (.t 11)
 (.seq
 (.region [oN 2 (.mov (.c (.sl .nil 3 [])))] [2] false)
 .ret)
 .skip))
 (.seq
 (.region [oN 12 (.mov (.t 0)),
 oN 13 (.nilchk (.t 12)),
 oN 14 (.faddr 1 (.t 13)),
 oN 15 (.faddr 0 (.t 14)),
 oN 16 (.load false 1 (.t 15)),
 oN 17 (.mov (.t 3)),
 oN 18 (.iaddr 2 (.t 16) (.t 17)),
 oN 19 (.faddr 1 (.t 18)),
 oN 20 (.load false 1 (.t 19)),
 oN 21 (.call (.c (.fn n_term_Copy [] [])) [(.t 20)]),
 oN 2 (.mov (.t 21))] [2] false)
 .ret))))
def F___builtin_call__copy : IFn := ⟨1, b___builtin_call__copy, [.t 2], .pure⟩
def v___builtin_call__copy : List Nat := [0, 2, 3, 11]

/- slices.Clone[[]string,string] -/
def b_slices_Clone___string_string_ : ICode :=
 (.seq
 (.region [oN 2 (.mov (.c (.sl .nil 1 [])))] [2] false)
 (.seq
 (.seq
 (.region [oN 3 (.mov (.t 0)),
 oN 4 (.bin .eql .slice (.t 3) (.c (.sl .nil 1 [])))] [4] false)
 (.cond (.t 4)
 (.seq
 (.region [oN 2 (.mov (.c (.sl .nil 1 [])))] [2] false)
 .ret)
 .skip))
 (.seq
 (.region [oN 5 (.bslice 1 [.str []] 0 []),
 oN 6 (.mov (.t 0)),
 oN 7 (.app 1 (.t 5) (.t 6)),
 oN 2 (.mov (.t 7))] [2] false)
 .ret)))
def F_slices_Clone___string_string_ : IFn := ⟨1, b_slices_Clone___string_string_, [.t 2], .pure⟩
def v_slices_Clone___string_string_ : List Nat := [0, 2, 4]

/- slices.Contains[[]string,string] -/
def b_slices_Contains___string_string_ : ICode :=
 (.seq
 (.region [oN 4 (.mov (.c (.bool false)))] [4] false)
 (.seq
 (.region [oN 5 (.mov (.t 0)),
 oN 6 (.mov (.t 1)),
 oN 7 (.call (.c (.fn n_slices_Index___string_string_ [] [])) [(.t 5), (.t 6)]),
 oN 8 (.bin .geq .val (.t 7) (.c (.int .i64 0))),
 oN 4 (.mov (.t 8))] [4] false)
 .ret))
def F_slices_Contains___string_string_ : IFn := ⟨2, b_slices_Contains___string_string_, [.t 4], .pure⟩
def v_slices_Contains___string_string_ : List Nat := [0, 1, 4]

/- chiasmus/term.is -/
def b_term_is : ICode :=
 (.seq
 (.region [oN 4 (.mov (.c (.bool false)))] [4] false)
 (.seq
 (.region [oN 5 (.mov (.t 0)),
 oN 6 (.call (.c (.fn n_term_classOf [] [])) [(.t 5)]),
 oN 7 (.mov (.t 1)),
 oN 8 (.bin .and .val (.t 6) (.t 7)),
 oN 9 (.bin .neq .val (.t 8) (.c (.int .u8 0))),
 oN 4 (.mov (.t 9))] [4] false)
 .ret))
def F_term_is : IFn := ⟨2, b_term_is, [.t 4], .pure⟩
def v_term_is : List Nat := [0, 1, 4]

/- strings.IndexFunc -/
def b_strings_IndexFunc : ICode :=
 (.seq
 (.region [oN 4 (.mov (.c (.int .i64 0)))] [4] false)
 (.seq
 (.region [oN 5 (.mov (.t 0)),
 oN 6 (.mov (.t 1)),
 oN 7 (.call (.c (.fn n_strings_indexFunc [] [])) [(.t 5), (.t 6), (.c (.bool true))]),
 oN 4 (.mov (.t 7))] [4] false)
 .ret))
def F_strings_IndexFunc : IFn := ⟨2, b_strings_IndexFunc, [.t 4], .pure⟩
def v_strings_IndexFunc : List Nat := [0, 1, 4]

/- strings.CutPrefix -/
def b_strings_CutPrefix : ICode :=
 (.seq
 (.region [oN 4 (.mov (.c (.str []))),
 oN 5 (.mov (.c (.bool false)))] [4, 5] false)
 (.seq
 (.region [oN 6 (.mov (.t 0)),
 oN 7 (.mov (.t 1)),
 oN 8 (.call (.c (.fn n_internal_stringslite_CutPrefix [] [])) [(.t 6), (.t 7)]),
 oN 9 (.ext (.t 8) 0),
 oN 10 (.ext (.t 8) 1),
 oN 4 (.mov (.t 9)),
 oN 5 (.mov (.t 10))] [4, 5] false)
 .ret))
def F_strings_CutPrefix : IFn := ⟨2, b_strings_CutPrefix, [.t 4, .t 5], .pure⟩
def v_strings_CutPrefix : List Nat := [0, 1, 4, 5]

/- chiasmus/builtin.group -/
def b_builtin_group : ICode :=
 (.seq
 (.region [oN 2 (.alloc [.int .i64 0, .str [], .sl .nil 3 []])] [2] false)
 (.seq
 (.region [oN 3 (.mov (.t 0)),
 oN 4 (.call (.c (.fn n_slices_Clone___api_Term_api_Term_ [] [])) [(.t 3)]),
 oN 5 (.build [.int .i64 0, .str [], .sl .nil 3 []] [(0, 1, (.c (.int .i64 4))), (2, 1, (.t 4))]),
 oU (.store 3 (.t 2) (.t 5))] [] false)
 .ret))
def F_builtin_group : IFn := ⟨1, b_builtin_group, [.cell 2 true 3], .pure⟩
def v_builtin_group : List Nat := [0, 2]

/- (*chiasmus/builtin.call).text -/
def b___builtin_call__text : ICode :=
 (.seq
 (.region [oN 2 (.mov (.c (.str [])))] [2] false)
 (.seq
 (.region [oN 6 (.mov (.t 0)),
 oN 7 (.nilchk (.t 6)),
 oN 8 (.faddr 0 (.t 7)),
 oN 9 (.load false 1 (.t 8)),
 oN 10 (.call (.c (.fn n_term_String [] [])) [(.t 9)]),
 oN 5 (.mov (.t 10)),
 oN 11 (.ext (.t 5) 0),
 oN 12 (.ext (.t 5) 1),
 oN 3 (.mov (.t 11)),
 oN 4 (.mov (.t 12))] [3, 4] false)
 (.seq
 (.region [oN 13 (.mov (.t 4)),
 oN 14 (.call (.c (.fn n_builtin_need [] [])) [(.t 13), (.c (.int .i64 22))])] [] false)
 (.seq
 (.region [oN 15 (.mov (.t 3)),
 oN 2 (.mov (.t 15))] [2] false)
 .ret))))
def F___builtin_call__text : IFn := ⟨1, b___builtin_call__text, [.t 2], .pure⟩
def v___builtin_call__text : List Nat := [0, 2, 3, 4]

/- strings.Trim -/
def b_strings_Trim : ICode :=
 (.seq
 (.region [oN 4 (.mov (.c (.str [])))] [4] false)
 (.seq
 (.seq
 (.region [oN 7 (.mov (.t 0)),
 oN 8 (.bin .eql .val (.t 7) (.c (.str []))),
 oN 9 (.mov (.t 8)),
 oG 10 (some (9, false)) (.mov (.t 1)),
 oG 11 (some (9, false)) (.bin .eql .val (.t 10) (.c (.str []))),
 oN 12 (.pick (.t 9) (.c (.bool true)) (.t 11))] [12] false)
 (.cond (.t 12)
 (.seq
 (.region [oN 13 (.mov (.t 0)),
 oN 4 (.mov (.t 13))] [4] false)
 .ret)
 .skip))
 (.seq
 (.seq
 (.region [oN 14 (.mov (.t 1)),
 oN 15 (.len .str (.t 14)),
 oN 16 (.bin .eql .val (.t 15) (.c (.int .i64 1))),
 oN 17 (.mov (.t 16)),
 oG 18 (some (17, true)) (.mov (.t 1)),
 oG 19 (some (17, true)) (.index (.t 18) (.c (.int .i64 0))),
 oG 20 (some (17, true)) (.bin .lss .val (.t 19) (.c (.int .u8 128))),
 oN 21 (.pick (.t 17) (.t 20) (.c (.bool false)))] [21] false)
 (.cond (.t 21)
 (.seq
 (.region [oN 22 (.mov (.t 0)),
 oN 23 (.mov (.t 1)),
 oN 24 (.index (.t 23) (.c (.int .i64 0))),
 oM 25 (.call (.c (.fn n_strings_trimRightByte [] [])) [(.t 22), (.t 24)]),
 oN 26 (.mov (.t 1)),
 oN 27 (.index (.t 26) (.c (.int .i64 0))),
 oM 28 (.call (.c (.fn n_strings_trimLeftByte [] [])) [(.t 25), (.t 27)]),
 oN 4 (.mov (.t 28))] [4] true)
 .ret)
 .skip))
 (.seq
 (.seq
 (.region [oN 30 (.mov (.t 1)),
 oN 31 (.call (.c (.fn n_strings_makeASCIISet [] [])) [(.t 30)]),
 oN 29 (.mov (.t 31)),
 oN 32 (.ext (.t 29) 0),
 oN 33 (.ext (.t 29) 1),
 oN 5 (.alloc [.bool false, .bool false, .bool false, .bool false, .bool false, .bool false, .bool false, .bool false, .bool false, .bool false, .bool false, .bool false, .bool false, .bool false, .bool false, .bool false, .bool false, .bool false, .bool false, .bool false, .bool false, .bool false, .bool false, .bool false, .bool false, .bool false, .bool false, .bool false, .bool false, .bool false, .bool false, .bool false, .bool false, .bool false, .bool false, .bool false, .bool false, .bool false, .bool false, .bool false, .bool false, .bool false, .bool false, .bool false, .bool false, .bool false, .bool false, .bool false, .bool false, .bool false, .bool false, .bool false, .bool false, .bool false, .bool false, .bool false, .bool false, .bool false, .bool false, .bool false, .bool false, .bool false, .bool false, .bool false, .bool false, .bool false, .bool false, .bool false, .bool false, .bool false, .bool false, .bool false, .bool false, .bool false, .bool false, .bool false, .bool false, .bool false, .bool false, .bool false, .bool false, .bool false, .bool false, .bool false, .bool false, .bool false, .bool false, .bool false, .bool false, .bool false, .bool false, .bool false, .bool false, .bool false, .bool false, .bool false, .bool false, .bool false, .bool false, .bool false, .bool false, .bool false, .bool false, .bool false, .bool false, .bool false, .bool false, .bool false, .bool false, .bool false, .bool false, .bool false, .bool false, .bool false, .bool false, .bool false, .bool false, .bool false, .bool false, .bool false, .bool false, .bool false, .bool false, .bool false, .bool false, .bool false, .bool false, .bool false, .bool false, .bool false, .bool false, .bool false, .bool false, .bool false, .bool false, .bool false, .bool false, .bool false, .bool false, .bool false, .bool false, .bool false, .bool false, .bool false, .bool false, .bool false, .bool false, .bool false, .bool false, .bool false, .bool false, .bool false, .bool false, .bool false, .bool false, .bool false, .bool false, .bool false, .bool false, .bool false, .bool false, .bool false, .bool false, .bool false, .bool false, .bool false, .bool false, .bool false, .bool false, .bool false, .bool false, .bool false, .bool false, .bool false, .bool false, .bool false, .bool false, .bool false, .bool false, .bool false, .bool false, .bool false, .bool false, .bool false, .bool false, .bool false, .bool false, .bool false, .bool false, .bool false, .bool false, .bool false, .bool false, .bool false, .bool false, .bool false, .bool false, .bool false, .bool false, .bool false, .bool false, .bool false, .bool false, .bool false, .bool false, .bool false, .bool false, .bool false, .bool false, .bool false, .bool false, .bool false, .bool false, .bool false, .bool false, .bool false, .bool false, .bool false, .bool false, .bool false, .bool false, .bool false, .bool false, .bool false, .bool false, .bool false, .bool false, .bool false, .bool false, .bool false, .bool false, .bool false, .bool false, .bool false, .bool false, .bool false, .bool false, .bool false, .bool false, .bool false, .bool false, .bool false, .bool false, .bool false, .bool false, .bool false, .bool false, .bool false, .bool false, .bool false, .bool false, .bool false, .bool false, .bool false, .bool false, .bool false]),
 oU (.store 256 (.t 5) (.t 32)),
 oN 6 (.mov (.t 33))] [5, 6] false)
 (.seq
 (.region [oN 34 (.mov (.t 6))] [34] false)
 (.cond (.t 34)
 (.seq
 (.region [oN 35 (.mov (.t 0)),
 oN 36 (.call (.c (.fn n_strings_trimRightASCII [] [])) [(.t 35), (.t 5)]),
 oN 37 (.call (.c (.fn n_strings_trimLeftASCII [] [])) [(.t 36), (.t 5)]),
 oN 4 (.mov (.t 37))] [4] false)
 .ret)
 .skip)))
 (.seq
 (.region [oN 38 (.mov (.t 0)),
 oN 39 (.mov (.t 1)),
 oN 40 (.call (.c (.fn n_strings_trimRightUnicode [] [])) [(.t 38), (.t 39)]),
 oN 41 (.mov (.t 1)),
 oN 42 (.call (.c (.fn n_strings_trimLeftUnicode [] [])) [(.t 40), (.t 41)]),
 oN 4 (.mov (.t 42))] [4] false)
 .ret)))))
def F_strings_Trim : IFn := ⟨2, b_strings_Trim, [.t 4], .pure⟩
def v_strings_Trim : List Nat := [0, 1, 4, 5, 6, 12, 21, 34]

/- strings.TrimLeft -/
def b_strings_TrimLeft : ICode :=
 (.seq
 (.region [oN 4 (.mov (.c (.str [])))] [4] false)
 (.seq
 (.seq
 (.region [oN 7 (.mov (.t 0)),
 oN 8 (.bin .eql .val (.t 7) (.c (.str []))),
 oN 9 (.mov (.t 8)),
 oG 10 (some (9, false)) (.mov (.t 1)),
 oG 11 (some (9, false)) (.bin .eql .val (.t 10) (.c (.str []))),
 oN 12 (.pick (.t 9) (.c (.bool true)) (.t 11))] [12] false)
 (.cond (.t 12)
 (.seq
 (.region [oN 13 (.mov (.t 0)),
 oN 4 (.mov (.t 13))] [4] false)
 .ret)
 .skip))
 (.seq
 (.seq
 (.region [oN 14 (.mov (.t 1)),
 oN 15 (.len .str (.t 14)),
 oN 16 (.bin .eql .val (.t 15) (.c (.int .i64 1))),
 oN 17 (.mov (.t 16)),
 oG 18 (some (17, true)) (.mov (.t 1)),
 oG 19 (some (17, true)) (.index (.t 18) (.c (.int .i64 0))),
 oG 20 (some (17, true)) (.bin .lss .val (.t 19) (.c (.int .u8 128))),
 oN 21 (.pick (.t 17) (.t 20) (.c (.bool false)))] [21] false)
 (.cond (.t 21)
 (.seq
 (.region [oN 22 (.mov (.t 0)),
 oN 23 (.mov (.t 1)),
 oN 24 (.index (.t 23) (.c (.int .i64 0))),
 oN 25 (.call (.c (.fn n_strings_trimLeftByte [] [])) [(.t 22), (.t 24)]),
 oN 4 (.mov (.t 25))] [4] false)
 .ret)
 .skip))
 (.seq
 (.seq
 (.region [oN 27 (.mov (.t 1)),
 oN 28 (.call (.c (.fn n_strings_makeASCIISet [] [])) [(.t 27)]),
 oN 26 (.mov (.t 28)),
 oN 29 (.ext (.t 26) 0),
 oN 30 (.ext (.t 26) 1),
 oN 5 (.alloc [.bool false, .bool false, .bool false, .bool false, .bool false, .bool false, .bool false, .bool false, .bool false, .bool false, .bool false, .bool false, .bool false, .bool false, .bool false, .bool false, .bool false, .bool false, .bool false, .bool false, .bool false, .bool false, .bool false, .bool false, .bool false, .bool false, .bool false, .bool false, .bool false, .bool false, .bool false, .bool false, .bool false, .bool false, .bool false, .bool false, .bool false, .bool false, .bool false, .bool false, .bool false, .bool false, .bool false, .bool false, .bool false, .bool false, .bool false, .bool false, .bool false, .bool false, .bool false, .bool false, .bool false, .bool false, .bool false, .bool false, .bool false, .bool false, .bool false, .bool false, .bool false, .bool false, .bool false, .bool false, .bool false, .bool false, .bool false, .bool false, .bool false, .bool false, .bool false, .bool false, .bool false, .bool false, .bool false, .bool false, .bool false, .bool false, .bool false, .bool false, .bool false, .bool false, .bool false, .bool false, .bool false, .bool false, .bool false, .bool false, .bool false, .bool false, .bool false, .bool false, .bool false, .bool false, .bool false, .bool false, .bool false, .bool false, .bool false, .bool false, .bool false, .bool false, .bool false, .bool false, .bool false, .bool false, .bool false, .bool false, .bool false, .bool false, .bool false, .bool false, .bool false, .bool false, .bool false, .bool false, .bool false, .bool false, .bool false, .bool false, .bool false, .bool false, .bool false, .bool false, .bool false, .bool false, .bool false, .bool false, .bool false, .bool false, .bool false, .bool false, .bool false, .bool false, .bool false, .bool false, .bool false, .bool false, .bool false, .bool false, .bool false, .bool false, .bool false, .bool false, .bool false, .bool false, .bool false, .bool false, .bool false, .bool false, .bool false, .bool false, .bool false, .bool false, .bool false, .bool false, .bool false, .bool false, .bool false, .bool false, .bool false, .bool false, .bool false, .bool false, .bool false, .bool false, .bool false, .bool false, .bool false, .bool false, .bool false, .bool false, .bool false, .bool false, .bool false, .bool false, .bool false, .bool false, .bool false, .bool false, .bool false, .bool false, .bool false, .bool false, .bool false, .bool false, .bool false, .bool false, .bool false, .bool false, .bool false, .bool false, .bool false, .bool false, .bool false, .bool false, .bool false, .bool false, .bool false, .bool false, .bool false, .bool false, .bool false, .bool false, .bool false, .bool false, .bool false, .bool false, .bool false, .bool false, .bool false, .bool false, .bool false, .bool false, .bool false, .bool false, .bool false, .bool false, .bool false, .bool false, .bool false, .bool false, .bool false, .bool false, .bool false, .bool false, .bool false, .bool false, .bool false, .bool false, .bool false, .bool false, .bool false, .bool false, .bool false, .bool false, .bool false, .bool false, .bool false, .bool false, .bool false, .bool false, .bool false, .bool false, .bool false, .bool false, .bool false, .bool false, .bool false, .bool false, .bool false, .bool false, .bool false, .bool false, .bool false, .bool false]),
 oU (.store 256 (.t 5) (.t 29)),
 oN 6 (.mov (.t 30))] [5, 6] false)
 (.seq
 (.region [oN 31 (.mov (.t 6))] [31] false)
 (.cond (.t 31)
 (.seq
 (.region [oN 32 (.mov (.t 0)),
 oN 33 (.call (.c (.fn n_strings_trimLeftASCII [] [])) [(.t 32), (.t 5)]),
 oN 4 (.mov (.t 33))] [4] false)
 .ret)
 .skip)))
 (.seq
 (.region [oN 34 (.mov (.t 0)),
 oN 35 (.mov (.t 1)),
 oN 36 (.call (.c (.fn n_strings_trimLeftUnicode [] [])) [(.t 34), (.t 35)]),
 oN 4 (.mov (.t 36))] [4] false)
 .ret)))))
def F_strings_TrimLeft : IFn := ⟨2, b_strings_TrimLeft, [.t 4], .pure⟩
def v_strings_TrimLeft : List Nat := [0, 1, 4, 5, 6, 12, 21, 31]

/- chiasmus/builtin.number -/
def b_builtin_number : ICode :=
 (.seq
 (.region [oN 2 (.alloc [.int .i64 0, .str [], .sl .nil 3 []])] [2] false)
 (.seq
 (.region [oN 3 (.mov (.t 0)),
 oN 4 (.build [.int .i64 0, .str [], .sl .nil 3 []] [(0, 1, (.c (.int .i64 3))), (1, 1, (.t 3))]),
 oU (.store 3 (.t 2) (.t 4))] [] false)
 .ret))
def F_builtin_number : IFn := ⟨1, b_builtin_number, [.cell 2 true 3], .pure⟩
def v_builtin_number : List Nat := [0, 2]

/- chiasmus/term.Chars -/
def l0_term_Chars : ICode :=
 (.seq
 (.region [oN 8 (.bin .lss .val (.t 7) (.t 6))] [8] false)
 (.seq
 (.cond (.t 8)
 .skip
 (.exit 0))
 (.seq
 (.block 1
 (.seq
 (.region [oN 9 (.mov (.t 7)),
 oN 4 (.mov (.t 9))] [4] false)
 (.region [oN 10 (.mov (.t 3)),
 oN 11 (.mov (.t 0)),
 oN 12 (.mov (.t 4)),
 oN 13 (.mov (.t 4)),
 oN 14 (.bin .add .val (.t 13) (.c (.int .i64 1))),
 oN 15 (.slice 0 (.t 11) (some (.t 12)) (some (.t 14)) none),
 oN 16 (.build [.int .i64 0, .str [], .sl .nil 3 []] [(0, 1, (.c (.int .i64 1))), (1, 1, (.t 15))]),
 oN 17 (.bslice 3 [.int .i64 0, .str [], .sl .nil 3 []] 1 [(0, (.t 16))]),
 oN 18 (.app 3 (.t 10) (.t 17)),
 oN 3 (.mov (.t 18))] [3] false)))
 (.region [oN 19 (.bin .add .val (.t 7) (.c (.int .i64 1))),
 oN 7 (.mov (.t 19))] [7] false))))
def b_term_Chars : ICode :=
 (.seq
 (.region [oN 2 (.mov (.c (.sl .nil 3 [])))] [2] false)
 (.seq
 (.region [oN 3 (.mov (.c (.sl .nil 3 [])))] [3] false)
 (.seq
 (.seq
 (.region [oN 5 (.mov (.t 0)),
 oN 6 (.len .str (.t 5)),
 oN 7 (.mov (.c (.int .i64 0)))] [6, 7] false)
 (.block 0
 (.loop [2, 4, 8] l0_term_Chars)))
 (.seq
 (.region [oN 20 (.mov (.t 3)),
 oN 2 (.mov (.t 20))] [2] false)
 .ret))))
def F_term_Chars : IFn := ⟨1, b_term_Chars, [.t 2], .pure⟩
def v_term_Chars : List Nat := [0, 2, 3, 4, 6, 7, 8]

/- (*chiasmus/builtin.call).single -/
def b___builtin_call__single : ICode :=
 (.seq
 (.region [oN 4 (.mov (.c (.str [])))] [4] false)
 (.seq
 (.region [oN 5 (.mov (.t 0)),
 oN 6 (.nilchk (.t 5)),
 oN 7 (.faddr 0 (.t 6)),
 oN 8 (.load false 1 (.t 7)),
 oN 9 (.len .slice (.t 8)),
 oN 10 (.bin .eql .val (.t 9) (.c (.int .i64 1))),
 oN 11 (.mov (.t 10)),
 oG 12 (some (11, true)) (.mov (.t 0)),
 oG 13 (some (11, true)) (.nilchk (.t 12)),
 oG 14 (some (11, true)) (.faddr 0 (.t 13)),
 oG 15 (some (11, true)) (.load false 1 (.t 14)),
 oG 16 (some (11, true)) (.iaddr 3 (.t 15) (.c (.int .i64 0))),
 oG 17 (some (11, true)) (.faddr 0 (.t 16)),
 oG 18 (some (11, true)) (.load false 1 (.t 17)),
 oG 19 (some (11, true)) (.mov (.t 1)),
 oG 20 (some (11, true)) (.bin .eql .val (.t 18) (.t 19)),
 oN 21 (.pick (.t 11) (.t 20) (.c (.bool false))),
 oN 22 (.call (.c (.fn n_builtin_need [] [])) [(.t 21), (.c (.int .i64 22))])] [] false)
 (.seq
 (.region [oN 23 (.mov (.t 0)),
 oN 24 (.nilchk (.t 23)),
 oN 25 (.faddr 0 (.t 24)),
 oN 26 (.load false 1 (.t 25)),
 oN 27 (.iaddr 3 (.t 26) (.c (.int .i64 0))),
 oN 28 (.faddr 1 (.t 27)),
 oN 29 (.load false 1 (.t 28)),
 oN 4 (.mov (.t 29))] [4] false)
 .ret)))
def F___builtin_call__single : IFn := ⟨2, b___builtin_call__single, [.t 4], .pure⟩
def v___builtin_call__single : List Nat := [0, 1, 4]

/- strconv.Atoi -/
def b_strconv_Atoi : ICode :=
 (.seq
 (.region [oN 2 (.mov (.c (.int .i64 0))),
 oN 3 (.mov (.c (.nilif)))] [2, 3] false)
 (.seq
 (.region [oN 7 (.mov (.t 0)),
 oN 8 (.call (.c (.fn n_internal_strconv_Atoi [] [])) [(.t 7)]),
 oN 6 (.mov (.t 8)),
 oN 9 (.ext (.t 6) 0),
 oN 10 (.ext (.t 6) 1),
 oN 4 (.mov (.t 9)),
 oN 5 (.mov (.t 10))] [4, 5] false)
 (.seq
 (.seq
 (.region [oN 11 (.mov (.t 5)),
 oN 12 (.bin .neq .iface (.t 11) (.c (.nilif)))] [12] false)
 (.cond (.t 12)
 (.seq
 (.region [oN 13 (.mov (.t 4)),
 oN 14 (.mov (.t 0)),
 oN 15 (.mov (.t 5)),
 oN 16 (.call (.c (.fn n_strconv_toError [] [])) [(.c (.str [65, 116, 111, 105])), (.t 14), (.c (.int .i64 0)), (.c (.int .i64 0)), (.t 15)]),
 oN 2 (.mov (.t 13)),
 oN 3 (.mov (.t 16))] [2, 3] false)
 .ret)
 .skip))
 (.seq
 (.region [oN 17 (.mov (.t 4)),
 oN 2 (.mov (.t 17)),
 oN 3 (.mov (.c (.nilif)))] [2, 3] false)
 .ret))))
def F_strconv_Atoi : IFn := ⟨1, b_strconv_Atoi, [.t 2, .t 3], .pure⟩
def v_strconv_Atoi : List Nat := [0, 2, 3, 4, 5, 12]

/- (*chiasmus/builtin.call).cut -/
def b___builtin_call__cut : ICode :=
 (.seq
 (.region [oN 2 (.mov (.c (.int .i64 0))),
 oN 3 (.mov (.c (.sl .nil 3 [])))] [2, 3] false)
 (.seq
 (.region [oN 5 (.mov (.t 0)),
 oN 6 (.nilchk (.t 5)),
 oN 7 (.faddr 0 (.t 6)),
 oN 8 (.load false 1 (.t 7)),
 oN 9 (.len .slice (.t 8)),
 oN 10 (.bin .gtr .val (.t 9) (.c (.int .i64 0))),
 oN 11 (.mov (.t 10)),
 oG 12 (some (11, true)) (.mov (.t 0)),
 oG 13 (some (11, true)) (.nilchk (.t 12)),
 oG 14 (some (11, true)) (.faddr 0 (.t 13)),
 oG 15 (some (11, true)) (.load false 1 (.t 14)),
 oG 16 (some (11, true)) (.iaddr 3 (.t 15) (.c (.int .i64 0))),
 oG 17 (some (11, true)) (.faddr 0 (.t 16)),
 oG 18 (some (11, true)) (.load false 1 (.t 17)),
 oG 19 (some (11, true)) (.bin .eql .val (.t 18) (.c (.int .i64 3))),
 oN 20 (.pick (.t 11) (.t 19) (.c (.bool false))),
 oN 21 (.mov (.t 20)),
 oG 22 (some (21, true)) (.mov (.t 0)),
 oG 23 (some (21, true)) (.nilchk (.t 22)),
 oG 24 (some (21, true)) (.faddr 0 (.t 23)),
 oG 25 (some (21, true)) (.load false 1 (.t 24)),
 oG 26 (some (21, true)) (.iaddr 3 (.t 25) (.c (.int .i64 0))),
 oG 27 (some (21, true)) (.faddr 1 (.t 26)),
 oG 28 (some (21, true)) (.load false 1 (.t 27)),
 oG 29 (some (21, true)) (.index (.t 28) (.c (.int .i64 0))),
 oG 30 (some (21, true)) (.bin .neq .val (.t 29) (.c (.int .u8 45))),
 oN 31 (.pick (.t 21) (.t 30) (.c (.bool false))),
 oN 32 (.call (.c (.fn n_builtin_need [] [])) [(.t 31), (.c (.int .i64 22))])] [] false)
 (.seq
 (.region [oN 33 (.mov (.t 0)),
 oN 34 (.nilchk (.t 33)),
 oN 35 (.faddr 0 (.t 34)),
 oN 36 (.load false 1 (.t 35)),
 oN 37 (.slice 3 (.t 36) (some (.c (.int .i64 1))) none none),
 oN 3 (.mov (.t 37))] [3] false)
 (.seq
 (.region [oN 39 (.mov (.t 0)),
 oN 40 (.nilchk (.t 39)),
 oN 41 (.faddr 0 (.t 40)),
 oN 42 (.load false 1 (.t 41)),
 oN 43 (.iaddr 3 (.t 42) (.c (.int .i64 0))),
 oN 44 (.faddr 1 (.t 43)),
 oN 45 (.load false 1 (.t 44)),
 oN 46 (.call (.c (.fn n_strconv_Atoi [] [])) [(.t 45)]),
 oN 38 (.mov (.t 46)),
 oN 47 (.ext (.t 38) 0),
 oN 48 (.ext (.t 38) 1),
 oN 2 (.mov (.t 47)),
 oN 4 (.mov (.t 48))] [2, 4] false)
 (.seq
 (.seq
 (.region [oN 49 (.mov (.t 4)),
 oN 50 (.bin .neq .iface (.t 49) (.c (.nilif))),
 oN 51 (.mov (.t 50)),
 oG 52 (some (51, false)) (.mov (.t 2)),
 oG 53 (some (51, false)) (.mov (.t 3)),
 oG 54 (some (51, false)) (.len .slice (.t 53)),
 oG 55 (some (51, false)) (.bin .gtr .val (.t 52) (.t 54)),
 oN 56 (.pick (.t 51) (.c (.bool true)) (.t 55))] [56] false)
 (.cond (.t 56)
 (.region [oN 57 (.mov (.t 3)),
 oN 58 (.len .slice (.t 57)),
 oN 2 (.mov (.t 58))] [2] false)
 .skip))
 (.seq
 (.region [oN 59 (.mov (.t 2)),
 oN 60 (.mov (.t 3)),
 oN 2 (.mov (.t 59)),
 oN 3 (.mov (.t 60))] [2, 3] false)
 .ret))))))
def F___builtin_call__cut : IFn := ⟨1, b___builtin_call__cut, [.t 2, .t 3], .pure⟩
def v___builtin_call__cut : List Nat := [0, 2, 3, 4, 56]

/- chiasmus/builtin.halves -/
def b_builtin_halves : ICode :=
 (.seq
 (.region [oN 4 (.mov (.c (.sl .nil 3 [])))] [4] false)
 (.seq
 (.region [oN 5 (.mov (.t 0)),
 oN 6 (.mov (.t 1)),
 oN 7 (.slice 3 (.t 5) none (some (.t 6)) none),
 oM 8 (.call (.c (.fn n_builtin_group [] [])) [(.t 7)]),
 oN 9 (.bslice 3 [.int .i64 0, .str [], .sl .nil 3 []] 1 [(0, (.t 8))]),
 oN 10 (.mov (.t 0)),
 oN 11 (.mov (.t 1)),
 oN 12 (.slice 3 (.t 10) (some (.t 11)) none none),
 oN 13 (.app 3 (.t 9) (.t 12)),
 oN 4 (.mov (.t 13))] [4] true)
 .ret))
def F_builtin_halves : IFn := ⟨2, b_builtin_halves, [.t 4], .pure⟩
def v_builtin_halves : List Nat := [0, 1, 4]

/- (*chiasmus/builtin.call).implode$1 -/
def b___builtin_call__implode_1 : ICode :=
 (.seq
 (.region [oN 2 (.mov (.c (.bool false)))] [2] false)
 (.seq
 (.region [oN 3 (.mov (.t 0)),
 oN 4 (.bin .lss .val (.t 3) (.c (.int .i32 32))),
 oN 5 (.mov (.t 4)),
 oG 6 (some (5, false)) (.mov (.t 0)),
 oG 7 (some (5, false)) (.bin .gtr .val (.t 6) (.c (.int .i32 126))),
 oN 8 (.pick (.t 5) (.c (.bool true)) (.t 7)),
 oN 2 (.mov (.t 8))] [2] false)
 .ret))
def F___builtin_call__implode_1 : IFn := ⟨1, b___builtin_call__implode_1, [.t 2], .pure⟩
def v___builtin_call__implode_1 : List Nat := [0, 2]

/- chiasmus/term.Result -/
def b_term_Result : ICode :=
 (.seq
 (.region [oN 2 (.mov (.c (.int .i64 0)))] [2] false)
 (.seq
 (.region [oN 3 (.mov (.t 0)),
 oN 4 (.call (.c (.fn n_term_check [] [])) [(.t 3), (.c (.int .i64 8))]),
 oN 2 (.mov (.t 4))] [2] false)
 .ret))
def F_term_Result : IFn := ⟨1, b_term_Result, [.t 2], .pure⟩
def v_term_Result : List Nat := [0, 2]

/- chiasmus/meta.Up -/
def b_meta_Up : ICode :=
 (.seq
 (.region [oN 2 (.mov (.c (.sl .nil 3 []))),
 oN 3 (.mov (.c (.int .i64 0)))] [2, 3] false)
 (.seq
 (.seq
 (.region [oN 7 (.mov (.t 0)),
 oN 8 (.call (.c (.fn n_term_Result [] [])) [(.t 7)]),
 oN 4 (.mov (.t 8))] [4] false)
 (.seq
 (.region [oN 9 (.mov (.t 4)),
 oN 10 (.bin .neq .val (.t 9) (.c (.int .i64 0)))] [10] false)
 (.cond (.t 10)
 (.seq
 (.region [oN 11 (.mov (.t 4)),
 oN 2 (.mov (.c (.sl .nil 3 []))),
 oN 3 (.mov (.t 11))] [2, 3] false)
 .ret)
 .skip)))
 (.seq
 (.region [oN 12 (.mov (.t 0)),
 oN 13 (.call (.c (.fn n_meta_up [] [])) [(.t 12)]),
 oN 5 (.mov (.t 13))] [5] false)
 (.seq
 (.seq
 (.region [oN 14 (.mov (.t 5)),
 oN 15 (.call (.c (.fn n_meta_fits [] [])) [(.t 14)]),
 oN 6 (.mov (.t 15))] [6] false)
 (.seq
 (.region [oN 16 (.mov (.t 6)),
 oN 17 (.bin .neq .val (.t 16) (.c (.int .i64 0)))] [17] false)
 (.cond (.t 17)
 (.seq
 (.region [oN 18 (.mov (.t 6)),
 oN 2 (.mov (.c (.sl .nil 3 []))),
 oN 3 (.mov (.t 18))] [2, 3] false)
 .ret)
 .skip)))
 (.seq
 (.region [oN 19 (.mov (.t 5)),
 oN 2 (.mov (.t 19)),
 oN 3 (.mov (.c (.int .i64 0)))] [2, 3] false)
 .ret)))))
def F_meta_Up : IFn := ⟨1, b_meta_Up, [.t 2, .t 3], .pure⟩
def v_meta_Up : List Nat := [0, 2, 3, 4, 5, 6, 10, 17]

/- chiasmus/meta.Dn -/
def b_meta_Dn : ICode :=
 (.seq
 (.region [oN 2 (.mov (.c (.sl .nil 3 []))),
 oN 3 (.mov (.c (.int .i64 0)))] [2, 3] false)
 (.seq
 (.seq
 (.region [oN 7 (.mov (.t 0)),
 oN 8 (.call (.c (.fn n_term_Value [] [])) [(.t 7)]),
 oN 4 (.mov (.t 8))] [4] false)
 (.seq
 (.region [oN 9 (.mov (.t 4)),
 oN 10 (.bin .neq .val (.t 9) (.c (.int .i64 0)))] [10] false)
 (.cond (.t 10)
 (.seq
 (.region [oN 11 (.mov (.t 4)),
 oN 2 (.mov (.c (.sl .nil 3 []))),
 oN 3 (.mov (.t 11))] [2, 3] false)
 .ret)
 .skip)))
 (.seq
 (.region [oN 13 (.mov (.t 0)),
 oN 14 (.call (.c (.fn n_meta_dn [] [])) [(.t 13)]),
 oN 12 (.mov (.t 14)),
 oN 15 (.ext (.t 12) 0),
 oN 16 (.ext (.t 12) 1),
 oN 5 (.mov (.t 15)),
 oN 6 (.mov (.t 16))] [5, 6] false)
 (.seq
 (.seq
 (.region [oN 17 (.mov (.t 6)),
 oN 18 (.un .not (.t 17)),
 oN 19 (.mov (.t 18)),
 oG 20 (some (19, false)) (.mov (.t 5)),
 oG 21 (some (19, false)) (.call (.c (.fn n_term_Result [] [])) [(.t 20)]),
 oG 22 (some (19, false)) (.bin .neq .val (.t 21) (.c (.int .i64 0))),
 oN 23 (.pick (.t 19) (.c (.bool true)) (.t 22))] [23] false)
 (.cond (.t 23)
 (.seq
 (.region [oN 2 (.mov (.c (.sl .nil 3 []))),
 oN 3 (.mov (.c (.int .i64 110)))] [2, 3] false)
 .ret)
 .skip))
 (.seq
 (.region [oN 24 (.mov (.t 5)),
 oN 2 (.mov (.t 24)),
 oN 3 (.mov (.c (.int .i64 0)))] [2, 3] false)
 .ret)))))
def F_meta_Dn : IFn := ⟨1, b_meta_Dn, [.t 2, .t 3], .pure⟩
def v_meta_Dn : List Nat := [0, 2, 3, 4, 5, 6, 10, 23]

/- chiasmus/term.Variables -/
def l0_term_Variables : ICode :=
 (.block 1
 (.seq
 (.region [oN 11 (.load true 3 (.t 5)),
 oN 12 (.call (.c (.fn n_term_Name [] [])) [(.t 11)]),
 oN 6 (.mov (.t 12))] [6] false)
 (.seq
 (.region [oN 13 (.mov (.t 6)),
 oN 14 (.bin .neq .val (.t 13) (.c (.str []))),
 oN 15 (.mov (.t 14)),
 oG 16 (some (15, true)) (.load false 1 (.t 4)),
 oG 17 (some (15, true)) (.mov (.t 6)),
 oG 18 (some (15, true)) (.lookup .str (.bool false) (.t 16) (.t 17) false),
 oG 19 (some (15, true)) (.un .not (.t 18)),
 oN 20 (.pick (.t 15) (.t 19) (.c (.bool false)))] [20] false)
 (.cond (.t 20)
 (.seq
 (.region [oN 21 (.load false 1 (.t 4)),
 oN 22 (.mov (.t 6)),
 oU (.mapset .str (.t 21) (.t 22) (.c (.bool true)))] [] false)
 (.region [oN 23 (.load false 1 (.t 3)),
 oN 24 (.mov (.t 6)),
 oN 25 (.bslice 1 [.str []] 1 [(0, (.t 24))]),
 oN 26 (.app 1 (.t 23) (.t 25)),
 oU (.store 1 (.t 3) (.t 26))] [] false))
 .skip))))
def b_term_Variables : ICode :=
 (.seq
 (.region [oN 2 (.mov (.c (.sl .nil 1 [])))] [2] false)
 (.seq
 (.region [oN 3 (.alloc [.sl .nil 1 []])] [3] false)
 (.seq
 (.region [oN 7 (.mkmap),
 oN 4 (.alloc [.map none]),
 oU (.store 1 (.t 4) (.t 7))] [4] false)
 (.seq
 (.seq
 (.region [oN 8 (.mov (.t 0)),
 oN 9 (.call (.c (.fn n_term_all [] [])) [(.t 8)])] [9] false)
 (.block 0
 (.rangeFn (.t 9) [10]
 (.region [oN 5 (.alloc [.int .i64 0, .str [], .sl .nil 3 []]),
 oU (.store 3 (.t 5) (.t 10))] [5] false) l0_term_Variables)))
 (.seq
 (.region [oN 27 (.load false 1 (.t 3)),
 oN 2 (.mov (.t 27))] [2] false)
 .ret)))))
def F_term_Variables : IFn := ⟨1, b_term_Variables, [.t 2], .pure⟩
def v_term_Variables : List Nat := [0, 2, 3, 4, 5, 6, 9, 10, 20]

/- (*chiasmus/builtin.call).put -/
def b___builtin_call__put : ICode :=
 (.seq
 (.region [oN 6 (.mov (.c (.sl .nil 3 [])))] [6] false)
 (.seq
 (.region [oN 7 (.mov (.t 0)),
 oN 8 (.nilchk (.t 7)),
 oN 9 (.faddr 1 (.t 8)),
 oN 10 (.faddr 0 (.t 9)),
 oN 11 (.load false 1 (.t 10)),
 oN 12 (.len .slice (.t 11)),
 oN 13 (.bin .lss .val (.t 12) (.c (.int .i64 200))),
 oN 14 (.call (.c (.fn n_builtin_need [] [])) [(.t 13), (.c (.int .i64 7))])] [] false)
 (.seq
 (.region [oN 15 (.mov (.t 0)),
 oN 16 (.mov (.t 0)),
 oN 17 (.nilchk (.t 16)),
 oN 18 (.faddr 1 (.t 17)),
 oN 19 (.faddr 0 (.t 18)),
 oN 20 (.load false 1 (.t 19)),
 oN 21 (.mov (.t 1)),
 oN 22 (.mov (.t 2)),
 oN 23 (.build [.sl .nil 3 [], .sl .nil 3 []] [(0, 1, (.t 21)), (1, 1, (.t 22))]),
 oN 24 (.bslice 2 [.sl .nil 3 [], .sl .nil 3 []] 1 [(0, (.t 23))]),
 oN 25 (.call (.c (.fn n_slices_Insert___api_Buried_api_Buried_ [] [])) [(.t 20), (.c (.int .i64 0)), (.t 24)]),
 oN 26 (.nilchk (.t 15)),
 oN 27 (.faddr 1 (.t 26)),
 oN 28 (.faddr 0 (.t 27)),
 oU (.store 1 (.t 28) (.t 25))] [] false)
 (.seq
 (.region [oN 6 (.mov (.c (.sl .nil 3 [])))] [6] false)
 .ret))))
def F___builtin_call__put : IFn := ⟨3, b___builtin_call__put, [.t 6], .eff⟩
def v___builtin_call__put : List Nat := [0, 1, 2, 6]

/- (*chiasmus/builtin.call).keyed -/
def b___builtin_call__keyed : ICode :=
 (.seq
 (.region [oN 2 (.mov (.c (.sl .nil 3 []))),
 oN 3 (.mov (.c (.sl .nil 3 [])))] [2, 3] false)
 (.seq
 (.region [oN 5 (.mov (.t 0)),
 oN 6 (.nilchk (.t 5)),
 oN 7 (.faddr 0 (.t 6)),
 oN 8 (.load false 1 (.t 7)),
 oN 9 (.call (.c (.fn n_slices_IndexFunc___api_Term_api_Term_ [] [])) [(.t 8), (.c (.fn n___builtin_call__keyed_1 [] []))]),
 oN 4 (.mov (.t 9))] [4] false)
 (.seq
 (.region [oN 10 (.mov (.t 4)),
 oN 11 (.bin .geq .val (.t 10) (.c (.int .i64 0))),
 oN 12 (.call (.c (.fn n_builtin_need [] [])) [(.t 11), (.c (.int .i64 22))])] [] false)
 (.seq
 (.region [oN 13 (.mov (.t 0)),
 oN 14 (.nilchk (.t 13)),
 oN 15 (.faddr 0 (.t 14)),
 oN 16 (.load false 1 (.t 15)),
 oN 17 (.mov (.t 4)),
 oN 18 (.slice 3 (.t 16) none (some (.t 17)) none),
 oN 19 (.mov (.t 0)),
 oN 20 (.nilchk (.t 19)),
 oN 21 (.faddr 0 (.t 20)),
 oN 22 (.load false 1 (.t 21)),
 oN 23 (.mov (.t 4)),
 oN 24 (.bin .add .val (.t 23) (.c (.int .i64 1))),
 oN 25 (.slice 3 (.t 22) (some (.t 24)) none none),
 oN 2 (.mov (.t 18)),
 oN 3 (.mov (.t 25))] [2, 3] true)
 .ret))))
def F___builtin_call__keyed : IFn := ⟨1, b___builtin_call__keyed, [.t 2, .t 3], .pure⟩
def v___builtin_call__keyed : List Nat := [0, 2, 3, 4]

/- (*chiasmus/builtin.call).top -/
def b___builtin_call__top : ICode :=
 (.seq
 (.region [oN 3 (.box 1 (.t 1)),
 oN 4 (.mov (.c (.int .i64 0)))] [3, 4] false)
 (.seq
 (.region [oN 5 (.mov (.t 0)),
 oN 6 (.nilchk (.t 5)),
 oN 7 (.faddr 1 (.t 6)),
 oN 8 (.faddr 0 (.t 7)),
 oN 9 (.load false 1 (.t 8)),
 oN 10 (.mkfn n___builtin_call__top_1 [] [(.t 3)]),
 oN 11 (.call (.c (.fn n_slices_IndexFunc___api_Buried_api_Buried_ [] [])) [(.t 9), (.t 10)]),
 oN 4 (.mov (.t 11))] [4] false)
 .ret))
def F___builtin_call__top : IFn := ⟨2, b___builtin_call__top, [.t 4], .pure⟩
def v___builtin_call__top : List Nat := [0, 1, 3, 4]

/- slices.Index[[]string,string] -/
def l0_slices_Index___string_string_ : ICode :=
 (.seq
 (.region [oN 9 (.bin .lss .val (.t 8) (.t 7))] [9] false)
 (.seq
 (.cond (.t 9)
 .skip
 (.exit 0))
 (.seq
 (.block 1
 (.seq
 (.region [oN 10 (.mov (.t 8)),
 oN 5 (.mov (.t 10))] [5] false)
 (.seq
 (.region [oN 11 (.mov (.t 1)),
 oN 12 (.mov (.t 0)),
 oN 13 (.mov (.t 5)),
 oN 14 (.iaddr 1 (.t 12) (.t 13)),
 oN 15 (.load false 1 (.t 14)),
 oN 16 (.bin .eql .val (.t 11) (.t 15))] [16] false)
 (.cond (.t 16)
 (.seq
 (.region [oN 17 (.mov (.t 5)),
 oN 4 (.mov (.t 17))] [4] false)
 .ret)
 .skip))))
 (.region [oN 18 (.bin .add .val (.t 8) (.c (.int .i64 1))),
 oN 8 (.mov (.t 18))] [8] false))))
def b_slices_Index___string_string_ : ICode :=
 (.seq
 (.region [oN 4 (.mov (.c (.int .i64 0)))] [4] false)
 (.seq
 (.seq
 (.region [oN 6 (.mov (.t 0)),
 oN 7 (.len .slice (.t 6)),
 oN 8 (.mov (.c (.int .i64 0)))] [7, 8] false)
 (.block 0
 (.loop [4, 5, 9, 16] l0_slices_Index___string_string_)))
 (.seq
 (.region [oN 4 (.mov (.c (.int .i64 (-1))))] [4] false)
 .ret)))
def F_slices_Index___string_string_ : IFn := ⟨2, b_slices_Index___string_string_, [.t 4], .pure⟩
def v_slices_Index___string_string_ : List Nat := [0, 1, 4, 5, 7, 8, 9, 16]

/- chiasmus/term.classOf -/
def b_term_classOf : ICode :=
 (.seq
 (.region [oN 2 (.mov (.c (.int .u8 0)))] [2] false)
 (.seq
 (.block 0
 (.seq
 (.region [oN 4 (.mov (.t 0)),
 oN 5 (.bin .geq .val (.t 4) (.c (.int .u8 97))),
 oN 6 (.mov (.t 5)),
 oG 7 (some (6, true)) (.mov (.t 0)),
 oG 8 (some (6, true)) (.bin .leq .val (.t 7) (.c (.int .u8 122))),
 oN 9 (.pick (.t 6) (.t 8) (.c (.bool false))),
 oN 10 (.mov (.t 9)),
 oG 11 (some (10, false)) (.mov (.t 0)),
 oG 12 (some (10, false)) (.bin .geq .val (.t 11) (.c (.int .u8 65))),
 oG 13 (some (10, false)) (.mov (.t 12)),
 oG 14 (some (13, true)) (.mov (.t 0)),
 oG 15 (some (13, true)) (.bin .leq .val (.t 14) (.c (.int .u8 90))),
 oG 16 (some (10, false)) (.pick (.t 13) (.t 15) (.c (.bool false))),
 oN 17 (.pick (.t 10) (.c (.bool true)) (.t 16)),
 oN 3 (.mov (.t 17))] [3] false)
 (.cond (.t 3)
 (.seq
 (.region [oN 2 (.mov (.c (.int .u8 5)))] [2] false)
 .ret)
 (.seq
 (.region [oN 19 (.mov (.t 0)),
 oN 20 (.bin .geq .val (.t 19) (.c (.int .u8 48))),
 oN 21 (.mov (.t 20)),
 oG 22 (some (21, true)) (.mov (.t 0)),
 oG 23 (some (21, true)) (.bin .leq .val (.t 22) (.c (.int .u8 57))),
 oN 24 (.pick (.t 21) (.t 23) (.c (.bool false))),
 oN 18 (.mov (.t 24))] [18] false)
 (.cond (.t 18)
 (.seq
 (.region [oN 2 (.mov (.c (.int .u8 6)))] [2] false)
 .ret)
 (.seq
 (.region [oN 26 (.mov (.t 0)),
 oN 27 (.bin .eql .val (.t 26) (.c (.int .u8 45))),
 oN 28 (.mov (.t 27)),
 oG 29 (some (28, false)) (.mov (.t 0)),
 oG 30 (some (28, false)) (.bin .eql .val (.t 29) (.c (.int .u8 95))),
 oN 31 (.pick (.t 28) (.c (.bool true)) (.t 30)),
 oN 25 (.mov (.t 31))] [25] false)
 (.cond (.t 25)
 (.seq
 (.region [oN 2 (.mov (.c (.int .u8 4)))] [2] false)
 .ret)
 (.seq
 (.region [oN 33 (.mov (.t 0)),
 oN 34 (.bin .eql .val (.t 33) (.c (.int .u8 32))),
 oN 35 (.mov (.t 34)),
 oG 36 (some (35, false)) (.mov (.t 0)),
 oG 37 (some (35, false)) (.bin .eql .val (.t 36) (.c (.int .u8 9))),
 oN 38 (.pick (.t 35) (.c (.bool true)) (.t 37)),
 oN 39 (.mov (.t 38)),
 oG 40 (some (39, false)) (.mov (.t 0)),
 oG 41 (some (39, false)) (.bin .eql .val (.t 40) (.c (.int .u8 10))),
 oN 42 (.pick (.t 39) (.c (.bool true)) (.t 41)),
 oN 43 (.mov (.t 42)),
 oG 44 (some (43, false)) (.mov (.t 0)),
 oG 45 (some (43, false)) (.bin .eql .val (.t 44) (.c (.int .u8 13))),
 oN 46 (.pick (.t 43) (.c (.bool true)) (.t 45)),
 oN 32 (.mov (.t 46))] [32] false)
 (.cond (.t 32)
 (.seq
 (.region [oN 2 (.mov (.c (.int .u8 8)))] [2] false)
 .ret)
 .skip)))))))))
 (.seq
 (.region [oN 2 (.mov (.c (.int .u8 0)))] [2] false)
 .ret)))
def F_term_classOf : IFn := ⟨1, b_term_classOf, [.t 2], .pure⟩
def v_term_classOf : List Nat := [0, 2, 3, 18, 25, 32]

/- strings.indexFunc -/
def l0_strings_indexFunc : ICode :=
 (.seq
 (.region [oN 11 (.nexts (.t 10)),
 oN 12 (.ext (.t 11) 0)] [11, 12] false)
 (.seq
 (.cond (.t 12)
 .skip
 (.exit 0))
 (.block 1
 (.seq
 (.region [oN 13 (.ext (.t 11) 1),
 oN 14 (.ext (.t 11) 2),
 oN 7 (.mov (.t 13)),
 oN 8 (.mov (.t 14))] [7, 8] false)
 (.seq
 (.region [oN 15 (.mov (.t 1)),
 oN 16 (.mov (.t 8)),
 oN 17 (.call (.t 15) [(.t 16)]),
 oN 18 (.mov (.t 2)),
 oN 19 (.bin .eql .bool (.t 17) (.t 18))] [19] false)
 (.cond (.t 19)
 (.seq
 (.region [oN 20 (.mov (.t 7)),
 oN 6 (.mov (.t 20))] [6] false)
 .ret)
 .skip))))))
def b_strings_indexFunc : ICode :=
 (.seq
 (.region [oN 6 (.mov (.c (.int .i64 0)))] [6] false)
 (.seq
 (.seq
 (.region [oN 9 (.mov (.t 0)),
 oN 10 (.ranges (.t 9))] [10] false)
 (.block 0
 (.loop [0, 6, 7, 8, 11, 12, 19] l0_strings_indexFunc)))
 (.seq
 (.region [oN 6 (.mov (.c (.int .i64 (-1))))] [6] false)
 .ret)))
def F_strings_indexFunc : IFn := ⟨3, b_strings_indexFunc, [.t 6], .pure⟩
def v_strings_indexFunc : List Nat := [0, 1, 2, 6, 7, 8, 10, 11, 12, 19]

/- internal/stringslite.CutPrefix -/
def b_internal_stringslite_CutPrefix : ICode :=
 (.seq
 (.region [oN 4 (.mov (.c (.str []))),
 oN 5 (.mov (.c (.bool false)))] [4, 5] false)
 (.seq
 (.seq
 (.region [oN 6 (.mov (.t 0)),
 oN 7 (.mov (.t 1)),
 oN 8 (.call (.c (.fn n_internal_stringslite_HasPrefix [] [])) [(.t 6), (.t 7)]),
 oN 9 (.un .not (.t 8))] [9] false)
 (.cond (.t 9)
 (.seq
 (.region [oN 10 (.mov (.t 0)),
 oN 4 (.mov (.t 10)),
 oN 5 (.mov (.c (.bool false)))] [4, 5] false)
 .ret)
 .skip))
 (.seq
 (.region [oN 11 (.mov (.t 0)),
 oN 12 (.mov (.t 1)),
 oN 13 (.len .str (.t 12)),
 oN 14 (.slice 0 (.t 11) (some (.t 13)) none none),
 oN 4 (.mov (.t 14)),
 oN 5 (.mov (.c (.bool true)))] [4, 5] false)
 .ret)))
def F_internal_stringslite_CutPrefix : IFn := ⟨2, b_internal_stringslite_CutPrefix, [.t 4, .t 5], .pure⟩
def v_internal_stringslite_CutPrefix : List Nat := [0, 1, 4, 5, 9]

/- strings.trimLeftByte -/
def l0_strings_trimLeftByte : ICode :=
 (.seq
 (.seq
 (.region [oN 5 (.mov (.t 0)),
 oN 6 (.len .str (.t 5)),
 oN 7 (.bin .gtr .val (.t 6) (.c (.int .i64 0))),
 oN 8 (.mov (.t 7)),
 oG 9 (some (8, true)) (.mov (.t 0)),
 oG 10 (some (8, true)) (.index (.t 9) (.c (.int .i64 0))),
 oG 11 (some (8, true)) (.mov (.t 1)),
 oG 12 (some (8, true)) (.bin .eql .val (.t 10) (.t 11)),
 oN 13 (.pick (.t 8) (.t 12) (.c (.bool false)))] [13] false)
 (.cond (.t 13)
 .skip
 (.exit 0)))
 (.block 1
 (.region [oN 14 (.mov (.t 0)),
 oN 15 (.slice 0 (.t 14) (some (.c (.int .i64 1))) none none),
 oN 0 (.mov (.t 15))] [0] false)))
def b_strings_trimLeftByte : ICode :=
 (.seq
 (.region [oN 4 (.mov (.c (.str [])))] [4] false)
 (.seq
 (.block 0
 (.loop [4, 13] l0_strings_trimLeftByte))
 (.seq
 (.region [oN 16 (.mov (.t 0)),
 oN 4 (.mov (.t 16))] [4] false)
 .ret)))
def F_strings_trimLeftByte : IFn := ⟨2, b_strings_trimLeftByte, [.t 4], .pure⟩
def v_strings_trimLeftByte : List Nat := [0, 1, 4, 13]

/- strings.makeASCIISet -/
def l0_strings_makeASCIISet : ICode :=
 (.seq
 (.seq
 (.region [oN 6 (.mov (.t 4)),
 oN 7 (.mov (.t 0)),
 oN 8 (.len .str (.t 7)),
 oN 9 (.bin .lss .val (.t 6) (.t 8))] [9] false)
 (.cond (.t 9)
 .skip
 (.exit 0)))
 (.seq
 (.block 1
 (.seq
 (.region [oN 12 (.mov (.t 0)),
 oN 13 (.mov (.t 4)),
 oN 14 (.index (.t 12) (.t 13)),
 oN 5 (.mov (.t 14))] [5] false)
 (.seq
 (.seq
 (.region [oN 15 (.mov (.t 5)),
 oN 16 (.bin .geq .val (.t 15) (.c (.int .u8 128)))] [16] false)
 (.cond (.t 16)
 (.seq
 (.region [oN 17 (.load true 256 (.t 2)),
 oU (.store 256 (.t 2) (.t 17)),
 oN 3 (.mov (.c (.bool false)))] [3] false)
 .ret)
 .skip))
 (.region [oN 18 (.mov (.t 5)),
 oN 19 (.aaddr 1 256 (.t 2) (.t 18)),
 oU (.store 1 (.t 19) (.c (.bool true)))] [] false))))
 (.region [oN 10 (.mov (.t 4)),
 oN 11 (.bin .add .val (.t 10) (.c (.int .i64 1))),
 oN 4 (.mov (.t 11))] [4] false)))
def b_strings_makeASCIISet : ICode :=
 (.seq
 (.region [oN 2 (.alloc [.bool false, .bool false, .bool false, .bool false, .bool false, .bool false, .bool false, .bool false, .bool false, .bool false, .bool false, .bool false, .bool false, .bool false, .bool false, .bool false, .bool false, .bool false, .bool false, .bool false, .bool false, .bool false, .bool false, .bool false, .bool false, .bool false, .bool false, .bool false, .bool false, .bool false, .bool false, .bool false, .bool false, .bool false, .bool false, .bool false, .bool false, .bool false, .bool false, .bool false, .bool false, .bool false, .bool false, .bool false, .bool false, .bool false, .bool false, .bool false, .bool false, .bool false, .bool false, .bool false, .bool false, .bool false, .bool false, .bool false, .bool false, .bool false, .bool false, .bool false, .bool false, .bool false, .bool false, .bool false, .bool false, .bool false, .bool false, .bool false, .bool false, .bool false, .bool false, .bool false, .bool false, .bool false, .bool false, .bool false, .bool false, .bool false, .bool false, .bool false, .bool false, .bool false, .bool false, .bool false, .bool false, .bool false, .bool false, .bool false, .bool false, .bool false, .bool false, .bool false, .bool false, .bool false, .bool false, .bool false, .bool false, .bool false, .bool false, .bool false, .bool false, .bool false, .bool false, .bool false, .bool false, .bool false, .bool false, .bool false, .bool false, .bool false, .bool false, .bool false, .bool false, .bool false, .bool false, .bool false, .bool false, .bool false, .bool false, .bool false, .bool false, .bool false, .bool false, .bool false, .bool false, .bool false, .bool false, .bool false, .bool false, .bool false, .bool false, .bool false, .bool false, .bool false, .bool false, .bool false, .bool false, .bool false, .bool false, .bool false, .bool false, .bool false, .bool false, .bool false, .bool false, .bool false, .bool false, .bool false, .bool false, .bool false, .bool false, .bool false, .bool false, .bool false, .bool false, .bool false, .bool false, .bool false, .bool false, .bool false, .bool false, .bool false, .bool false, .bool false, .bool false, .bool false, .bool false, .bool false, .bool false, .bool false, .bool false, .bool false, .bool false, .bool false, .bool false, .bool false, .bool false, .bool false, .bool false, .bool false, .bool false, .bool false, .bool false, .bool false, .bool false, .bool false, .bool false, .bool false, .bool false, .bool false, .bool false, .bool false, .bool false, .bool false, .bool false, .bool false, .bool false, .bool false, .bool false, .bool false, .bool false, .bool false, .bool false, .bool false, .bool false, .bool false, .bool false, .bool false, .bool false, .bool false, .bool false, .bool false, .bool false, .bool false, .bool false, .bool false, .bool false, .bool false, .bool false, .bool false, .bool false, .bool false, .bool false, .bool false, .bool false, .bool false, .bool false, .bool false, .bool false, .bool false, .bool false, .bool false, .bool false, .bool false, .bool false, .bool false, .bool false, .bool false, .bool false, .bool false, .bool false, .bool false, .bool false, .bool false, .bool false, .bool false, .bool false, .bool false, .bool false, .bool false, .bool false, .bool false, .bool false, .bool false, .bool false, .bool false]),
 oN 3 (.mov (.c (.bool false)))] [2, 3] false)
 (.seq
 (.seq
 (.region [oN 4 (.mov (.c (.int .i64 0)))] [4] false)
 (.block 0
 (.loop [3, 5, 9, 16] l0_strings_makeASCIISet)))
 (.seq
 (.region [oN 20 (.load true 256 (.t 2)),
 oU (.store 256 (.t 2) (.t 20)),
 oN 3 (.mov (.c (.bool true)))] [3] false)
 .ret)))
def F_strings_makeASCIISet : IFn := ⟨1, b_strings_makeASCIISet, [.cell 2 true 256, .t 3], .pure⟩
def v_strings_makeASCIISet : List Nat := [0, 2, 3, 4, 5, 9, 16]

/- strings.trimLeftASCII -/
def l0_strings_trimLeftASCII : ICode :=
 (.seq
 (.seq
 (.region [oN 5 (.mov (.t 0)),
 oN 6 (.len .str (.t 5)),
 oN 7 (.bin .gtr .val (.t 6) (.c (.int .i64 0)))] [7] false)
 (.cond (.t 7)
 .skip
 (.exit 0)))
 (.block 1
 (.seq
 (.seq
 (.region [oN 8 (.mov (.t 1)),
 oN 9 (.mov (.t 0)),
 oN 10 (.index (.t 9) (.c (.int .i64 0))),
 oN 11 (.call (.c (.fn n___strings_asciiSet__contains [] [])) [(.t 8), (.t 10)]),
 oN 12 (.un .not (.t 11))] [12] false)
 (.cond (.t 12)
 (.exit 0)
 .skip))
 (.region [oN 13 (.mov (.t 0)),
 oN 14 (.slice 0 (.t 13) (some (.c (.int .i64 1))) none none),
 oN 0 (.mov (.t 14))] [0] false))))
def b_strings_trimLeftASCII : ICode :=
 (.seq
 (.region [oN 4 (.mov (.c (.str [])))] [4] false)
 (.seq
 (.block 0
 (.loop [4, 7, 12] l0_strings_trimLeftASCII))
 (.seq
 (.region [oN 15 (.mov (.t 0)),
 oN 4 (.mov (.t 15))] [4] false)
 .ret)))
def F_strings_trimLeftASCII : IFn := ⟨2, b_strings_trimLeftASCII, [.t 4], .pure⟩
def v_strings_trimLeftASCII : List Nat := [0, 1, 4, 7, 12]

/- strings.trimRightASCII -/
def l0_strings_trimRightASCII : ICode :=
 (.seq
 (.seq
 (.region [oN 5 (.mov (.t 0)),
 oN 6 (.len .str (.t 5)),
 oN 7 (.bin .gtr .val (.t 6) (.c (.int .i64 0)))] [7] false)
 (.cond (.t 7)
 .skip
 (.exit 0)))
 (.block 1
 (.seq
 (.seq
 (.region [oN 8 (.mov (.t 1)),
 oN 9 (.mov (.t 0)),
 oN 10 (.mov (.t 0)),
 oN 11 (.len .str (.t 10)),
 oN 12 (.bin .sub .val (.t 11) (.c (.int .i64 1))),
 oN 13 (.index (.t 9) (.t 12)),
 oN 14 (.call (.c (.fn n___strings_asciiSet__contains [] [])) [(.t 8), (.t 13)]),
 oN 15 (.un .not (.t 14))] [15] false)
 (.cond (.t 15)
 (.exit 0)
 .skip))
 (.region [oN 16 (.mov (.t 0)),
 oN 17 (.mov (.t 0)),
 oN 18 (.len .str (.t 17)),
 oN 19 (.bin .sub .val (.t 18) (.c (.int .i64 1))),
 oN 20 (.slice 0 (.t 16) none (some (.t 19)) none),
 oN 0 (.mov (.t 20))] [0] false))))
def b_strings_trimRightASCII : ICode :=
 (.seq
 (.region [oN 4 (.mov (.c (.str [])))] [4] false)
 (.seq
 (.block 0
 (.loop [4, 7, 15] l0_strings_trimRightASCII))
 (.seq
 (.region [oN 21 (.mov (.t 0)),
 oN 4 (.mov (.t 21))] [4] false)
 .ret)))
def F_strings_trimRightASCII : IFn := ⟨2, b_strings_trimRightASCII, [.t 4], .pure⟩
def v_strings_trimRightASCII : List Nat := [0, 1, 4, 7, 15]

/- internal/strconv.Atoi -/
def l0_internal_strconv_Atoi : ICode :=
 (.seq
 (.region [oN 50 (.bin .lss .val (.t 49) (.t 48))] [50] false)
 (.seq
 (.cond (.t 50)
 .skip
 (.exit 0))
 (.seq
 (.block 1
 (.seq
 (.region [oN 51 (.iaddr 1 (.t 47) (.t 49)),
 oN 52 (.load false 1 (.t 51)),
 oN 8 (.mov (.t 52))] [8] false)
 (.seq
 (.region [oN 53 (.mov (.t 8)),
 oN 54 (.bin .sub .val (.t 53) (.c (.int .u8 48))),
 oN 8 (.mov (.t 54))] [8] false)
 (.seq
 (.seq
 (.region [oN 55 (.mov (.t 8)),
 oN 56 (.bin .gtr .val (.t 55) (.c (.int .u8 9)))] [56] false)
 (.cond (.t 56)
 (.seq
 (.region [oN 57 (.mkif 173 (.c (.int .i64 2))),
 oN 2 (.mov (.c (.int .i64 0))),
 oN 3 (.mov (.t 57))] [2, 3] false)
 .ret)
 .skip))
 (.region [oN 58 (.mov (.t 6)),
 oN 59 (.bin .mul .val (.t 58) (.c (.int .i64 10))),
 oN 60 (.mov (.t 8)),
 oN 61 (.conv (.int .i64) (.t 60)),
 oN 62 (.bin .add .val (.t 59) (.t 61)),
 oN 6 (.mov (.t 62))] [6] false)))))
 (.region [oN 63 (.bin .add .val (.t 49) (.c (.int .i64 1))),
 oN 49 (.mov (.t 63))] [49] false))))
def b_internal_strconv_Atoi : ICode :=
 (.seq
 (.region [oN 2 (.mov (.c (.int .i64 0))),
 oN 3 (.mov (.c (.nilif)))] [2, 3] false)
 (.seq
 (.region [oN 11 (.mov (.t 0)),
 oN 12 (.len .str (.t 11)),
 oN 4 (.mov (.t 12))] [4] false)
 (.seq
 (.seq
 (.region [oN 13 (.mov (.c (.bool false))),
 oG 14 (some (13, true)) (.mov (.t 4)),
 oG 15 (some (13, true)) (.bin .lss .val (.c (.int .i64 0)) (.t 14)),
 oG 16 (some (13, true)) (.mov (.t 15)),
 oG 17 (some (16, true)) (.mov (.t 4)),
 oG 18 (some (16, true)) (.bin .lss .val (.t 17) (.c (.int .i64 10))),
 oG 19 (some (13, true)) (.pick (.t 16) (.t 18) (.c (.bool false))),
 oN 20 (.pick (.t 13) (.t 19) (.c (.bool false))),
 oN 21 (.mov (.t 20)),
 oG 22 (some (21, false)) (.mov (.c (.bool true))),
 oG 23 (some (22, true)) (.mov (.t 4)),
 oG 24 (some (22, true)) (.bin .lss .val (.c (.int .i64 0)) (.t 23)),
 oG 25 (some (22, true)) (.mov (.t 24)),
 oG 26 (some (25, true)) (.mov (.t 4)),
 oG 27 (some (25, true)) (.bin .lss .val (.t 26) (.c (.int .i64 19))),
 oG 28 (some (22, true)) (.pick (.t 25) (.t 27) (.c (.bool false))),
 oG 29 (some (21, false)) (.pick (.t 22) (.t 28) (.c (.bool false))),
 oN 30 (.pick (.t 21) (.c (.bool true)) (.t 29))] [30] false)
 (.cond (.t 30)
 (.seq
 (.region [oN 31 (.mov (.t 0)),
 oN 5 (.mov (.t 31))] [5] false)
 (.seq
 (.seq
 (.region [oN 32 (.mov (.t 0)),
 oN 33 (.index (.t 32) (.c (.int .i64 0))),
 oN 34 (.bin .eql .val (.t 33) (.c (.int .u8 45))),
 oN 35 (.mov (.t 34)),
 oG 36 (some (35, false)) (.mov (.t 0)),
 oG 37 (some (35, false)) (.index (.t 36) (.c (.int .i64 0))),
 oG 38 (some (35, false)) (.bin .eql .val (.t 37) (.c (.int .u8 43))),
 oN 39 (.pick (.t 35) (.c (.bool true)) (.t 38))] [39] false)
 (.cond (.t 39)
 (.seq
 (.region [oN 40 (.mov (.t 0)),
 oN 41 (.slice 0 (.t 40) (some (.c (.int .i64 1))) none none),
 oN 0 (.mov (.t 41))] [0] false)
 (.seq
 (.region [oN 42 (.mov (.t 0)),
 oN 43 (.len .str (.t 42)),
 oN 44 (.bin .lss .val (.t 43) (.c (.int .i64 1)))] [44] false)
 (.cond (.t 44)
 (.seq
 (.region [oN 45 (.mkif 173 (.c (.int .i64 2))),
 oN 2 (.mov (.c (.int .i64 0))),
 oN 3 (.mov (.t 45))] [2, 3] false)
 .ret)
 .skip)))
 .skip))
 (.seq
 (.region [oN 6 (.mov (.c (.int .i64 0)))] [6] false)
 (.seq
 (.seq
 (.region [oN 46 (.mov (.t 0)),
 oN 47 (.conv .strBytes (.t 46)),
 oN 48 (.len .slice (.t 47)),
 oN 49 (.mov (.c (.int .i64 0)))] [47, 48, 49] false)
 (.block 0
 (.loop [0, 2, 3, 4, 8, 9, 10, 30, 39, 44, 50, 56, 66] l0_internal_strconv_Atoi)))
 (.seq
 (.seq
 (.region [oN 64 (.mov (.t 5)),
 oN 65 (.index (.t 64) (.c (.int .i64 0))),
 oN 66 (.bin .eql .val (.t 65) (.c (.int .u8 45)))] [66] false)
 (.cond (.t 66)
 (.region [oN 67 (.mov (.t 6)),
 oN 68 (.un .neg (.t 67)),
 oN 6 (.mov (.t 68))] [6] false)
 .skip))
 (.seq
 (.region [oN 69 (.mov (.t 6)),
 oN 2 (.mov (.t 69)),
 oN 3 (.mov (.c (.nilif)))] [2, 3] false)
 .ret))))))
 .skip))
 (.seq
 (.region [oN 71 (.mov (.t 0)),
 oN 72 (.call (.c (.fn n_internal_strconv_ParseInt [] [])) [(.t 71), (.c (.int .i64 10)), (.c (.int .i64 0))]),
 oN 70 (.mov (.t 72)),
 oN 73 (.ext (.t 70) 0),
 oN 74 (.ext (.t 70) 1),
 oN 9 (.mov (.t 73)),
 oN 10 (.mov (.t 74))] [9, 10] false)
 (.seq
 (.region [oN 75 (.mov (.t 9)),
 oN 76 (.mov (.t 10)),
 oN 2 (.mov (.t 75)),
 oN 3 (.mov (.t 76))] [2, 3] false)
 .ret)))))
def F_internal_strconv_Atoi : IFn := ⟨1, b_internal_strconv_Atoi, [.t 2, .t 3], .pure⟩
def v_internal_strconv_Atoi : List Nat := [0, 2, 3, 4, 5, 6, 8, 9, 10, 30, 39, 44, 47, 48, 49, 50, 56, 66]

/- chiasmus/meta.up -/
def l0_meta_up : ICode :=
 (.seq
 (.region [oN 9 (.bin .lss .val (.t 8) (.t 7))] [9] false)
 (.seq
 (.cond (.t 9)
 .skip
 (.exit 0))
 (.seq
 (.block 1
 (.seq
 (.region [oN 10 (.iaddr 3 (.t 6) (.t 8)),
 oN 11 (.load true 3 (.t 10)),
 oN 5 (.alloc [.int .i64 0, .str [], .sl .nil 3 []]),
 oU (.store 3 (.t 5) (.t 11))] [5] false)
 (.block 2
 (.seq
 (.region [oN 21 (.faddr 0 (.t 5)),
 oN 22 (.load false 1 (.t 21)),
 oN 23 (.bin .eql .val (.t 22) (.c (.int .i64 4))),
 oN 20 (.mov (.t 23))] [20] false)
 (.cond (.t 20)
 (.region [oN 24 (.mov (.t 3)),
 oN 25 (.faddr 2 (.t 5)),
 oN 26 (.load false 1 (.t 25)),
 oN 27 (.call (.c (.fn n_meta_up [] [])) [(.t 26)]),
 oN 28 (.call (.c (.fn n_meta_group [] [])) [(.t 27)]),
 oN 29 (.bslice 3 [.int .i64 0, .str [], .sl .nil 3 []] 1 [(0, (.t 28))]),
 oN 30 (.app 3 (.t 24) (.t 29)),
 oN 3 (.mov (.t 30))] [3] false)
 (.seq
 (.region [oN 32 (.faddr 0 (.t 5)),
 oN 33 (.load false 1 (.t 32)),
 oN 34 (.bin .eql .val (.t 33) (.c (.int .i64 8))),
 oN 31 (.mov (.t 34))] [31] false)
 (.cond (.t 31)
 (.region [oN 35 (.mov (.t 3)),
 oM 36 (.call (.c (.fn n_meta_char [] [])) [(.c (.str [42]))]),
 oN 37 (.faddr 1 (.t 5)),
 oN 38 (.load false 1 (.t 37)),
 oM 39 (.call (.c (.fn n_meta_word [] [])) [(.t 38)]),
 oN 40 (.bslice 3 [.int .i64 0, .str [], .sl .nil 3 []] 1 [(0, (.t 39))]),
 oN 41 (.faddr 2 (.t 5)),
 oN 42 (.load false 1 (.t 41)),
 oM 43 (.call (.c (.fn n_meta_up [] [])) [(.t 42)]),
 oN 44 (.app 3 (.t 40) (.t 43)),
 oM 45 (.call (.c (.fn n_meta_group [] [])) [(.t 44)]),
 oN 46 (.bslice 3 [.int .i64 0, .str [], .sl .nil 3 []] 2 [(0, (.t 36)), (1, (.t 45))]),
 oN 47 (.app 3 (.t 35) (.t 46)),
 oN 3 (.mov (.t 47))] [3] true)
 (.seq
 (.region [oN 49 (.load true 3 (.t 5)),
 oN 50 (.call (.c (.fn n_term_IsVariable [] [])) [(.t 49)]),
 oN 48 (.mov (.t 50))] [48] false)
 (.cond (.t 48)
 (.region [oN 51 (.mov (.t 3)),
 oM 52 (.call (.c (.fn n_meta_char [] [])) [(.c (.str [42]))]),
 oM 53 (.call (.c (.fn n_meta_letters [] [])) []),
 oN 54 (.faddr 0 (.t 5)),
 oN 55 (.load false 1 (.t 54)),
 oN 56 (.lookup .int (.str []) (.t 53) (.t 55) false),
 oM 57 (.call (.c (.fn n_meta_char [] [])) [(.t 56)]),
 oN 58 (.faddr 1 (.t 5)),
 oN 59 (.load false 1 (.t 58)),
 oM 60 (.call (.c (.fn n_meta_word [] [])) [(.t 59)]),
 oN 61 (.bslice 3 [.int .i64 0, .str [], .sl .nil 3 []] 3 [(0, (.t 52)), (1, (.t 57)), (2, (.t 60))]),
 oN 62 (.app 3 (.t 51) (.t 61)),
 oN 3 (.mov (.t 62))] [3] true)
 (.seq
 (.region [oN 64 (.faddr 0 (.t 5)),
 oN 65 (.load false 1 (.t 64)),
 oN 66 (.bin .eql .val (.t 65) (.c (.int .i64 1))),
 oN 67 (.mov (.t 66)),
 oG 68 (some (67, true)) (.faddr 1 (.t 5)),
 oG 69 (some (67, true)) (.load false 1 (.t 68)),
 oG 70 (some (67, true)) (.bin .eql .val (.t 69) (.c (.str [42]))),
 oN 71 (.pick (.t 67) (.t 70) (.c (.bool false))),
 oN 63 (.mov (.t 71))] [63] false)
 (.cond (.t 63)
 (.region [oN 72 (.mov (.t 3)),
 oN 73 (.call (.c (.fn n_meta_char [] [])) [(.c (.str [42]))]),
 oN 74 (.call (.c (.fn n_meta_char [] [])) [(.c (.str [86]))]),
 oN 75 (.bslice 3 [.int .i64 0, .str [], .sl .nil 3 []] 2 [(0, (.t 73)), (1, (.t 74))]),
 oN 76 (.app 3 (.t 72) (.t 75)),
 oN 3 (.mov (.t 76))] [3] false)
 (.region [oN 12 (.mov (.t 3)),
 oN 13 (.faddr 0 (.t 5)),
 oN 14 (.load false 1 (.t 13)),
 oN 15 (.faddr 1 (.t 5)),
 oN 16 (.load false 1 (.t 15)),
 oN 17 (.build [.int .i64 0, .str [], .sl .nil 3 []] [(0, 1, (.t 14)), (1, 1, (.t 16))]),
 oN 18 (.bslice 3 [.int .i64 0, .str [], .sl .nil 3 []] 1 [(0, (.t 17))]),
 oN 19 (.app 3 (.t 12) (.t 18)),
 oN 3 (.mov (.t 19))] [3] false))))))))))))
 (.region [oN 77 (.bin .add .val (.t 8) (.c (.int .i64 1))),
 oN 8 (.mov (.t 77))] [8] false))))
def b_meta_up : ICode :=
 (.seq
 (.region [oN 2 (.mov (.c (.sl .nil 3 [])))] [2] false)
 (.seq
 (.region [oN 3 (.mov (.c (.sl .nil 3 [])))] [3] false)
 (.seq
 (.seq
 (.region [oN 6 (.mov (.t 0)),
 oN 7 (.len .slice (.t 6)),
 oN 8 (.mov (.c (.int .i64 0)))] [6, 7, 8] false)
 (.block 0
 (.loop [0, 2, 5, 9, 20, 31, 48, 63] l0_meta_up)))
 (.seq
 (.region [oN 78 (.mov (.t 3)),
 oN 2 (.mov (.t 78))] [2] false)
 .ret))))
def F_meta_up : IFn := ⟨1, b_meta_up, [.t 2], .pure⟩
def v_meta_up : List Nat := [0, 2, 3, 5, 6, 7, 8, 9, 20, 31, 48, 63]

/- chiasmus/meta.fits -/
def b_meta_fits : ICode :=
 (.seq
 (.region [oN 2 (.mov (.c (.int .i64 0)))] [2] false)
 (.seq
 (.seq
 (.region [oN 6 (.mov (.t 0)),
 oN 7 (.call (.c (.fn n_term_Size [] [])) [(.t 6)]),
 oN 5 (.mov (.t 7)),
 oN 8 (.ext (.t 5) 0),
 oN 9 (.ext (.t 5) 1),
 oN 3 (.mov (.t 8)),
 oN 4 (.mov (.t 9))] [3, 4] false)
 (.block 0
 (.seq
 (.region [oN 11 (.mov (.t 3)),
 oN 12 (.bin .gtr .val (.t 11) (.c (.int .i64 4000))),
 oN 10 (.mov (.t 12))] [10] false)
 (.cond (.t 10)
 (.seq
 (.region [oN 2 (.mov (.c (.int .i64 7)))] [2] false)
 .ret)
 (.seq
 (.region [oN 14 (.mov (.t 4)),
 oN 15 (.bin .gtr .val (.t 14) (.c (.int .i64 100))),
 oN 13 (.mov (.t 15))] [13] false)
 (.cond (.t 13)
 (.seq
 (.region [oN 2 (.mov (.c (.int .i64 6)))] [2] false)
 .ret)
 .skip))))))
 (.seq
 (.region [oN 2 (.mov (.c (.int .i64 0)))] [2] false)
 .ret)))
def F_meta_fits : IFn := ⟨1, b_meta_fits, [.t 2], .pure⟩
def v_meta_fits : List Nat := [0, 2, 3, 4, 10, 13]

/- chiasmus/meta.dn -/
def l0_meta_dn : ICode :=
 (.block 1
 (.seq
 (.region [oN 12 (.mov (.t 5)),
 oN 13 (.call (.c (.fn n___meta_reader__next [] [])) [(.t 12)]),
 oN 11 (.mov (.t 13)),
 oN 14 (.ext (.t 11) 0),
 oN 15 (.ext (.t 11) 1),
 oN 6 (.alloc [.int .i64 0, .str [], .sl .nil 3 []]),
 oU (.store 3 (.t 6) (.t 14)),
 oN 7 (.mov (.t 15))] [6, 7] false)
 (.seq
 (.seq
 (.region [oN 16 (.mov (.t 7)),
 oN 17 (.un .not (.t 16))] [17] false)
 (.cond (.t 17)
 (.seq
 (.region [oN 18 (.mov (.t 4)),
 oN 2 (.mov (.t 18)),
 oN 3 (.mov (.c (.bool true)))] [2, 3] false)
 .ret)
 .skip))
 (.seq
 (.block 2
 (.seq
 (.region [oN 20 (.faddr 0 (.t 6)),
 oN 21 (.load false 1 (.t 20)),
 oN 22 (.bin .eql .val (.t 21) (.c (.int .i64 4))),
 oN 19 (.mov (.t 22))] [19] false)
 (.cond (.t 19)
 (.region [oN 24 (.faddr 2 (.t 6)),
 oN 25 (.load false 1 (.t 24)),
 oN 26 (.call (.c (.fn n_meta_dn [] [])) [(.t 25)]),
 oN 23 (.mov (.t 26)),
 oN 27 (.ext (.t 23) 0),
 oN 28 (.ext (.t 23) 1),
 oN 29 (.faddr 2 (.t 6)),
 oU (.store 1 (.t 29) (.t 27)),
 oN 7 (.mov (.t 28))] [7] false)
 (.seq
 (.region [oN 31 (.load true 3 (.t 6)),
 oN 32 (.call (.c (.fn n_meta_isChar [] [])) [(.t 31), (.c (.str [42]))]),
 oN 30 (.mov (.t 32))] [30] false)
 (.cond (.t 30)
 (.region [oN 34 (.mov (.t 5)),
 oN 35 (.call (.c (.fn n___meta_reader__starred [] [])) [(.t 34)]),
 oN 33 (.mov (.t 35)),
 oN 36 (.ext (.t 33) 0),
 oN 37 (.ext (.t 33) 1),
 oU (.store 3 (.t 6) (.t 36)),
 oN 7 (.mov (.t 37))] [7] false)
 .skip)))))
 (.seq
 (.seq
 (.region [oN 38 (.mov (.t 7)),
 oN 39 (.un .not (.t 38))] [39] false)
 (.cond (.t 39)
 (.seq
 (.region [oN 2 (.mov (.c (.sl .nil 3 []))),
 oN 3 (.mov (.c (.bool false)))] [2, 3] false)
 .ret)
 .skip))
 (.region [oN 40 (.mov (.t 4)),
 oN 41 (.load true 3 (.t 6)),
 oN 42 (.bslice 3 [.int .i64 0, .str [], .sl .nil 3 []] 1 [(0, (.t 41))]),
 oN 43 (.app 3 (.t 40) (.t 42)),
 oN 4 (.mov (.t 43))] [4] false))))))
def b_meta_dn : ICode :=
 (.seq
 (.region [oN 2 (.mov (.c (.sl .nil 3 []))),
 oN 3 (.mov (.c (.bool false)))] [2, 3] false)
 (.seq
 (.region [oN 4 (.mov (.c (.sl .nil 3 [])))] [4] false)
 (.seq
 (.region [oN 8 (.mov (.t 0)),
 oN 9 (.build [.sl .nil 3 []] [(0, 1, (.t 8))]),
 oN 10 (.box 1 (.t 9)),
 oN 5 (.mov (.t 10))] [5] false)
 (.block 0
 (.loop [0, 2, 3, 6, 7, 17, 19, 30, 39] l0_meta_dn)))))
def F_meta_dn : IFn := ⟨1, b_meta_dn, [.t 2, .t 3], .pure⟩
def v_meta_dn : List Nat := [0, 2, 3, 4, 5, 6, 7, 17, 19, 30, 39]

/- chiasmus/term.Name -/
def b_term_Name : ICode :=
 (.seq
 (.region [oN 1 (.box 3 (.t 0)),
 oN 2 (.mov (.c (.str [])))] [1, 2] false)
 (.seq
 (.seq
 (.region [oN 3 (.load true 3 (.t 1)),
 oN 4 (.call (.c (.fn n_term_IsVariable [] [])) [(.t 3)]),
 oN 5 (.un .not (.t 4))] [5] false)
 (.cond (.t 5)
 (.seq
 (.region [oN 2 (.mov (.c (.str [])))] [2] false)
 .ret)
 .skip))
 (.seq
 (.region [oN 6 (.faddr 0 (.t 1)),
 oN 7 (.load false 1 (.t 6)),
 oN 8 (.bin .sub .val (.t 7) (.c (.int .i64 5))),
 oN 9 (.index (.c (.str [115, 116, 101])) (.t 8)),
 oN 10 (.conv .intStr (.t 9)),
 oN 11 (.bin .add .val (.t 10) (.c (.str [46]))),
 oN 12 (.faddr 1 (.t 1)),
 oN 13 (.load false 1 (.t 12)),
 oN 14 (.bin .add .val (.t 11) (.t 13)),
 oN 2 (.mov (.t 14))] [2] true)
 .ret)))
def F_term_Name : IFn := ⟨1, b_term_Name, [.t 2], .pure⟩
def v_term_Name : List Nat := [0, 1, 2, 5]

/- (*chiasmus/builtin.call).keyed$1 -/
def b___builtin_call__keyed_1 : ICode :=
 (.seq
 (.region [oN 1 (.box 3 (.t 0)),
 oN 2 (.mov (.c (.bool false)))] [1, 2] false)
 (.seq
 (.region [oN 3 (.faddr 0 (.t 1)),
 oN 4 (.load false 1 (.t 3)),
 oN 5 (.bin .eql .val (.t 4) (.c (.int .i64 1))),
 oN 6 (.mov (.t 5)),
 oG 7 (some (6, true)) (.faddr 1 (.t 1)),
 oG 8 (some (6, true)) (.load false 1 (.t 7)),
 oG 9 (some (6, true)) (.bin .eql .val (.t 8) (.c (.str [61]))),
 oN 10 (.pick (.t 6) (.t 9) (.c (.bool false))),
 oN 2 (.mov (.t 10))] [2] false)
 .ret))
def F___builtin_call__keyed_1 : IFn := ⟨1, b___builtin_call__keyed_1, [.t 2], .pure⟩
def v___builtin_call__keyed_1 : List Nat := [0, 1, 2]

/- slices.IndexFunc[[]chiasmus/api.Buried,chiasmus/api.Buried] -/
def l0_slices_IndexFunc___api_Buried_api_Buried_ : ICode :=
 (.seq
 (.region [oN 9 (.bin .lss .val (.t 8) (.t 7))] [9] false)
 (.seq
 (.cond (.t 9)
 .skip
 (.exit 0))
 (.seq
 (.block 1
 (.seq
 (.region [oN 10 (.mov (.t 8)),
 oN 5 (.mov (.t 10))] [5] false)
 (.seq
 (.region [oN 11 (.mov (.t 1)),
 oN 12 (.mov (.t 0)),
 oN 13 (.mov (.t 5)),
 oN 14 (.iaddr 2 (.t 12) (.t 13)),
 oN 15 (.load true 2 (.t 14)),
 oN 16 (.call (.t 11) [(.t 15)])] [16] false)
 (.cond (.t 16)
 (.seq
 (.region [oN 17 (.mov (.t 5)),
 oN 4 (.mov (.t 17))] [4] false)
 .ret)
 .skip))))
 (.region [oN 18 (.bin .add .val (.t 8) (.c (.int .i64 1))),
 oN 8 (.mov (.t 18))] [8] false))))
def b_slices_IndexFunc___api_Buried_api_Buried_ : ICode :=
 (.seq
 (.region [oN 4 (.mov (.c (.int .i64 0)))] [4] false)
 (.seq
 (.seq
 (.region [oN 6 (.mov (.t 0)),
 oN 7 (.len .slice (.t 6)),
 oN 8 (.mov (.c (.int .i64 0)))] [7, 8] false)
 (.block 0
 (.loop [4, 5, 9, 16] l0_slices_IndexFunc___api_Buried_api_Buried_)))
 (.seq
 (.region [oN 4 (.mov (.c (.int .i64 (-1))))] [4] false)
 .ret)))
def F_slices_IndexFunc___api_Buried_api_Buried_ : IFn := ⟨2, b_slices_IndexFunc___api_Buried_api_Buried_, [.t 4], .pure⟩
def v_slices_IndexFunc___api_Buried_api_Buried_ : List Nat := [0, 1, 4, 5, 7, 8, 9, 16]

/- (*chiasmus/builtin.call).top$1 -/
def b___builtin_call__top_1 : ICode :=
 (.seq
 (.region [oN 2 (.box 2 (.t 0)),
 oN 3 (.mov (.c (.bool false)))] [2, 3] false)
 (.seq
 (.region [oN 4 (.faddr 0 (.t 2)),
 oN 5 (.load false 1 (.t 4)),
 oN 6 (.load false 1 (.t 1)),
 oN 7 (.call (.c (.fn n_term_Equal [] [])) [(.t 5), (.t 6)]),
 oN 3 (.mov (.t 7))] [3] false)
 .ret))
def F___builtin_call__top_1 : IFn := ⟨2, b___builtin_call__top_1, [.t 3], .pure⟩
def v___builtin_call__top_1 : List Nat := [0, 1, 2, 3]

/- chiasmus/term.Equal -/
def b_term_Equal : ICode :=
 (.seq
 (.region [oN 4 (.mov (.c (.bool false)))] [4] false)
 (.seq
 (.region [oN 5 (.mov (.t 0)),
 oN 6 (.mov (.t 1)),
 oN 7 (.call (.c (.fn n_term_Compare [] [])) [(.t 5), (.t 6)]),
 oN 8 (.bin .eql .val (.t 7) (.c (.int .i64 0))),
 oN 4 (.mov (.t 8))] [4] false)
 .ret))
def F_term_Equal : IFn := ⟨2, b_term_Equal, [.t 4], .pure⟩
def v_term_Equal : List Nat := [0, 1, 4]

/- internal/stringslite.HasPrefix -/
def b_internal_stringslite_HasPrefix : ICode :=
 (.seq
 (.region [oN 4 (.mov (.c (.bool false)))] [4] false)
 (.seq
 (.region [oN 5 (.mov (.t 0)),
 oN 6 (.len .str (.t 5)),
 oN 7 (.mov (.t 1)),
 oN 8 (.len .str (.t 7)),
 oN 9 (.bin .geq .val (.t 6) (.t 8)),
 oN 10 (.mov (.t 9)),
 oG 11 (some (10, true)) (.mov (.t 0)),
 oG 12 (some (10, true)) (.mov (.t 1)),
 oG 13 (some (10, true)) (.len .str (.t 12)),
 oG 14 (some (10, true)) (.slice 0 (.t 11) none (some (.t 13)) none),
 oG 15 (some (10, true)) (.mov (.t 1)),
 oG 16 (some (10, true)) (.bin .eql .val (.t 14) (.t 15)),
 oN 17 (.pick (.t 10) (.t 16) (.c (.bool false))),
 oN 4 (.mov (.t 17))] [4] false)
 .ret))
def F_internal_stringslite_HasPrefix : IFn := ⟨2, b_internal_stringslite_HasPrefix, [.t 4], .pure⟩
def v_internal_stringslite_HasPrefix : List Nat := [0, 1, 4]

/- (*strings.asciiSet).contains -/
def b___strings_asciiSet__contains : ICode :=
 (.seq
 (.region [oN 4 (.mov (.c (.bool false)))] [4] false)
 (.seq
 (.region [oN 5 (.mov (.t 0)),
 oN 6 (.mov (.t 1)),
 oN 7 (.nilchk (.t 5)),
 oN 8 (.aaddr 1 256 (.t 7) (.t 6)),
 oN 9 (.load false 1 (.t 8)),
 oN 4 (.mov (.t 9))] [4] false)
 .ret))
def F___strings_asciiSet__contains : IFn := ⟨2, b___strings_asciiSet__contains, [.t 4], .pure⟩
def v___strings_asciiSet__contains : List Nat := [0, 1, 4]

/- chiasmus/meta.group -/
def b_meta_group : ICode :=
 (.seq
 (.region [oN 2 (.alloc [.int .i64 0, .str [], .sl .nil 3 []])] [2] false)
 (.seq
 (.region [oN 3 (.mov (.t 0)),
 oN 4 (.build [.int .i64 0, .str [], .sl .nil 3 []] [(0, 1, (.c (.int .i64 4))), (2, 1, (.t 3))]),
 oU (.store 3 (.t 2) (.t 4))] [] false)
 .ret))
def F_meta_group : IFn := ⟨1, b_meta_group, [.cell 2 true 3], .pure⟩
def v_meta_group : List Nat := [0, 2]

/- chiasmus/meta.char -/
def b_meta_char : ICode :=
 (.seq
 (.region [oN 2 (.alloc [.int .i64 0, .str [], .sl .nil 3 []])] [2] false)
 (.seq
 (.region [oN 3 (.mov (.t 0)),
 oN 4 (.build [.int .i64 0, .str [], .sl .nil 3 []] [(0, 1, (.c (.int .i64 1))), (1, 1, (.t 3))]),
 oU (.store 3 (.t 2) (.t 4))] [] false)
 .ret))
def F_meta_char : IFn := ⟨1, b_meta_char, [.cell 2 true 3], .pure⟩
def v_meta_char : List Nat := [0, 2]

/- chiasmus/meta.word -/
def b_meta_word : ICode :=
 (.seq
 (.region [oN 2 (.alloc [.int .i64 0, .str [], .sl .nil 3 []])] [2] false)
 (.seq
 (.region [oN 3 (.mov (.t 0)),
 oN 4 (.build [.int .i64 0, .str [], .sl .nil 3 []] [(0, 1, (.c (.int .i64 2))), (1, 1, (.t 3))]),
 oU (.store 3 (.t 2) (.t 4))] [] false)
 .ret))
def F_meta_word : IFn := ⟨1, b_meta_word, [.cell 2 true 3], .pure⟩
def v_meta_word : List Nat := [0, 2]

/- chiasmus/term.IsVariable -/
def b_term_IsVariable : ICode :=
 (.seq
 (.region [oN 1 (.box 3 (.t 0)),
 oN 2 (.mov (.c (.bool false)))] [1, 2] false)
 (.seq
 (.region [oN 3 (.faddr 0 (.t 1)),
 oN 4 (.load false 1 (.t 3)),
 oN 5 (.bin .geq .val (.t 4) (.c (.int .i64 5))),
 oN 6 (.mov (.t 5)),
 oG 7 (some (6, true)) (.faddr 0 (.t 1)),
 oG 8 (some (6, true)) (.load false 1 (.t 7)),
 oG 9 (some (6, true)) (.bin .leq .val (.t 8) (.c (.int .i64 7))),
 oN 10 (.pick (.t 6) (.t 9) (.c (.bool false))),
 oN 2 (.mov (.t 10))] [2] false)
 .ret))
def F_term_IsVariable : IFn := ⟨1, b_term_IsVariable, [.t 2], .pure⟩
def v_term_IsVariable : List Nat := [0, 1, 2]

/- (*chiasmus/meta.reader).next -/
def b___meta_reader__next : ICode :=
 (.seq
 (.region [oN 2 (.alloc [.int .i64 0, .str [], .sl .nil 3 []]),
 oN 3 (.mov (.c (.bool false)))] [2, 3] false)
 (.seq
 (.seq
 (.region [oN 5 (.mov (.t 0)),
 oN 6 (.nilchk (.t 5)),
 oN 7 (.faddr 0 (.t 6)),
 oN 8 (.load false 1 (.t 7)),
 oN 9 (.len .slice (.t 8)),
 oN 10 (.bin .eql .val (.t 9) (.c (.int .i64 0)))] [10] false)
 (.cond (.t 10)
 (.seq
 (.region [oN 11 (.build [.int .i64 0, .str [], .sl .nil 3 []] []),
 oU (.store 3 (.t 2) (.t 11)),
 oN 3 (.mov (.c (.bool false)))] [3] false)
 .ret)
 .skip))
 (.seq
 (.region [oN 12 (.mov (.t 0)),
 oN 13 (.nilchk (.t 12)),
 oN 14 (.faddr 0 (.t 13)),
 oN 15 (.load false 1 (.t 14)),
 oN 16 (.iaddr 3 (.t 15) (.c (.int .i64 0))),
 oN 17 (.load true 3 (.t 16)),
 oN 4 (.alloc [.int .i64 0, .str [], .sl .nil 3 []]),
 oU (.store 3 (.t 4) (.t 17))] [4] false)
 (.seq
 (.region [oN 18 (.mov (.t 0)),
 oN 19 (.mov (.t 0)),
 oN 20 (.nilchk (.t 19)),
 oN 21 (.faddr 0 (.t 20)),
 oN 22 (.load false 1 (.t 21)),
 oN 23 (.slice 3 (.t 22) (some (.c (.int .i64 1))) none none),
 oN 24 (.nilchk (.t 18)),
 oN 25 (.faddr 0 (.t 24)),
 oU (.store 1 (.t 25) (.t 23))] [] false)
 (.seq
 (.region [oN 26 (.load true 3 (.t 4)),
 oU (.store 3 (.t 2) (.t 26)),
 oN 3 (.mov (.c (.bool true)))] [3] false)
 .ret)))))
def F___meta_reader__next : IFn := ⟨1, b___meta_reader__next, [.cell 2 true 3, .t 3], .eff⟩
def v___meta_reader__next : List Nat := [0, 2, 3, 4, 10]

/- chiasmus/meta.isChar -/
def b_meta_isChar : ICode :=
 (.seq
 (.region [oN 2 (.box 3 (.t 0)),
 oN 4 (.mov (.c (.bool false)))] [2, 4] false)
 (.seq
 (.region [oN 5 (.faddr 0 (.t 2)),
 oN 6 (.load false 1 (.t 5)),
 oN 7 (.bin .eql .val (.t 6) (.c (.int .i64 1))),
 oN 8 (.mov (.t 7)),
 oG 9 (some (8, true)) (.faddr 1 (.t 2)),
 oG 10 (some (8, true)) (.load false 1 (.t 9)),
 oG 11 (some (8, true)) (.mov (.t 1)),
 oG 12 (some (8, true)) (.bin .eql .val (.t 10) (.t 11)),
 oN 13 (.pick (.t 8) (.t 12) (.c (.bool false))),
 oN 4 (.mov (.t 13))] [4] false)
 .ret))
def F_meta_isChar : IFn := ⟨2, b_meta_isChar, [.t 4], .pure⟩
def v_meta_isChar : List Nat := [0, 1, 2, 4]

/- (*chiasmus/meta.reader).starred -/
def l0___meta_reader__starred : ICode :=
 (.seq
 (.region [oN 59 (.mkslice 0 [] false (.c .junk) (.c .junk)),
 oN 60 (.ext (.t 59) 0)] [60] false)
 (.seq
 (.cond (.t 60)
 .skip
 (.exit 1))
 (.block 2
 (.seq
 (.region [oN 61 (.mkslice 0 [] false (.c .junk) (.c .junk)),
 oN 62 (.ext (.t 61) 0),
 oN 63 (.ext (.t 61) 1),
 oN 8 (.mov (.t 62)),
 oN 9 (.mov (.t 63))] [8, 9] false)
 (.seq
 (.region [oN 64 (.load true 3 (.t 4)),
 oN 65 (.mov (.t 9)),
 oN 66 (.call (.c (.fn n_meta_isChar [] [])) [(.t 64), (.t 65)])] [66] false)
 (.cond (.t 66)
 (.seq
 (.region [oN 68 (.mov (.t 0)),
 oN 69 (.call (.c (.fn n___meta_reader__next [] [])) [(.t 68)]),
 oN 67 (.mov (.t 69)),
 oN 70 (.ext (.t 67) 0),
 oN 71 (.ext (.t 67) 1),
 oN 10 (.alloc [.int .i64 0, .str [], .sl .nil 3 []]),
 oU (.store 3 (.t 10) (.t 70)),
 oN 11 (.mov (.t 71))] [10, 11] false)
 (.seq
 (.region [oN 72 (.mov (.t 8)),
 oN 73 (.faddr 1 (.t 10)),
 oN 74 (.load false 1 (.t 73)),
 oN 75 (.build [.int .i64 0, .str [], .sl .nil 3 []] [(0, 1, (.t 72)), (1, 1, (.t 74))]),
 oN 76 (.mov (.t 11)),
 oN 77 (.mov (.t 76)),
 oG 78 (some (77, true)) (.faddr 0 (.t 10)),
 ⟨(some 79), .load false 1 (.t 78), (some (77, true)), [⟨false, 1, .t 10, some 0⟩], false⟩,
 oG 80 (some (77, true)) (.bin .eql .val (.t 79) (.c (.int .i64 2))),
 oN 81 (.pick (.t 77) (.t 80) (.c (.bool false))),
 ⟨none, .store 3 (.t 2) (.t 75), none, [⟨false, 1, .t 10, some 0⟩], false⟩,
 oN 3 (.mov (.t 81))] [3] true)
 .ret))
 .skip))))))
def b___meta_reader__starred : ICode :=
 (.seq
 (.region [oN 2 (.alloc [.int .i64 0, .str [], .sl .nil 3 []]),
 oN 3 (.mov (.c (.bool false)))] [2, 3] false)
 (.seq
 (.region [oN 13 (.mov (.t 0)),
 oN 14 (.call (.c (.fn n___meta_reader__next [] [])) [(.t 13)]),
 oN 12 (.mov (.t 14)),
 oN 15 (.ext (.t 12) 0),
 oN 16 (.ext (.t 12) 1),
 oN 4 (.alloc [.int .i64 0, .str [], .sl .nil 3 []]),
 oU (.store 3 (.t 4) (.t 15)),
 oN 5 (.mov (.t 16))] [4, 5] false)
 (.seq
 (.block 0
 (.seq
 (.region [oN 18 (.mov (.t 5)),
 oN 19 (.un .not (.t 18)),
 oN 17 (.mov (.t 19))] [17] false)
 (.cond (.t 17)
 (.seq
 (.region [oN 20 (.build [.int .i64 0, .str [], .sl .nil 3 []] []),
 oU (.store 3 (.t 2) (.t 20)),
 oN 3 (.mov (.c (.bool false)))] [3] false)
 .ret)
 (.seq
 (.region [oN 22 (.load true 3 (.t 4)),
 oN 23 (.call (.c (.fn n_meta_isChar [] [])) [(.t 22), (.c (.str [86]))]),
 oN 21 (.mov (.t 23))] [21] false)
 (.cond (.t 21)
 (.seq
 (.region [oN 24 (.call (.c (.fn n_meta_char [] [])) [(.c (.str [42]))]),
 oU (.store 3 (.t 2) (.t 24)),
 oN 3 (.mov (.c (.bool true)))] [3] false)
 .ret)
 (.seq
 (.region [oN 26 (.faddr 0 (.t 4)),
 oN 27 (.load false 1 (.t 26)),
 oN 28 (.bin .eql .val (.t 27) (.c (.int .i64 4))),
 oN 25 (.mov (.t 28))] [25] false)
 (.cond (.t 25)
 (.seq
 (.seq
 (.region [oN 29 (.faddr 2 (.t 4)),
 oN 30 (.load false 1 (.t 29)),
 oN 31 (.len .slice (.t 30)),
 oN 32 (.bin .eql .val (.t 31) (.c (.int .i64 0))),
 oN 33 (.mov (.t 32)),
 oG 34 (some (33, false)) (.faddr 2 (.t 4)),
 oG 35 (some (33, false)) (.load false 1 (.t 34)),
 oG 36 (some (33, false)) (.iaddr 3 (.t 35) (.c (.int .i64 0))),
 oG 37 (some (33, false)) (.faddr 0 (.t 36)),
 oG 38 (some (33, false)) (.load false 1 (.t 37)),
 oG 39 (some (33, false)) (.bin .neq .val (.t 38) (.c (.int .i64 2))),
 oN 40 (.pick (.t 33) (.c (.bool true)) (.t 39))] [40] false)
 (.cond (.t 40)
 (.seq
 (.region [oN 41 (.build [.int .i64 0, .str [], .sl .nil 3 []] []),
 oU (.store 3 (.t 2) (.t 41)),
 oN 3 (.mov (.c (.bool false)))] [3] false)
 .ret)
 .skip))
 (.seq
 (.region [oN 43 (.faddr 2 (.t 4)),
 oN 44 (.load false 1 (.t 43)),
 oN 45 (.slice 3 (.t 44) (some (.c (.int .i64 1))) none none),
 oN 46 (.call (.c (.fn n_meta_dn [] [])) [(.t 45)]),
 oN 42 (.mov (.t 46)),
 oN 47 (.ext (.t 42) 0),
 oN 48 (.ext (.t 42) 1),
 oN 6 (.mov (.t 47)),
 oN 7 (.mov (.t 48))] [6, 7] false)
 (.seq
 (.region [oN 49 (.faddr 2 (.t 4)),
 oN 50 (.load false 1 (.t 49)),
 oN 51 (.iaddr 3 (.t 50) (.c (.int .i64 0))),
 oN 52 (.faddr 1 (.t 51)),
 oN 53 (.load false 1 (.t 52)),
 oN 54 (.mov (.t 6)),
 oN 55 (.build [.int .i64 0, .str [], .sl .nil 3 []] [(0, 1, (.c (.int .i64 8))), (1, 1, (.t 53)), (2, 1, (.t 54))]),
 oN 56 (.mov (.t 7)),
 oU (.store 3 (.t 2) (.t 55)),
 oN 3 (.mov (.t 56))] [3] false)
 .ret)))
 .skip)))))))
 (.seq
 (.seq
 (.region [oN 57 (.call (.c (.fn n_meta_letters [] [])) []),
 oN 58 (.mkslice 0 [] false (.c .junk) (.c .junk))] [58] false)
 (.block 1
 (.loop [3, 5, 6, 7, 8, 9, 10, 11, 17, 21, 25, 40, 60, 66] l0___meta_reader__starred)))
 (.seq
 (.region [oN 82 (.build [.int .i64 0, .str [], .sl .nil 3 []] []),
 oU (.store 3 (.t 2) (.t 82)),
 oN 3 (.mov (.c (.bool false)))] [3] false)
 .ret)))))
def F___meta_reader__starred : IFn := ⟨1, b___meta_reader__starred, [.cell 2 true 3, .t 3], .eff⟩
def v___meta_reader__starred : List Nat := [0, 2, 3, 4, 5, 6, 7, 8, 9, 10, 11, 17, 21, 25, 40, 58, 60, 66]

/- chiasmus/term.Compare -/
def l0_term_Compare : ICode :=
 (.seq
 (.region [oN 13 (.bin .lss .val (.t 12) (.t 11))] [13] false)
 (.seq
 (.cond (.t 13)
 .skip
 (.exit 0))
 (.seq
 (.block 1
 (.seq
 (.region [oN 14 (.mov (.t 12)),
 oN 5 (.mov (.t 14))] [5] false)
 (.seq
 (.block 2
 (.seq
 (.region [oN 16 (.mov (.t 0)),
 oN 17 (.mov (.t 5)),
 oN 18 (.iaddr 3 (.t 16) (.t 17)),
 oN 19 (.faddr 0 (.t 18)),
 oN 20 (.load false 1 (.t 19)),
 oN 21 (.mov (.t 1)),
 oN 22 (.mov (.t 5)),
 oN 23 (.iaddr 3 (.t 21) (.t 22)),
 oN 24 (.faddr 0 (.t 23)),
 oN 25 (.load false 1 (.t 24)),
 oN 26 (.bin .neq .val (.t 20) (.t 25)),
 oN 15 (.mov (.t 26))] [15] true)
 (.cond (.t 15)
 (.seq
 (.region [oN 27 (.mov (.t 0)),
 oN 28 (.mov (.t 5)),
 oN 29 (.iaddr 3 (.t 27) (.t 28)),
 oN 30 (.faddr 0 (.t 29)),
 oN 31 (.load false 1 (.t 30)),
 oN 32 (.mov (.t 1)),
 oN 33 (.mov (.t 5)),
 oN 34 (.iaddr 3 (.t 32) (.t 33)),
 oN 35 (.faddr 0 (.t 34)),
 oN 36 (.load false 1 (.t 35)),
 oM 37 (.call (.c (.fn n_cmp_Compare_int_ [] [])) [(.t 31), (.t 36)]),
 oN 4 (.mov (.t 37))] [4] true)
 .ret)
 (.seq
 (.region [oN 39 (.mov (.t 0)),
 oN 40 (.mov (.t 5)),
 oN 41 (.iaddr 3 (.t 39) (.t 40)),
 oN 42 (.faddr 1 (.t 41)),
 oN 43 (.load false 1 (.t 42)),
 oN 44 (.mov (.t 1)),
 oN 45 (.mov (.t 5)),
 oN 46 (.iaddr 3 (.t 44) (.t 45)),
 oN 47 (.faddr 1 (.t 46)),
 oN 48 (.load false 1 (.t 47)),
 oN 49 (.bin .neq .val (.t 43) (.t 48)),
 oN 38 (.mov (.t 49))] [38] true)
 (.cond (.t 38)
 (.seq
 (.region [oN 50 (.mov (.t 0)),
 oN 51 (.mov (.t 5)),
 oN 52 (.iaddr 3 (.t 50) (.t 51)),
 oN 53 (.faddr 1 (.t 52)),
 oN 54 (.load false 1 (.t 53)),
 oN 55 (.mov (.t 1)),
 oN 56 (.mov (.t 5)),
 oN 57 (.iaddr 3 (.t 55) (.t 56)),
 oN 58 (.faddr 1 (.t 57)),
 oN 59 (.load false 1 (.t 58)),
 oM 60 (.call (.c (.fn n_cmp_Compare_string_ [] [])) [(.t 54), (.t 59)]),
 oN 4 (.mov (.t 60))] [4] true)
 .ret)
 .skip)))))
 (.seq
 (.region [oN 61 (.mov (.t 0)),
 oN 62 (.mov (.t 5)),
 oN 63 (.iaddr 3 (.t 61) (.t 62)),
 oN 64 (.faddr 2 (.t 63)),
 oN 65 (.load false 1 (.t 64)),
 oN 66 (.mov (.t 1)),
 oN 67 (.mov (.t 5)),
 oN 68 (.iaddr 3 (.t 66) (.t 67)),
 oN 69 (.faddr 2 (.t 68)),
 oN 70 (.load false 1 (.t 69)),
 oM 71 (.call (.c (.fn n_term_Compare [] [])) [(.t 65), (.t 70)]),
 oN 6 (.mov (.t 71))] [6] true)
 (.seq
 (.region [oN 72 (.mov (.t 6)),
 oN 73 (.bin .neq .val (.t 72) (.c (.int .i64 0)))] [73] false)
 (.cond (.t 73)
 (.seq
 (.region [oN 74 (.mov (.t 6)),
 oN 4 (.mov (.t 74))] [4] false)
 .ret)
 .skip))))))
 (.region [oN 75 (.bin .add .val (.t 12) (.c (.int .i64 1))),
 oN 12 (.mov (.t 75))] [12] false))))
def b_term_Compare : ICode :=
 (.seq
 (.region [oN 4 (.mov (.c (.int .i64 0)))] [4] false)
 (.seq
 (.seq
 (.region [oN 7 (.mov (.t 0)),
 oN 8 (.len .slice (.t 7)),
 oN 9 (.mov (.t 1)),
 oN 10 (.len .slice (.t 9)),
 oN 11 (.mm .min [(.t 8), (.t 10)]),
 oN 12 (.mov (.c (.int .i64 0)))] [11, 12] false)
 (.block 0
 (.loop [4, 5, 6, 13, 15, 38, 73] l0_term_Compare)))
 (.seq
 (.region [oN 76 (.mov (.t 0)),
 oN 77 (.len .slice (.t 76)),
 oN 78 (.mov (.t 1)),
 oN 79 (.len .slice (.t 78)),
 oN 80 (.call (.c (.fn n_cmp_Compare_int_ [] [])) [(.t 77), (.t 79)]),
 oN 4 (.mov (.t 80))] [4] false)
 .ret)))
def F_term_Compare : IFn := ⟨2, b_term_Compare, [.t 4], .pure⟩
def v_term_Compare : List Nat := [0, 1, 4, 5, 6, 11, 12, 13, 15, 38, 73]

/- cmp.Compare[int] -/
def b_cmp_Compare_int_ : ICode :=
 (.seq
 (.region [oN 4 (.mov (.c (.int .i64 0)))] [4] false)
 (.seq
 (.region [oN 7 (.mov (.t 0)),
 oN 8 (.call (.c (.fn n_cmp_isNaN_int_ [] [])) [(.t 7)]),
 oN 5 (.mov (.t 8))] [5] false)
 (.seq
 (.region [oN 9 (.mov (.t 1)),
 oN 10 (.call (.c (.fn n_cmp_isNaN_int_ [] [])) [(.t 9)]),
 oN 6 (.mov (.t 10))] [6] false)
 (.seq
 (.seq
 (.region [oN 11 (.mov (.t 5))] [11] false)
 (.cond (.t 11)
 (.seq
 (.seq
 (.region [oN 12 (.mov (.t 6))] [12] false)
 (.cond (.t 12)
 (.seq
 (.region [oN 4 (.mov (.c (.int .i64 0)))] [4] false)
 .ret)
 .skip))
 (.seq
 (.region [oN 4 (.mov (.c (.int .i64 (-1))))] [4] false)
 .ret))
 .skip))
 (.seq
 (.seq
 (.region [oN 13 (.mov (.t 6))] [13] false)
 (.cond (.t 13)
 (.seq
 (.region [oN 4 (.mov (.c (.int .i64 1)))] [4] false)
 .ret)
 .skip))
 (.seq
 (.seq
 (.region [oN 14 (.mov (.t 0)),
 oN 15 (.mov (.t 1)),
 oN 16 (.bin .lss .val (.t 14) (.t 15))] [16] false)
 (.cond (.t 16)
 (.seq
 (.region [oN 4 (.mov (.c (.int .i64 (-1))))] [4] false)
 .ret)
 .skip))
 (.seq
 (.seq
 (.region [oN 17 (.mov (.t 0)),
 oN 18 (.mov (.t 1)),
 oN 19 (.bin .gtr .val (.t 17) (.t 18))] [19] false)
 (.cond (.t 19)
 (.seq
 (.region [oN 4 (.mov (.c (.int .i64 1)))] [4] false)
 .ret)
 .skip))
 (.seq
 (.region [oN 4 (.mov (.c (.int .i64 0)))] [4] false)
 .ret))))))))
def F_cmp_Compare_int_ : IFn := ⟨2, b_cmp_Compare_int_, [.t 4], .pure⟩
def v_cmp_Compare_int_ : List Nat := [0, 1, 4, 5, 6, 11, 12, 13, 16, 19]

/- cmp.Compare[string] -/
def b_cmp_Compare_string_ : ICode :=
 (.seq
 (.region [oN 4 (.mov (.c (.int .i64 0)))] [4] false)
 (.seq
 (.region [oN 7 (.mov (.t 0)),
 oN 8 (.call (.c (.fn n_cmp_isNaN_string_ [] [])) [(.t 7)]),
 oN 5 (.mov (.t 8))] [5] false)
 (.seq
 (.region [oN 9 (.mov (.t 1)),
 oN 10 (.call (.c (.fn n_cmp_isNaN_string_ [] [])) [(.t 9)]),
 oN 6 (.mov (.t 10))] [6] false)
 (.seq
 (.seq
 (.region [oN 11 (.mov (.t 5))] [11] false)
 (.cond (.t 11)
 (.seq
 (.seq
 (.region [oN 12 (.mov (.t 6))] [12] false)
 (.cond (.t 12)
 (.seq
 (.region [oN 4 (.mov (.c (.int .i64 0)))] [4] false)
 .ret)
 .skip))
 (.seq
 (.region [oN 4 (.mov (.c (.int .i64 (-1))))] [4] false)
 .ret))
 .skip))
 (.seq
 (.seq
 (.region [oN 13 (.mov (.t 6))] [13] false)
 (.cond (.t 13)
 (.seq
 (.region [oN 4 (.mov (.c (.int .i64 1)))] [4] false)
 .ret)
 .skip))
 (.seq
 (.seq
 (.region [oN 14 (.mov (.t 0)),
 oN 15 (.mov (.t 1)),
 oN 16 (.bin .lss .val (.t 14) (.t 15))] [16] false)
 (.cond (.t 16)
 (.seq
 (.region [oN 4 (.mov (.c (.int .i64 (-1))))] [4] false)
 .ret)
 .skip))
 (.seq
 (.seq
 (.region [oN 17 (.mov (.t 0)),
 oN 18 (.mov (.t 1)),
 oN 19 (.bin .gtr .val (.t 17) (.t 18))] [19] false)
 (.cond (.t 19)
 (.seq
 (.region [oN 4 (.mov (.c (.int .i64 1)))] [4] false)
 .ret)
 .skip))
 (.seq
 (.region [oN 4 (.mov (.c (.int .i64 0)))] [4] false)
 .ret))))))))
def F_cmp_Compare_string_ : IFn := ⟨2, b_cmp_Compare_string_, [.t 4], .pure⟩
def v_cmp_Compare_string_ : List Nat := [0, 1, 4, 5, 6, 11, 12, 13, 16, 19]

/- cmp.isNaN[int] -/
def b_cmp_isNaN_int_ : ICode :=
 (.seq
 (.region [oN 2 (.mov (.c (.bool false)))] [2] false)
 (.seq
 (.region [oN 3 (.mov (.t 0)),
 oN 4 (.mov (.t 0)),
 oN 5 (.bin .neq .val (.t 3) (.t 4)),
 oN 2 (.mov (.t 5))] [2] false)
 .ret))
def F_cmp_isNaN_int_ : IFn := ⟨1, b_cmp_isNaN_int_, [.t 2], .pure⟩
def v_cmp_isNaN_int_ : List Nat := [0, 2]

/- cmp.isNaN[string] -/
def b_cmp_isNaN_string_ : ICode :=
 (.seq
 (.region [oN 2 (.mov (.c (.bool false)))] [2] false)
 (.seq
 (.region [oN 3 (.mov (.t 0)),
 oN 4 (.mov (.t 0)),
 oN 5 (.bin .neq .val (.t 3) (.t 4)),
 oN 2 (.mov (.t 5))] [2] false)
 .ret))
def F_cmp_isNaN_string_ : IFn := ⟨1, b_cmp_isNaN_string_, [.t 2], .pure⟩
def v_cmp_isNaN_string_ : List Nat := [0, 2]

def table : List (Nat × IFn × List Nat) := [
  (n_chiasmuslaw10_BuiltinBack, F_chiasmuslaw10_BuiltinBack, v_chiasmuslaw10_BuiltinBack),
  (n_term_Size, F_term_Size, v_term_Size),
  (n_chiasmuslaw10_Small, F_chiasmuslaw10_Small, v_chiasmuslaw10_Small),
  (n_term_Value, F_term_Value, v_term_Value),
  (n_chiasmuslaw10_awake, F_chiasmuslaw10_awake, v_chiasmuslaw10_awake),
  (n_chiasmuslaw10_apply, F_chiasmuslaw10_apply, v_chiasmuslaw10_apply),
  (n_chiasmusref01_Equal, F_chiasmusref01_Equal, v_chiasmusref01_Equal),
  (n_chiasmuslaw10_small, F_chiasmuslaw10_small, v_chiasmuslaw10_small),
  (n_slices_Clone___api_Term_api_Term_, F_slices_Clone___api_Term_api_Term_, v_slices_Clone___api_Term_api_Term_),
  (n_slices_Clone___api_Term_api_Term__m, F_slices_Clone___api_Term_api_Term__m, v_slices_Clone___api_Term_api_Term__m),
  (n_term_Size_1, F_term_Size_1, v_term_Size_1),
  (n_term_all, F_term_all, v_term_all),
  (n_term_depth, F_term_depth, v_term_depth),
  (n_chiasmuslaw10_nodes, F_chiasmuslaw10_nodes, v_chiasmuslaw10_nodes),
  (n_chiasmuslaw10_shortTexts, F_chiasmuslaw10_shortTexts, v_chiasmuslaw10_shortTexts),
  (n_term_check, F_term_check, v_term_check),
  (n_builtin_Apply, F_builtin_Apply, v_builtin_Apply),
  (n_chiasmuslaw10_number, F_chiasmuslaw10_number, v_chiasmuslaw10_number),
  (n_chiasmuslaw10_chars, F_chiasmuslaw10_chars, v_chiasmuslaw10_chars),
  (n_chiasmusref01_Compare, F_chiasmusref01_Compare, v_chiasmusref01_Compare),
  (n_term_all_1, F_term_all_1, v_term_all_1),
  (n_term_all_1_1, F_term_all_1_1, v_term_all_1_1),
  (n_slices_ContainsFunc___api_Term_api_Term_, F_slices_ContainsFunc___api_Term_api_Term_, v_slices_ContainsFunc___api_Term_api_Term_),
  (n_chiasmuslaw10_shortTexts_1, F_chiasmuslaw10_shortTexts_1, v_chiasmuslaw10_shortTexts_1),
  (n_term_right, F_term_right, v_term_right),
  (n_builtin_functions, F_builtin_functions, v_builtin_functions),
  (n_builtin_Check, F_builtin_Check, v_builtin_Check),
  (n_builtin_Apply_1, F_builtin_Apply_1, v_builtin_Apply_1),
  (n_term_Copy, F_term_Copy, v_term_Copy),
  (n_builtin_copied, F_builtin_copied, v_builtin_copied),
  (n_builtin_Keeps, F_builtin_Keeps, v_builtin_Keeps),
  (n_builtin_need, F_builtin_need, v_builtin_need),
  (n_chiasmusref01_Sign, F_chiasmusref01_Sign, v_chiasmusref01_Sign),
  (n_slices_IndexFunc___api_Term_api_Term_, F_slices_IndexFunc___api_Term_api_Term_, v_slices_IndexFunc___api_Term_api_Term_),
  (n_term_identifier, F_term_identifier, v_term_identifier),
  (n_strings_ContainsFunc, F_strings_ContainsFunc, v_strings_ContainsFunc),
  (n_term_right_1, F_term_right_1, v_term_right_1),
  (n_term_isNumber, F_term_isNumber, v_term_isNumber),
  (n_term_every, F_term_every, v_term_every),
  (n___builtin_call__numb, F___builtin_call__numb, v___builtin_call__numb),
  (n___builtin_call__symb, F___builtin_call__symb, v___builtin_call__symb),
  (n___builtin_call__first, F___builtin_call__first, v___builtin_call__first),
  (n___builtin_call__last, F___builtin_call__last, v___builtin_call__last),
  (n___builtin_call__explode, F___builtin_call__explode, v___builtin_call__explode),
  (n___builtin_call__implode, F___builtin_call__implode, v___builtin_call__implode),
  (n___builtin_call__up, F___builtin_call__up, v___builtin_call__up),
  (n___builtin_call__dn, F___builtin_call__dn, v___builtin_call__dn),
  (n___builtin_call__bury, F___builtin_call__bury, v___builtin_call__bury),
  (n___builtin_call__copy, F___builtin_call__copy, v___builtin_call__copy),
  (n_slices_Clone___string_string_, F_slices_Clone___string_string_, v_slices_Clone___string_string_),
  (n_slices_Contains___string_string_, F_slices_Contains___string_string_, v_slices_Contains___string_string_),
  (n_term_is, F_term_is, v_term_is),
  (n_strings_IndexFunc, F_strings_IndexFunc, v_strings_IndexFunc),
  (n_strings_CutPrefix, F_strings_CutPrefix, v_strings_CutPrefix),
  (n_builtin_group, F_builtin_group, v_builtin_group),
  (n___builtin_call__text, F___builtin_call__text, v___builtin_call__text),
  (n_strings_Trim, F_strings_Trim, v_strings_Trim),
  (n_strings_TrimLeft, F_strings_TrimLeft, v_strings_TrimLeft),
  (n_builtin_number, F_builtin_number, v_builtin_number),
  (n_term_Chars, F_term_Chars, v_term_Chars),
  (n___builtin_call__single, F___builtin_call__single, v___builtin_call__single),
  (n_strconv_Atoi, F_strconv_Atoi, v_strconv_Atoi),
  (n___builtin_call__cut, F___builtin_call__cut, v___builtin_call__cut),
  (n_builtin_halves, F_builtin_halves, v_builtin_halves),
  (n___builtin_call__implode_1, F___builtin_call__implode_1, v___builtin_call__implode_1),
  (n_term_Result, F_term_Result, v_term_Result),
  (n_meta_Up, F_meta_Up, v_meta_Up),
  (n_meta_Dn, F_meta_Dn, v_meta_Dn),
  (n_term_Variables, F_term_Variables, v_term_Variables),
  (n___builtin_call__put, F___builtin_call__put, v___builtin_call__put),
  (n___builtin_call__keyed, F___builtin_call__keyed, v___builtin_call__keyed),
  (n___builtin_call__top, F___builtin_call__top, v___builtin_call__top),
  (n_slices_Index___string_string_, F_slices_Index___string_string_, v_slices_Index___string_string_),
  (n_term_classOf, F_term_classOf, v_term_classOf),
  (n_strings_indexFunc, F_strings_indexFunc, v_strings_indexFunc),
  (n_internal_stringslite_CutPrefix, F_internal_stringslite_CutPrefix, v_internal_stringslite_CutPrefix),
  (n_strings_trimLeftByte, F_strings_trimLeftByte, v_strings_trimLeftByte),
  (n_strings_makeASCIISet, F_strings_makeASCIISet, v_strings_makeASCIISet),
  (n_strings_trimLeftASCII, F_strings_trimLeftASCII, v_strings_trimLeftASCII),
  (n_strings_trimRightASCII, F_strings_trimRightASCII, v_strings_trimRightASCII),
  (n_internal_strconv_Atoi, F_internal_strconv_Atoi, v_internal_strconv_Atoi),
  (n_meta_up, F_meta_up, v_meta_up),
  (n_meta_fits, F_meta_fits, v_meta_fits),
  (n_meta_dn, F_meta_dn, v_meta_dn),
  (n_term_Name, F_term_Name, v_term_Name),
  (n___builtin_call__keyed_1, F___builtin_call__keyed_1, v___builtin_call__keyed_1),
  (n_slices_IndexFunc___api_Buried_api_Buried_, F_slices_IndexFunc___api_Buried_api_Buried_, v_slices_IndexFunc___api_Buried_api_Buried_),
  (n___builtin_call__top_1, F___builtin_call__top_1, v___builtin_call__top_1),
  (n_term_Equal, F_term_Equal, v_term_Equal),
  (n_internal_stringslite_HasPrefix, F_internal_stringslite_HasPrefix, v_internal_stringslite_HasPrefix),
  (n___strings_asciiSet__contains, F___strings_asciiSet__contains, v___strings_asciiSet__contains),
  (n_meta_group, F_meta_group, v_meta_group),
  (n_meta_char, F_meta_char, v_meta_char),
  (n_meta_word, F_meta_word, v_meta_word),
  (n_term_IsVariable, F_term_IsVariable, v_term_IsVariable),
  (n___meta_reader__next, F___meta_reader__next, v___meta_reader__next),
  (n_meta_isChar, F_meta_isChar, v_meta_isChar),
  (n___meta_reader__starred, F___meta_reader__starred, v___meta_reader__starred),
  (n_term_Compare, F_term_Compare, v_term_Compare),
  (n_cmp_Compare_int_, F_cmp_Compare_int_, v_cmp_Compare_int_),
  (n_cmp_Compare_string_, F_cmp_Compare_string_, v_cmp_Compare_string_),
  (n_cmp_isNaN_int_, F_cmp_isNaN_int_, v_cmp_isNaN_int_),
  (n_cmp_isNaN_string_, F_cmp_isNaN_string_, v_cmp_isNaN_string_)]
end Ab.U
