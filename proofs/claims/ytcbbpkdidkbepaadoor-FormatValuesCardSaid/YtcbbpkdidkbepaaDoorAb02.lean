/- The abstract texts of the functions. MADE BY PROGRAM (Gen). No condition. -/
import Derived.Test.YtcbbpkdidkbepaaDoorAb01
set_option linter.all false
namespace Ab.R
open Ab
def n_chiasmuslaw22_FormatOrder : Nat := 3
def n_chiasmuslaw22_FormatValues : Nat := 4
def n_chiasmuslaw09_Small : Nat := 5
def n_format_Check : Nat := 6
def n_chiasmuslaw22_awake : Nat := 7
def n_chiasmuslaw22_inside : Nat := 8
def n_format_Join : Nat := 9
def n_chiasmusref01_Equal : Nat := 10
def n_format_Cut : Nat := 11
def n_term_Value : Nat := 12
def n_format_Of : Nat := 13
def n_format_Has : Nat := 14
def n_chiasmuslaw09_nodes : Nat := 15
def n_chiasmuslaw09_short : Nat := 16
def n_term_Pattern : Nat := 17
def n_format_Check_1 : Nat := 18
def n_term_Equal : Nat := 19
def n_format_named : Nat := 20
def n_format_Within : Nat := 21
def n_format_pair : Nat := 22
def n_format_join : Nat := 23
def n_chiasmusref01_Compare : Nat := 24
def n_format_cut : Nat := 25
def n_term_check : Nat := 26
def n_term_Result : Nat := 27
def n_format_least : Nat := 28
def n_format_table : Nat := 29
def n_format_within : Nat := 30
def n_term_Compare : Nat := 31
def n___format_namer__next : Nat := 32
def n_format_named_1 : Nat := 33
def n_format_split : Nat := 34
def n_format_zip : Nat := 35
def n_format_both : Nat := 36
def n_format_join_1 : Nat := 37
def n__format_list__all : Nat := 38
def n_chiasmusref01_Sign : Nat := 39
def n_term_all : Nat := 40
def n_term_depth : Nat := 41
def n_term_right : Nat := 42
def n_format_some : Nat := 43
def n_format_merged : Nat := 44
def n_slices_Backward___format_Format_format_Format_ : Nat := 45
def n_slices_EqualFunc___api_Term___api_Term_api_Term_api_Term_ : Nat := 46
def n_format_inside : Nat := 47
def n_slices_Backward___api_Term_api_Term_ : Nat := 48
def n_cmp_Compare_int_ : Nat := 49
def n_cmp_Compare_string_ : Nat := 50
def n_strconv_Itoa : Nat := 51
def n_format_split_1 : Nat := 52
def n_slices_IndexFunc___api_Term_api_Term_ : Nat := 53
def n_slices_Clone___api_Term_api_Term_ : Nat := 54
def n_slices_Concat___api_Term_api_Term_ : Nat := 55
def n_term_all_1 : Nat := 56
def n_term_all_1_1 : Nat := 57
def n_term_identifier : Nat := 58
def n_strings_ContainsFunc : Nat := 59
def n_term_right_1 : Nat := 60
def n_term_isNumber : Nat := 61
def n_term_every : Nat := 62
def n_slices_Backward___format_Format_format_Format__1 : Nat := 63
def n_slices_Backward___api_Term_api_Term__1 : Nat := 64
def n_cmp_isNaN_int_ : Nat := 65
def n_cmp_isNaN_string_ : Nat := 66
def n_internal_strconv_Itoa : Nat := 67
def n_slices_Grow___api_Term_api_Term_ : Nat := 68
def n_term_is : Nat := 69
def n_strings_IndexFunc : Nat := 70
def n_strings_CutPrefix : Nat := 71
def n_internal_strconv_FormatInt : Nat := 72
def n_term_classOf : Nat := 73
def n_strings_indexFunc : Nat := 74
def n_internal_stringslite_CutPrefix : Nat := 75
def n_internal_strconv_small : Nat := 76
def n_internal_strconv_numDigits : Nat := 77
def n_internal_strconv_formatBase10 : Nat := 78
def n_internal_strconv_formatBits : Nat := 79
def n_internal_stringslite_HasPrefix : Nat := 80
/- chiasmus/chiasmuslaw22.FormatOrder -/
def b_chiasmuslaw22_FormatOrder : ICode :=
 (.seq
 (.region [
   ⟨(some 6), .mov (.c (.bool false)), none, [], false⟩] [6] false)
 (.seq
 (.seq
 (.region [
   ⟨(some 13), .mov (.t 0), none, [], false⟩,
   ⟨(some 14), .call (.c (.fn n_chiasmuslaw09_Small [] [])) [(.t 13), (.c (.int .i64 60))], none, [], false⟩,
   ⟨(some 15), .un .not (.t 14), none, [], false⟩,
   ⟨(some 16), .mov (.t 15), none, [], false⟩,
   ⟨(some 17), .mov (.t 1), (some (16, false)), [], false⟩,
   ⟨(some 18), .call (.c (.fn n_chiasmuslaw09_Small [] [])) [(.t 17), (.c (.int .i64 60))], (some (16, false)), [], false⟩,
   ⟨(some 19), .un .not (.t 18), (some (16, false)), [], false⟩,
   ⟨(some 20), .pick (.t 16) (.c (.bool true)) (.t 19), none, [], false⟩,
   ⟨(some 21), .mov (.t 20), none, [], false⟩,
   ⟨(some 22), .mov (.t 2), (some (21, false)), [], false⟩,
   ⟨(some 23), .call (.c (.fn n_chiasmuslaw09_Small [] [])) [(.t 22), (.c (.int .i64 60))], (some (21, false)), [], false⟩,
   ⟨(some 24), .un .not (.t 23), (some (21, false)), [], false⟩,
   ⟨(some 25), .pick (.t 21) (.c (.bool true)) (.t 24), none, [], false⟩,
   ⟨(some 26), .mov (.t 25), none, [], false⟩,
   ⟨(some 27), .mov (.t 0), (some (26, false)), [], false⟩,
   ⟨(some 28), .call (.c (.fn n_format_Check [] [])) [(.t 27)], (some (26, false)), [], false⟩,
   ⟨(some 29), .bin .neq .val (.t 28) (.c (.int .i64 0)), (some (26, false)), [], false⟩,
   ⟨(some 30), .pick (.t 26) (.c (.bool true)) (.t 29), none, [], false⟩,
   ⟨(some 31), .mov (.t 30), none, [], false⟩,
   ⟨(some 32), .mov (.t 1), (some (31, false)), [], false⟩,
   ⟨(some 33), .call (.c (.fn n_format_Check [] [])) [(.t 32)], (some (31, false)), [], false⟩,
   ⟨(some 34), .bin .neq .val (.t 33) (.c (.int .i64 0)), (some (31, false)), [], false⟩,
   ⟨(some 35), .pick (.t 31) (.c (.bool true)) (.t 34), none, [], false⟩,
   ⟨(some 36), .mov (.t 35), none, [], false⟩,
   ⟨(some 37), .mov (.t 2), (some (36, false)), [], false⟩,
   ⟨(some 38), .call (.c (.fn n_format_Check [] [])) [(.t 37)], (some (36, false)), [], false⟩,
   ⟨(some 39), .bin .neq .val (.t 38) (.c (.int .i64 0)), (some (36, false)), [], false⟩,
   ⟨(some 40), .pick (.t 36) (.c (.bool true)) (.t 39), none, [], false⟩] [40] false)
 (.cond (.t 40)
  (.seq
  (.region [
    ⟨(some 41), .call (.c (.fn n_chiasmuslaw22_awake [] [])) [], none, [], false⟩,
    ⟨(some 6), .mov (.t 41), none, [], false⟩] [6] false)
  .ret)
  .skip))
 (.seq
 (.seq
 (.region [
   ⟨(some 42), .mov (.t 0), none, [], false⟩,
   ⟨(some 43), .mov (.t 0), none, [], false⟩,
   ⟨(some 44), .call (.c (.fn n_chiasmuslaw22_inside [] [])) [(.t 42), (.t 43)], none, [], false⟩,
   ⟨(some 45), .un .not (.t 44), none, [], false⟩,
   ⟨(some 46), .mov (.t 45), none, [], false⟩,
   ⟨(some 47), .mov (.t 0), (some (46, false)), [], false⟩,
   ⟨(some 48), .mov (.t 1), (some (46, false)), [], false⟩,
   ⟨(some 49), .call (.c (.fn n_chiasmuslaw22_inside [] [])) [(.t 47), (.t 48)], (some (46, false)), [], false⟩,
   ⟨(some 50), .mov (.t 49), (some (46, false)), [], false⟩,
   ⟨(some 51), .mov (.t 1), (some (50, true)), [], false⟩,
   ⟨(some 52), .mov (.t 2), (some (50, true)), [], false⟩,
   ⟨(some 53), .call (.c (.fn n_chiasmuslaw22_inside [] [])) [(.t 51), (.t 52)], (some (50, true)), [], false⟩,
   ⟨(some 54), .pick (.t 50) (.t 53) (.c (.bool false)), (some (46, false)), [], false⟩,
   ⟨(some 55), .mov (.t 54), (some (46, false)), [], false⟩,
   ⟨(some 56), .mov (.t 0), (some (55, true)), [], false⟩,
   ⟨(some 57), .mov (.t 2), (some (55, true)), [], false⟩,
   ⟨(some 58), .call (.c (.fn n_chiasmuslaw22_inside [] [])) [(.t 56), (.t 57)], (some (55, true)), [], false⟩,
   ⟨(some 59), .un .not (.t 58), (some (55, true)), [], false⟩,
   ⟨(some 60), .pick (.t 55) (.t 59) (.c (.bool false)), (some (46, false)), [], false⟩,
   ⟨(some 61), .pick (.t 46) (.c (.bool true)) (.t 60), none, [], false⟩] [61] false)
 (.cond (.t 61)
  (.seq
  (.region [
    ⟨(some 6), .mov (.c (.bool false)), none, [], false⟩] [6] false)
  .ret)
  .skip))
 (.seq
 (.region [
   ⟨(some 63), .mov (.t 0), none, [], false⟩,
   ⟨(some 64), .mov (.t 1), none, [], false⟩,
   ⟨(some 65), .call (.c (.fn n_format_Join [] [])) [(.t 63), (.t 64)], none, [], false⟩,
   ⟨(some 62), .mov (.t 65), none, [], false⟩,
   ⟨(some 66), .ext (.t 62) 0, none, [], false⟩,
   ⟨(some 67), .ext (.t 62) 1, none, [], false⟩,
   ⟨(some 7), .mov (.t 66), none, [], false⟩,
   ⟨(some 8), .mov (.t 67), none, [], false⟩] [7, 8] false)
 (.seq
 (.region [
   ⟨(some 69), .mov (.t 1), none, [], false⟩,
   ⟨(some 70), .mov (.t 0), none, [], false⟩,
   ⟨(some 71), .call (.c (.fn n_format_Join [] [])) [(.t 69), (.t 70)], none, [], false⟩,
   ⟨(some 68), .mov (.t 71), none, [], false⟩,
   ⟨(some 72), .ext (.t 68) 0, none, [], false⟩,
   ⟨(some 73), .ext (.t 68) 1, none, [], false⟩,
   ⟨(some 9), .mov (.t 72), none, [], false⟩,
   ⟨(some 10), .mov (.t 73), none, [], false⟩] [9, 10] false)
 (.seq
 (.seq
 (.region [
   ⟨(some 74), .mov (.t 8), none, [], false⟩,
   ⟨(some 75), .bin .neq .val (.t 74) (.c (.int .i64 0)), none, [], false⟩,
   ⟨(some 76), .mov (.t 75), none, [], false⟩,
   ⟨(some 77), .mov (.t 10), (some (76, false)), [], false⟩,
   ⟨(some 78), .bin .neq .val (.t 77) (.c (.int .i64 0)), (some (76, false)), [], false⟩,
   ⟨(some 79), .pick (.t 76) (.c (.bool true)) (.t 78), none, [], false⟩,
   ⟨(some 80), .mov (.t 79), none, [], false⟩,
   ⟨(some 81), .mov (.t 7), (some (80, false)), [], false⟩,
   ⟨(some 82), .mov (.t 9), (some (80, false)), [], false⟩,
   ⟨(some 83), .call (.c (.fn n_chiasmusref01_Equal [] [])) [(.t 81), (.t 82)], (some (80, false)), [], false⟩,
   ⟨(some 84), .un .not (.t 83), (some (80, false)), [], false⟩,
   ⟨(some 85), .pick (.t 80) (.c (.bool true)) (.t 84), none, [], false⟩,
   ⟨(some 86), .mov (.t 85), none, [], false⟩,
   ⟨(some 87), .mov (.t 0), (some (86, false)), [], false⟩,
   ⟨(some 88), .mov (.t 7), (some (86, false)), [], false⟩,
   ⟨(some 89), .call (.c (.fn n_chiasmuslaw22_inside [] [])) [(.t 87), (.t 88)], (some (86, false)), [], false⟩,
   ⟨(some 90), .un .not (.t 89), (some (86, false)), [], false⟩,
   ⟨(some 91), .pick (.t 86) (.c (.bool true)) (.t 90), none, [], false⟩,
   ⟨(some 92), .mov (.t 91), none, [], false⟩,
   ⟨(some 93), .mov (.t 1), (some (92, false)), [], false⟩,
   ⟨(some 94), .mov (.t 7), (some (92, false)), [], false⟩,
   ⟨(some 95), .call (.c (.fn n_chiasmuslaw22_inside [] [])) [(.t 93), (.t 94)], (some (92, false)), [], false⟩,
   ⟨(some 96), .un .not (.t 95), (some (92, false)), [], false⟩,
   ⟨(some 97), .pick (.t 92) (.c (.bool true)) (.t 96), none, [], false⟩] [97] false)
 (.cond (.t 97)
  (.seq
  (.region [
    ⟨(some 6), .mov (.c (.bool false)), none, [], false⟩] [6] false)
  .ret)
  .skip))
 (.seq
 (.region [
   ⟨(some 99), .mov (.t 0), none, [], false⟩,
   ⟨(some 100), .call (.c (.fn n_format_Cut [] [])) [(.t 99)], none, [], false⟩,
   ⟨(some 98), .mov (.t 100), none, [], false⟩,
   ⟨(some 101), .ext (.t 98) 0, none, [], false⟩,
   ⟨(some 102), .ext (.t 98) 1, none, [], false⟩,
   ⟨(some 11), .mov (.t 101), none, [], false⟩,
   ⟨(some 8), .mov (.t 102), none, [], false⟩] [11, 8] false)
 (.seq
 (.region [
   ⟨(some 104), .mov (.t 11), none, [], false⟩,
   ⟨(some 105), .call (.c (.fn n_format_Cut [] [])) [(.t 104)], none, [], false⟩,
   ⟨(some 103), .mov (.t 105), none, [], false⟩,
   ⟨(some 106), .ext (.t 103) 0, none, [], false⟩,
   ⟨(some 107), .ext (.t 103) 1, none, [], false⟩,
   ⟨(some 12), .mov (.t 106), none, [], false⟩,
   ⟨(some 10), .mov (.t 107), none, [], false⟩] [12, 10] false)
 (.seq
 (.region [
   ⟨(some 108), .mov (.t 8), none, [], false⟩,
   ⟨(some 109), .bin .eql .val (.t 108) (.c (.int .i64 0)), none, [], false⟩,
   ⟨(some 110), .mov (.t 109), none, [], false⟩,
   ⟨(some 111), .mov (.t 10), (some (110, true)), [], false⟩,
   ⟨(some 112), .bin .eql .val (.t 111) (.c (.int .i64 0)), (some (110, true)), [], false⟩,
   ⟨(some 113), .pick (.t 110) (.t 112) (.c (.bool false)), none, [], false⟩,
   ⟨(some 114), .mov (.t 113), none, [], false⟩,
   ⟨(some 115), .mov (.t 0), (some (114, true)), [], false⟩,
   ⟨(some 116), .mov (.t 11), (some (114, true)), [], false⟩,
   ⟨(some 117), .call (.c (.fn n_chiasmuslaw22_inside [] [])) [(.t 115), (.t 116)], (some (114, true)), [], false⟩,
   ⟨(some 118), .pick (.t 114) (.t 117) (.c (.bool false)), none, [], false⟩,
   ⟨(some 119), .mov (.t 118), none, [], false⟩,
   ⟨(some 120), .mov (.t 11), (some (119, true)), [], false⟩,
   ⟨(some 121), .mov (.t 12), (some (119, true)), [], false⟩,
   ⟨(some 122), .call (.c (.fn n_chiasmusref01_Equal [] [])) [(.t 120), (.t 121)], (some (119, true)), [], false⟩,
   ⟨(some 123), .pick (.t 119) (.t 122) (.c (.bool false)), none, [], false⟩,
   ⟨(some 124), .mov (.t 123), none, [], false⟩,
   ⟨(some 125), .call (.c (.fn n_chiasmuslaw22_awake [] [])) [], (some (124, true)), [], false⟩,
   ⟨(some 126), .pick (.t 124) (.t 125) (.c (.bool false)), none, [], false⟩,
   ⟨(some 6), .mov (.t 126), none, [], false⟩] [6] false)
 .ret)))))))))
def F_chiasmuslaw22_FormatOrder : IFn := ⟨3, b_chiasmuslaw22_FormatOrder, [.t 6], .pure⟩
def v_chiasmuslaw22_FormatOrder : List Nat := [0, 1, 2, 6, 7, 8, 9, 10, 11, 12, 40, 61, 97]

/- chiasmus/chiasmuslaw22.FormatValues -/
def b_chiasmuslaw22_FormatValues : ICode :=
 (.seq
 (.region [
   ⟨(some 6), .mov (.c (.bool false)), none, [], false⟩] [6] false)
 (.seq
 (.seq
 (.region [
   ⟨(some 15), .mov (.t 0), none, [], false⟩,
   ⟨(some 16), .call (.c (.fn n_chiasmuslaw09_Small [] [])) [(.t 15), (.c (.int .i64 60))], none, [], false⟩,
   ⟨(some 17), .un .not (.t 16), none, [], false⟩,
   ⟨(some 18), .mov (.t 17), none, [], false⟩,
   ⟨(some 19), .mov (.t 1), (some (18, false)), [], false⟩,
   ⟨(some 20), .call (.c (.fn n_chiasmuslaw09_Small [] [])) [(.t 19), (.c (.int .i64 60))], (some (18, false)), [], false⟩,
   ⟨(some 21), .un .not (.t 20), (some (18, false)), [], false⟩,
   ⟨(some 22), .pick (.t 18) (.c (.bool true)) (.t 21), none, [], false⟩,
   ⟨(some 23), .mov (.t 22), none, [], false⟩,
   ⟨(some 24), .mov (.t 2), (some (23, false)), [], false⟩,
   ⟨(some 25), .call (.c (.fn n_chiasmuslaw09_Small [] [])) [(.t 24), (.c (.int .i64 60))], (some (23, false)), [], false⟩,
   ⟨(some 26), .un .not (.t 25), (some (23, false)), [], false⟩,
   ⟨(some 27), .pick (.t 23) (.c (.bool true)) (.t 26), none, [], false⟩,
   ⟨(some 28), .mov (.t 27), none, [], false⟩,
   ⟨(some 29), .mov (.t 0), (some (28, false)), [], false⟩,
   ⟨(some 30), .call (.c (.fn n_format_Check [] [])) [(.t 29)], (some (28, false)), [], false⟩,
   ⟨(some 31), .bin .neq .val (.t 30) (.c (.int .i64 0)), (some (28, false)), [], false⟩,
   ⟨(some 32), .pick (.t 28) (.c (.bool true)) (.t 31), none, [], false⟩,
   ⟨(some 33), .mov (.t 32), none, [], false⟩,
   ⟨(some 34), .mov (.t 1), (some (33, false)), [], false⟩,
   ⟨(some 35), .call (.c (.fn n_format_Check [] [])) [(.t 34)], (some (33, false)), [], false⟩,
   ⟨(some 36), .bin .neq .val (.t 35) (.c (.int .i64 0)), (some (33, false)), [], false⟩,
   ⟨(some 37), .pick (.t 33) (.c (.bool true)) (.t 36), none, [], false⟩,
   ⟨(some 38), .mov (.t 37), none, [], false⟩,
   ⟨(some 39), .mov (.t 2), (some (38, false)), [], false⟩,
   ⟨(some 40), .call (.c (.fn n_term_Value [] [])) [(.t 39)], (some (38, false)), [], false⟩,
   ⟨(some 41), .bin .neq .val (.t 40) (.c (.int .i64 0)), (some (38, false)), [], false⟩,
   ⟨(some 42), .pick (.t 38) (.c (.bool true)) (.t 41), none, [], false⟩] [42] false)
 (.cond (.t 42)
  (.seq
  (.region [
    ⟨(some 43), .call (.c (.fn n_chiasmuslaw22_awake [] [])) [], none, [], false⟩,
    ⟨(some 6), .mov (.t 43), none, [], false⟩] [6] false)
  .ret)
  .skip))
 (.seq
 (.region [
   ⟨(some 45), .mov (.t 2), none, [], false⟩,
   ⟨(some 46), .call (.c (.fn n_format_Of [] [])) [(.t 45), (.c (.sl .nil 5 []))], none, [], false⟩,
   ⟨(some 44), .mov (.t 46), none, [], false⟩,
   ⟨(some 47), .ext (.t 44) 0, none, [], false⟩,
   ⟨(some 48), .ext (.t 44) 1, none, [], false⟩,
   ⟨(some 49), .ext (.t 44) 2, none, [], false⟩,
   ⟨(some 7), .mov (.t 47), none, [], false⟩,
   ⟨(some 8), .mov (.t 48), none, [], false⟩,
   ⟨(some 9), .mov (.t 49), none, [], false⟩] [7, 8, 9] false)
 (.seq
 (.seq
 (.region [
   ⟨(some 50), .mov (.t 9), none, [], false⟩,
   ⟨(some 51), .bin .neq .val (.t 50) (.c (.int .i64 0)), none, [], false⟩,
   ⟨(some 52), .mov (.t 51), none, [], false⟩,
   ⟨(some 53), .mov (.t 8), (some (52, false)), [], false⟩,
   ⟨(some 54), .un .not (.t 53), (some (52, false)), [], false⟩,
   ⟨(some 55), .pick (.t 52) (.c (.bool true)) (.t 54), none, [], false⟩] [55] false)
 (.cond (.t 55)
  (.seq
  (.region [
    ⟨(some 6), .mov (.c (.bool false)), none, [], false⟩] [6] false)
  .ret)
  .skip))
 (.seq
 (.region [
   ⟨(some 57), .mov (.t 7), none, [], false⟩,
   ⟨(some 58), .mov (.t 2), none, [], false⟩,
   ⟨(some 59), .call (.c (.fn n_format_Has [] [])) [(.t 57), (.t 58)], none, [], false⟩,
   ⟨(some 56), .mov (.t 59), none, [], false⟩,
   ⟨(some 60), .ext (.t 56) 0, none, [], false⟩,
   ⟨(some 61), .ext (.t 56) 1, none, [], false⟩,
   ⟨(some 10), .mov (.t 60), none, [], false⟩,
   ⟨(some 9), .mov (.t 61), none, [], false⟩] [10, 9] false)
 (.seq
 (.region [
   ⟨(some 63), .mov (.t 0), none, [], false⟩,
   ⟨(some 64), .mov (.t 2), none, [], false⟩,
   ⟨(some 65), .call (.c (.fn n_format_Has [] [])) [(.t 63), (.t 64)], none, [], false⟩,
   ⟨(some 62), .mov (.t 65), none, [], false⟩,
   ⟨(some 66), .ext (.t 62) 0, none, [], false⟩,
   ⟨(some 67), .ext (.t 62) 1, none, [], false⟩,
   ⟨(some 11), .mov (.t 66), none, [], false⟩,
   ⟨(some 12), .mov (.t 67), none, [], false⟩] [11, 12] false)
 (.seq
 (.region [
   ⟨(some 69), .mov (.t 1), none, [], false⟩,
   ⟨(some 70), .mov (.t 2), none, [], false⟩,
   ⟨(some 71), .call (.c (.fn n_format_Has [] [])) [(.t 69), (.t 70)], none, [], false⟩,
   ⟨(some 68), .mov (.t 71), none, [], false⟩,
   ⟨(some 72), .ext (.t 68) 0, none, [], false⟩,
   ⟨(some 73), .ext (.t 68) 1, none, [], false⟩,
   ⟨(some 13), .mov (.t 72), none, [], false⟩,
   ⟨(some 14), .mov (.t 73), none, [], false⟩] [13, 14] false)
 (.seq
 (.seq
 (.region [
   ⟨(some 74), .mov (.t 9), none, [], false⟩,
   ⟨(some 75), .bin .neq .val (.t 74) (.c (.int .i64 0)), none, [], false⟩,
   ⟨(some 76), .mov (.t 75), none, [], false⟩,
   ⟨(some 77), .mov (.t 12), (some (76, false)), [], false⟩,
   ⟨(some 78), .bin .neq .val (.t 77) (.c (.int .i64 0)), (some (76, false)), [], false⟩,
   ⟨(some 79), .pick (.t 76) (.c (.bool true)) (.t 78), none, [], false⟩,
   ⟨(some 80), .mov (.t 79), none, [], false⟩,
   ⟨(some 81), .mov (.t 14), (some (80, false)), [], false⟩,
   ⟨(some 82), .bin .neq .val (.t 81) (.c (.int .i64 0)), (some (80, false)), [], false⟩,
   ⟨(some 83), .pick (.t 80) (.c (.bool true)) (.t 82), none, [], false⟩,
   ⟨(some 84), .mov (.t 83), none, [], false⟩,
   ⟨(some 85), .mov (.t 10), (some (84, false)), [], false⟩,
   ⟨(some 86), .un .not (.t 85), (some (84, false)), [], false⟩,
   ⟨(some 87), .pick (.t 84) (.c (.bool true)) (.t 86), none, [], false⟩,
   ⟨(some 88), .mov (.t 87), none, [], false⟩,
   ⟨(some 89), .mov (.t 11), (some (88, false)), [], false⟩,
   ⟨(some 90), .mov (.t 7), (some (88, false)), [], false⟩,
   ⟨(some 91), .mov (.t 0), (some (88, false)), [], false⟩,
   ⟨(some 92), .call (.c (.fn n_chiasmuslaw22_inside [] [])) [(.t 90), (.t 91)], (some (88, false)), [], false⟩,
   ⟨(some 93), .bin .neq .bool (.t 89) (.t 92), (some (88, false)), [], false⟩,
   ⟨(some 94), .pick (.t 88) (.c (.bool true)) (.t 93), none, [], false⟩,
   ⟨(some 95), .mov (.t 94), none, [], false⟩,
   ⟨(some 96), .mov (.t 11), (some (95, false)), [], false⟩,
   ⟨(some 97), .mov (.t 96), (some (95, false)), [], false⟩,
   ⟨(some 98), .mov (.t 0), (some (97, true)), [], false⟩,
   ⟨(some 99), .mov (.t 1), (some (97, true)), [], false⟩,
   ⟨(some 100), .call (.c (.fn n_chiasmuslaw22_inside [] [])) [(.t 98), (.t 99)], (some (97, true)), [], false⟩,
   ⟨(some 101), .pick (.t 97) (.t 100) (.c (.bool false)), (some (95, false)), [], false⟩,
   ⟨(some 102), .mov (.t 101), (some (95, false)), [], false⟩,
   ⟨(some 103), .mov (.t 13), (some (102, true)), [], false⟩,
   ⟨(some 104), .un .not (.t 103), (some (102, true)), [], false⟩,
   ⟨(some 105), .pick (.t 102) (.t 104) (.c (.bool false)), (some (95, false)), [], false⟩,
   ⟨(some 106), .pick (.t 95) (.c (.bool true)) (.t 105), none, [], false⟩] [106] false)
 (.cond (.t 106)
  (.seq
  (.region [
    ⟨(some 6), .mov (.c (.bool false)), none, [], false⟩] [6] false)
  .ret)
  .skip))
 (.seq
 (.region [
   ⟨(some 107), .call (.c (.fn n_chiasmuslaw22_awake [] [])) [], none, [], false⟩,
   ⟨(some 6), .mov (.t 107), none, [], false⟩] [6] false)
 .ret)))))))))
def F_chiasmuslaw22_FormatValues : IFn := ⟨3, b_chiasmuslaw22_FormatValues, [.t 6], .pure⟩
def v_chiasmuslaw22_FormatValues : List Nat := [0, 1, 2, 6, 7, 8, 9, 10, 11, 12, 13, 14, 42, 55, 106]

/- chiasmus/chiasmuslaw09.Small -/
def b_chiasmuslaw09_Small : ICode :=
 (.seq
 (.region [
   ⟨(some 4), .mov (.c (.bool false)), none, [], false⟩] [4] false)
 (.seq
 (.region [
   ⟨(some 5), .mov (.t 0), none, [], false⟩,
   ⟨(some 6), .mov (.t 1), none, [], false⟩,
   ⟨(some 7), .call (.c (.fn n_chiasmuslaw09_nodes [] [])) [(.t 5), (.t 6), (.c (.int .i64 0))], none, [], false⟩,
   ⟨(some 8), .mov (.t 1), none, [], false⟩,
   ⟨(some 9), .bin .leq .val (.t 7) (.t 8), none, [], false⟩,
   ⟨(some 10), .mov (.t 9), none, [], false⟩,
   ⟨(some 11), .mov (.t 0), (some (10, true)), [], false⟩,
   ⟨(some 12), .call (.c (.fn n_chiasmuslaw09_short [] [])) [(.t 11)], (some (10, true)), [], false⟩,
   ⟨(some 13), .pick (.t 10) (.t 12) (.c (.bool false)), none, [], false⟩,
   ⟨(some 4), .mov (.t 13), none, [], false⟩] [4] false)
 .ret))
def F_chiasmuslaw09_Small : IFn := ⟨2, b_chiasmuslaw09_Small, [.t 4], .pure⟩
def v_chiasmuslaw09_Small : List Nat := [0, 1, 4]

/- chiasmus/format.Check -/
def b_format_Check : ICode :=
 (.seq
 (.region [
   ⟨(some 2), .mov (.c (.int .i64 0)), none, [], false⟩] [2] false)
 (.seq
 (.seq
 (.region [
   ⟨(some 5), .mov (.t 0), none, [], false⟩,
   ⟨(some 6), .call (.c (.fn n_term_Pattern [] [])) [(.t 5)], none, [], false⟩,
   ⟨(some 3), .mov (.t 6), none, [], false⟩] [3] false)
 (.seq
 (.region [
   ⟨(some 7), .mov (.t 3), none, [], false⟩,
   ⟨(some 8), .bin .neq .val (.t 7) (.c (.int .i64 0)), none, [], false⟩] [8] false)
 (.cond (.t 8)
  (.seq
  (.region [
    ⟨(some 9), .mov (.t 3), none, [], false⟩,
    ⟨(some 2), .mov (.t 9), none, [], false⟩] [2] false)
  .ret)
  .skip)))
 (.seq
 (.region [
   ⟨(some 4), .alloc [.nilf], none, [], false⟩] [4] false)
 (.seq
 (.region [
   ⟨(some 10), .mkfn n_format_Check_1 [] [(.t 4)], none, [], false⟩,
   ⟨none, .store 1 (.t 4) (.t 10), none, [], false⟩] [] false)
 (.seq
 (.seq
 (.region [
   ⟨(some 11), .load false 1 (.t 4), none, [], false⟩,
   ⟨(some 12), .mov (.t 0), none, [], false⟩,
   ⟨(some 13), .call (.t 11) [(.t 12)], none, [], false⟩,
   ⟨(some 14), .un .not (.t 13), none, [], false⟩,
   ⟨(some 15), .mov (.t 14), none, [], false⟩,
   ⟨(some 16), .mov (.t 0), (some (15, false)), [], false⟩,
   ⟨(some 17), .mov (.t 0), (some (15, false)), [], false⟩,
   ⟨(some 18), .call (.c (.fn n_format_named [] [])) [(.t 17)], (some (15, false)), [], false⟩,
   ⟨(some 19), .call (.c (.fn n_term_Equal [] [])) [(.t 16), (.t 18)], (some (15, false)), [], false⟩,
   ⟨(some 20), .un .not (.t 19), (some (15, false)), [], false⟩,
   ⟨(some 21), .pick (.t 15) (.c (.bool true)) (.t 20), none, [], false⟩] [21] false)
 (.cond (.t 21)
  (.seq
  (.region [
    ⟨(some 2), .mov (.c (.int .i64 240)), none, [], false⟩] [2] false)
  .ret)
  .skip))
 (.seq
 (.region [
   ⟨(some 2), .mov (.c (.int .i64 0)), none, [], false⟩] [2] false)
 .ret))))))
def F_format_Check : IFn := ⟨1, b_format_Check, [.t 2], .pure⟩
def v_format_Check : List Nat := [0, 2, 3, 4, 8, 21]

/- chiasmus/chiasmuslaw22.awake -/
def b_chiasmuslaw22_awake : ICode :=
 (.seq
 (.region [
   ⟨(some 0), .mov (.c (.bool false)), none, [], false⟩] [0] false)
 (.seq
 (.region [
   ⟨(some 5), .build [.int .i64 0, .str [], .sl .nil 3 []] [(0, 1, (.c (.int .i64 5))), (1, 1, (.c (.str [49])))], none, [], false⟩,
   ⟨(some 1), .alloc [.int .i64 0, .str [], .sl .nil 3 []], none, [], false⟩,
   ⟨none, .store 3 (.t 1) (.t 5), none, [], false⟩] [1] false)
 (.seq
 (.region [
   ⟨(some 6), .build [.int .i64 0, .str [], .sl .nil 3 []] [(0, 1, (.c (.int .i64 7))), (1, 1, (.c (.str [50])))], none, [], false⟩,
   ⟨(some 7), .bslice 3 [.int .i64 0, .str [], .sl .nil 3 []] 1 [(0, (.t 6))], none, [], false⟩,
   ⟨(some 8), .build [.int .i64 0, .str [], .sl .nil 3 []] [(0, 1, (.c (.int .i64 4))), (2, 1, (.t 7))], none, [], false⟩,
   ⟨(some 2), .alloc [.int .i64 0, .str [], .sl .nil 3 []], none, [], false⟩,
   ⟨none, .store 3 (.t 2) (.t 8), none, [], false⟩] [2] false)
 (.seq
 (.region [
   ⟨(some 10), .load true 3 (.t 1), none, [], false⟩,
   ⟨(some 11), .load true 3 (.t 2), none, [], false⟩,
   ⟨(some 12), .bslice 3 [.int .i64 0, .str [], .sl .nil 3 []] 2 [(0, (.t 10)), (1, (.t 11))], none, [], false⟩,
   ⟨(some 13), .load true 3 (.t 1), none, [], false⟩,
   ⟨(some 14), .bslice 3 [.int .i64 0, .str [], .sl .nil 3 []] 1 [(0, (.t 13))], none, [], false⟩,
   ⟨(some 15), .call (.c (.fn n_format_Join [] [])) [(.t 12), (.t 14)], none, [], false⟩,
   ⟨(some 9), .mov (.t 15), none, [], false⟩,
   ⟨(some 16), .ext (.t 9) 0, none, [], false⟩,
   ⟨(some 17), .ext (.t 9) 1, none, [], false⟩,
   ⟨(some 3), .mov (.t 16), none, [], false⟩,
   ⟨(some 4), .mov (.t 17), none, [], false⟩] [3, 4] false)
 (.seq
 (.region [
   ⟨(some 18), .mov (.t 4), none, [], false⟩,
   ⟨(some 19), .bin .eql .val (.t 18) (.c (.int .i64 0)), none, [], false⟩,
   ⟨(some 20), .mov (.t 19), none, [], false⟩,
   ⟨(some 21), .mov (.t 3), (some (20, true)), [], false⟩,
   ⟨(some 22), .len .slice (.t 21), (some (20, true)), [], false⟩,
   ⟨(some 23), .bin .eql .val (.t 22) (.c (.int .i64 2)), (some (20, true)), [], false⟩,
   ⟨(some 24), .pick (.t 20) (.t 23) (.c (.bool false)), none, [], false⟩,
   ⟨(some 25), .mov (.t 24), none, [], false⟩,
   ⟨(some 26), .mov (.t 3), (some (25, true)), [], false⟩,
   ⟨(some 27), .iaddr 3 (.t 26) (.c (.int .i64 0)), (some (25, true)), [], false⟩,
   ⟨(some 28), .faddr 0 (.t 27), (some (25, true)), [], false⟩,
   ⟨(some 29), .load false 1 (.t 28), (some (25, true)), [], false⟩,
   ⟨(some 30), .bin .eql .val (.t 29) (.c (.int .i64 5)), (some (25, true)), [], false⟩,
   ⟨(some 31), .pick (.t 25) (.t 30) (.c (.bool false)), none, [], false⟩,
   ⟨(some 32), .mov (.t 31), none, [], false⟩,
   ⟨(some 33), .mov (.t 3), (some (32, true)), [], false⟩,
   ⟨(some 34), .iaddr 3 (.t 33) (.c (.int .i64 1)), (some (32, true)), [], false⟩,
   ⟨(some 35), .faddr 0 (.t 34), (some (32, true)), [], false⟩,
   ⟨(some 36), .load false 1 (.t 35), (some (32, true)), [], false⟩,
   ⟨(some 37), .bin .eql .val (.t 36) (.c (.int .i64 7)), (some (32, true)), [], false⟩,
   ⟨(some 38), .pick (.t 32) (.t 37) (.c (.bool false)), none, [], false⟩,
   ⟨(some 39), .mov (.t 38), none, [], false⟩,
   ⟨(some 40), .mov (.t 3), (some (39, true)), [], false⟩,
   ⟨(some 41), .iaddr 3 (.t 40) (.c (.int .i64 1)), (some (39, true)), [], false⟩,
   ⟨(some 42), .faddr 1 (.t 41), (some (39, true)), [], false⟩,
   ⟨(some 43), .load false 1 (.t 42), (some (39, true)), [], false⟩,
   ⟨(some 44), .bin .eql .val (.t 43) (.c (.str [50])), (some (39, true)), [], false⟩,
   ⟨(some 45), .pick (.t 39) (.t 44) (.c (.bool false)), none, [], false⟩,
   ⟨(some 0), .mov (.t 45), none, [], false⟩] [0] false)
 .ret)))))
def F_chiasmuslaw22_awake : IFn := ⟨0, b_chiasmuslaw22_awake, [.t 0], .pure⟩
def v_chiasmuslaw22_awake : List Nat := [0, 1, 2, 3, 4]

/- chiasmus/chiasmuslaw22.inside -/
def b_chiasmuslaw22_inside : ICode :=
 (.seq
 (.region [
   ⟨(some 4), .mov (.c (.bool false)), none, [], false⟩] [4] false)
 (.seq
 (.region [
   ⟨(some 8), .mov (.t 0), none, [], false⟩,
   ⟨(some 9), .mov (.t 1), none, [], false⟩,
   ⟨(some 10), .call (.c (.fn n_format_Within [] [])) [(.t 8), (.t 9)], none, [], false⟩,
   ⟨(some 7), .mov (.t 10), none, [], false⟩,
   ⟨(some 11), .ext (.t 7) 0, none, [], false⟩,
   ⟨(some 12), .ext (.t 7) 1, none, [], false⟩,
   ⟨(some 5), .mov (.t 11), none, [], false⟩,
   ⟨(some 6), .mov (.t 12), none, [], false⟩] [5, 6] false)
 (.seq
 (.region [
   ⟨(some 13), .mov (.t 5), none, [], false⟩,
   ⟨(some 14), .mov (.t 13), none, [], false⟩,
   ⟨(some 15), .mov (.t 6), (some (14, true)), [], false⟩,
   ⟨(some 16), .bin .eql .val (.t 15) (.c (.int .i64 0)), (some (14, true)), [], false⟩,
   ⟨(some 17), .pick (.t 14) (.t 16) (.c (.bool false)), none, [], false⟩,
   ⟨(some 4), .mov (.t 17), none, [], false⟩] [4] false)
 .ret)))
def F_chiasmuslaw22_inside : IFn := ⟨2, b_chiasmuslaw22_inside, [.t 4], .pure⟩
def v_chiasmuslaw22_inside : List Nat := [0, 1, 4, 5, 6]

/- chiasmus/format.Join -/
def b_format_Join : ICode :=
 (.seq
 (.region [
   ⟨(some 4), .mov (.c (.sl .nil 3 [])), none, [], false⟩,
   ⟨(some 5), .mov (.c (.int .i64 0)), none, [], false⟩] [4, 5] false)
 (.seq
 (.seq
 (.region [
   ⟨(some 7), .mov (.t 0), none, [], false⟩,
   ⟨(some 8), .mov (.t 1), none, [], false⟩,
   ⟨(some 9), .call (.c (.fn n_format_pair [] [])) [(.t 7), (.t 8)], none, [], false⟩,
   ⟨(some 6), .mov (.t 9), none, [], false⟩] [6] false)
 (.seq
 (.region [
   ⟨(some 10), .mov (.t 6), none, [], false⟩,
   ⟨(some 11), .bin .neq .val (.t 10) (.c (.int .i64 0)), none, [], false⟩] [11] false)
 (.cond (.t 11)
  (.seq
  (.region [
    ⟨(some 12), .mov (.t 6), none, [], false⟩,
    ⟨(some 4), .mov (.c (.sl .nil 3 [])), none, [], false⟩,
    ⟨(some 5), .mov (.t 12), none, [], false⟩] [4, 5] false)
  .ret)
  .skip)))
 (.seq
 (.region [
   ⟨(some 13), .mov (.t 0), none, [], false⟩,
   ⟨(some 14), .mov (.t 1), none, [], false⟩,
   ⟨(some 15), .call (.c (.fn n_format_join [] [])) [(.t 13), (.t 14)], none, [], false⟩,
   ⟨(some 16), .call (.c (.fn n_format_named [] [])) [(.t 15)], none, [], false⟩,
   ⟨(some 4), .mov (.t 16), none, [], false⟩,
   ⟨(some 5), .mov (.c (.int .i64 0)), none, [], false⟩] [4, 5] false)
 .ret)))
def F_format_Join : IFn := ⟨2, b_format_Join, [.t 4, .t 5], .pure⟩
def v_format_Join : List Nat := [0, 1, 4, 5, 6, 11]

/- chiasmus/chiasmusref01.Equal -/
def b_chiasmusref01_Equal : ICode :=
 (.seq
 (.region [
   ⟨(some 4), .mov (.c (.bool false)), none, [], false⟩] [4] false)
 (.seq
 (.region [
   ⟨(some 5), .mov (.t 0), none, [], false⟩,
   ⟨(some 6), .mov (.t 1), none, [], false⟩,
   ⟨(some 7), .call (.c (.fn n_chiasmusref01_Compare [] [])) [(.t 5), (.t 6)], none, [], false⟩,
   ⟨(some 8), .bin .eql .val (.t 7) (.c (.int .i64 0)), none, [], false⟩,
   ⟨(some 4), .mov (.t 8), none, [], false⟩] [4] false)
 .ret))
def F_chiasmusref01_Equal : IFn := ⟨2, b_chiasmusref01_Equal, [.t 4], .pure⟩
def v_chiasmusref01_Equal : List Nat := [0, 1, 4]

/- chiasmus/format.Cut -/
def b_format_Cut : ICode :=
 (.seq
 (.region [
   ⟨(some 2), .mov (.c (.sl .nil 3 [])), none, [], false⟩,
   ⟨(some 3), .mov (.c (.int .i64 0)), none, [], false⟩] [2, 3] false)
 (.seq
 (.seq
 (.region [
   ⟨(some 5), .mov (.t 0), none, [], false⟩,
   ⟨(some 6), .call (.c (.fn n_format_Check [] [])) [(.t 5)], none, [], false⟩,
   ⟨(some 4), .mov (.t 6), none, [], false⟩] [4] false)
 (.seq
 (.region [
   ⟨(some 7), .mov (.t 4), none, [], false⟩,
   ⟨(some 8), .bin .neq .val (.t 7) (.c (.int .i64 0)), none, [], false⟩] [8] false)
 (.cond (.t 8)
  (.seq
  (.region [
    ⟨(some 9), .mov (.t 4), none, [], false⟩,
    ⟨(some 2), .mov (.c (.sl .nil 3 [])), none, [], false⟩,
    ⟨(some 3), .mov (.t 9), none, [], false⟩] [2, 3] false)
  .ret)
  .skip)))
 (.seq
 (.region [
   ⟨(some 10), .mov (.t 0), none, [], false⟩,
   ⟨(some 11), .call (.c (.fn n_format_cut [] [])) [(.t 10), (.c (.int .i64 0))], none, [], false⟩,
   ⟨(some 12), .call (.c (.fn n_format_named [] [])) [(.t 11)], none, [], false⟩,
   ⟨(some 2), .mov (.t 12), none, [], false⟩,
   ⟨(some 3), .mov (.c (.int .i64 0)), none, [], false⟩] [2, 3] false)
 .ret)))
def F_format_Cut : IFn := ⟨1, b_format_Cut, [.t 2, .t 3], .pure⟩
def v_format_Cut : List Nat := [0, 2, 3, 4, 8]

/- chiasmus/term.Value -/
def b_term_Value : ICode :=
 (.seq
 (.region [
   ⟨(some 2), .mov (.c (.int .i64 0)), none, [], false⟩] [2] false)
 (.seq
 (.region [
   ⟨(some 3), .mov (.t 0), none, [], false⟩,
   ⟨(some 4), .call (.c (.fn n_term_check [] [])) [(.t 3), (.c (.int .i64 4))], none, [], false⟩,
   ⟨(some 2), .mov (.t 4), none, [], false⟩] [2] false)
 .ret))
def F_term_Value : IFn := ⟨1, b_term_Value, [.t 2], .pure⟩
def v_term_Value : List Nat := [0, 2]

/- chiasmus/format.Of -/
def l0_format_Of : ICode :=
 (.seq
 (.region [
   ⟨(some 33), .bin .lss .val (.t 32) (.t 31), none, [], false⟩] [33] false)
 (.seq
 (.cond (.t 33)
  .skip
  (.exit 2))
 (.seq
 (.block 3
  (.seq
  (.region [
    ⟨(some 34), .iaddr 1 (.t 30) (.t 32), none, [], false⟩,
    ⟨(some 35), .load false 1 (.t 34), none, [], false⟩,
    ⟨(some 11), .mov (.t 35), none, [], false⟩] [11] false)
  (.seq
  (.region [
    ⟨(some 36), .mov (.t 11), none, [], false⟩,
    ⟨(some 37), .call (.c (.fn n_format_Check [] [])) [(.t 36)], none, [], false⟩,
    ⟨(some 12), .mov (.t 37), none, [], false⟩] [12] false)
  (.seq
  (.region [
    ⟨(some 38), .mov (.t 12), none, [], false⟩,
    ⟨(some 39), .bin .neq .val (.t 38) (.c (.int .i64 0)), none, [], false⟩] [39] false)
  (.cond (.t 39)
   (.seq
   (.region [
     ⟨(some 40), .mov (.t 12), none, [], false⟩,
     ⟨(some 4), .mov (.c (.sl .nil 3 [])), none, [], false⟩,
     ⟨(some 5), .mov (.c (.bool false)), none, [], false⟩,
     ⟨(some 6), .mov (.t 40), none, [], false⟩] [4, 5, 6] false)
   .ret)
   .skip)))))
 (.region [
   ⟨(some 41), .bin .add .val (.t 32) (.c (.int .i64 1)), none, [], false⟩,
   ⟨(some 32), .mov (.t 41), none, [], false⟩] [32] false))))
def l1_format_Of : ICode :=
 (.seq
 (.region [
   ⟨(some 23), .bin .lss .val (.t 22) (.t 21), none, [], false⟩] [23] false)
 (.seq
 (.cond (.t 23)
  .skip
  (.exit 0))
 (.seq
 (.block 1
  (.seq
  (.region [
    ⟨(some 24), .iaddr 5 (.t 20) (.t 22), none, [], false⟩,
    ⟨(some 25), .load true 5 (.t 24), none, [], false⟩,
    ⟨(some 9), .alloc [.str [], .bool false, .bool false, .sl .nil 3 [], .sl .nil 3 []], none, [], false⟩,
    ⟨none, .store 5 (.t 9) (.t 25), none, [], false⟩] [9] false)
  (.seq
  (.region [
    ⟨(some 26), .faddr 3 (.t 9), none, [], false⟩,
    ⟨(some 27), .load false 1 (.t 26), none, [], false⟩,
    ⟨(some 28), .faddr 4 (.t 9), none, [], false⟩,
    ⟨(some 29), .load false 1 (.t 28), none, [], false⟩,
    ⟨(some 30), .bslice 1 [.sl .nil 3 []] 2 [(0, (.t 27)), (1, (.t 29))], none, [], false⟩,
    ⟨(some 31), .len .slice (.t 30), none, [], false⟩,
    ⟨(some 32), .mov (.c (.int .i64 0)), none, [], false⟩] [30, 31, 32] false)
  (.block 2
   (.loop [4, 5, 6, 7, 9, 11, 12, 13, 14, 18, 23, 33, 39, 51] l0_format_Of)))))
 (.region [
   ⟨(some 42), .bin .add .val (.t 22) (.c (.int .i64 1)), none, [], false⟩,
   ⟨(some 22), .mov (.t 42), none, [], false⟩] [22] false))))
def b_format_Of : ICode :=
 (.seq
 (.region [
   ⟨(some 4), .mov (.c (.sl .nil 3 [])), none, [], false⟩,
   ⟨(some 5), .mov (.c (.bool false)), none, [], false⟩,
   ⟨(some 6), .mov (.c (.int .i64 0)), none, [], false⟩] [4, 5, 6] false)
 (.seq
 (.seq
 (.region [
   ⟨(some 15), .mov (.t 0), none, [], false⟩,
   ⟨(some 16), .call (.c (.fn n_term_Result [] [])) [(.t 15)], none, [], false⟩,
   ⟨(some 7), .mov (.t 16), none, [], false⟩] [7] false)
 (.seq
 (.region [
   ⟨(some 17), .mov (.t 7), none, [], false⟩,
   ⟨(some 18), .bin .neq .val (.t 17) (.c (.int .i64 0)), none, [], false⟩] [18] false)
 (.cond (.t 18)
  (.seq
  (.region [
    ⟨(some 19), .mov (.t 7), none, [], false⟩,
    ⟨(some 4), .mov (.c (.sl .nil 3 [])), none, [], false⟩,
    ⟨(some 5), .mov (.c (.bool false)), none, [], false⟩,
    ⟨(some 6), .mov (.t 19), none, [], false⟩] [4, 5, 6] false)
  .ret)
  .skip)))
 (.seq
 (.seq
 (.region [
   ⟨(some 20), .mov (.t 1), none, [], false⟩,
   ⟨(some 21), .len .slice (.t 20), none, [], false⟩,
   ⟨(some 22), .mov (.c (.int .i64 0)), none, [], false⟩] [20, 21, 22] false)
 (.block 0
  (.loop [4, 5, 6, 7, 9, 11, 12, 13, 14, 18, 23, 30, 31, 32, 33, 39, 51] l1_format_Of)))
 (.seq
 (.region [
   ⟨(some 44), .mov (.t 0), none, [], false⟩,
   ⟨(some 45), .mov (.t 1), none, [], false⟩,
   ⟨(some 46), .call (.c (.fn n_format_table [] [])) [(.t 45)], none, [], false⟩,
   ⟨(some 47), .call (.c (.fn n_format_least [] [])) [(.t 44), (.t 46)], none, [], false⟩,
   ⟨(some 43), .mov (.t 47), none, [], false⟩,
   ⟨(some 48), .ext (.t 43) 0, none, [], false⟩,
   ⟨(some 49), .ext (.t 43) 1, none, [], false⟩,
   ⟨(some 13), .mov (.t 48), none, [], false⟩,
   ⟨(some 14), .mov (.t 49), none, [], false⟩] [13, 14] false)
 (.seq
 (.seq
 (.region [
   ⟨(some 50), .mov (.t 14), none, [], false⟩,
   ⟨(some 51), .un .not (.t 50), none, [], false⟩] [51] false)
 (.cond (.t 51)
  (.seq
  (.region [
    ⟨(some 4), .mov (.c (.sl .nil 3 [])), none, [], false⟩,
    ⟨(some 5), .mov (.c (.bool false)), none, [], false⟩,
    ⟨(some 6), .mov (.c (.int .i64 0)), none, [], false⟩] [4, 5, 6] false)
  .ret)
  .skip))
 (.seq
 (.region [
   ⟨(some 52), .mov (.t 13), none, [], false⟩,
   ⟨(some 53), .call (.c (.fn n_format_named [] [])) [(.t 52)], none, [], false⟩,
   ⟨(some 4), .mov (.t 53), none, [], false⟩,
   ⟨(some 5), .mov (.c (.bool true)), none, [], false⟩,
   ⟨(some 6), .mov (.c (.int .i64 0)), none, [], false⟩] [4, 5, 6] false)
 .ret))))))
def F_format_Of : IFn := ⟨2, b_format_Of, [.t 4, .t 5, .t 6], .pure⟩
def v_format_Of : List Nat := [0, 1, 4, 5, 6, 7, 9, 11, 12, 13, 14, 18, 20, 21, 22, 23, 30, 31, 32, 33, 39, 51]

/- chiasmus/format.Has -/
def b_format_Has : ICode :=
 (.seq
 (.region [
   ⟨(some 4), .mov (.c (.bool false)), none, [], false⟩,
   ⟨(some 5), .mov (.c (.int .i64 0)), none, [], false⟩] [4, 5] false)
 (.seq
 (.seq
 (.region [
   ⟨(some 10), .mov (.t 0), none, [], false⟩,
   ⟨(some 11), .call (.c (.fn n_format_Check [] [])) [(.t 10)], none, [], false⟩,
   ⟨(some 6), .mov (.t 11), none, [], false⟩] [6] false)
 (.seq
 (.region [
   ⟨(some 12), .mov (.t 6), none, [], false⟩,
   ⟨(some 13), .bin .neq .val (.t 12) (.c (.int .i64 0)), none, [], false⟩] [13] false)
 (.cond (.t 13)
  (.seq
  (.region [
    ⟨(some 14), .mov (.t 6), none, [], false⟩,
    ⟨(some 4), .mov (.c (.bool false)), none, [], false⟩,
    ⟨(some 5), .mov (.t 14), none, [], false⟩] [4, 5] false)
  .ret)
  .skip)))
 (.seq
 (.seq
 (.region [
   ⟨(some 15), .mov (.t 1), none, [], false⟩,
   ⟨(some 16), .call (.c (.fn n_term_Value [] [])) [(.t 15)], none, [], false⟩,
   ⟨(some 7), .mov (.t 16), none, [], false⟩] [7] false)
 (.seq
 (.region [
   ⟨(some 17), .mov (.t 7), none, [], false⟩,
   ⟨(some 18), .bin .neq .val (.t 17) (.c (.int .i64 0)), none, [], false⟩] [18] false)
 (.cond (.t 18)
  (.seq
  (.region [
    ⟨(some 19), .mov (.t 7), none, [], false⟩,
    ⟨(some 4), .mov (.c (.bool false)), none, [], false⟩,
    ⟨(some 5), .mov (.t 19), none, [], false⟩] [4, 5] false)
  .ret)
  .skip)))
 (.seq
 (.region [
   ⟨(some 21), .mov (.t 1), none, [], false⟩,
   ⟨(some 22), .call (.c (.fn n_format_least [] [])) [(.t 21), (.c (.map none))], none, [], false⟩,
   ⟨(some 20), .mov (.t 22), none, [], false⟩,
   ⟨(some 23), .ext (.t 20) 0, none, [], false⟩,
   ⟨(some 24), .ext (.t 20) 1, none, [], false⟩,
   ⟨(some 8), .mov (.t 23), none, [], false⟩,
   ⟨(some 9), .mov (.t 24), none, [], false⟩] [8] false)
 (.seq
 (.region [
   ⟨(some 25), .mov (.t 8), none, [], false⟩,
   ⟨(some 26), .mov (.t 0), none, [], false⟩,
   ⟨(some 27), .call (.c (.fn n_format_within [] [])) [(.t 25), (.t 26)], none, [], false⟩,
   ⟨(some 4), .mov (.t 27), none, [], false⟩,
   ⟨(some 5), .mov (.c (.int .i64 0)), none, [], false⟩] [4, 5] false)
 .ret)))))
def F_format_Has : IFn := ⟨2, b_format_Has, [.t 4, .t 5], .pure⟩
def v_format_Has : List Nat := [0, 1, 4, 5, 6, 7, 8, 13, 18]

/- chiasmus/chiasmuslaw09.nodes -/
def l0_chiasmuslaw09_nodes : ICode :=
 (.seq
 (.seq
 (.region [
   ⟨(some 9), .mov (.t 8), none, [], false⟩,
   ⟨(some 10), .mov (.t 0), none, [], false⟩,
   ⟨(some 11), .len .slice (.t 10), none, [], false⟩,
   ⟨(some 12), .bin .lss .val (.t 9) (.t 11), none, [], false⟩,
   ⟨(some 13), .mov (.t 12), none, [], false⟩,
   ⟨(some 14), .mov (.t 7), (some (13, true)), [], false⟩,
   ⟨(some 15), .mov (.t 1), (some (13, true)), [], false⟩,
   ⟨(some 16), .bin .leq .val (.t 14) (.t 15), (some (13, true)), [], false⟩,
   ⟨(some 17), .pick (.t 13) (.t 16) (.c (.bool false)), none, [], false⟩] [17] false)
 (.cond (.t 17)
  .skip
  (.exit 0)))
 (.seq
 (.block 1
  (.seq
  (.seq
  (.region [
    ⟨(some 20), .mov (.t 2), none, [], false⟩,
    ⟨(some 21), .bin .gtr .val (.t 20) (.c (.int .i64 150)), none, [], false⟩] [21] false)
  (.cond (.t 21)
   (.seq
   (.region [
     ⟨(some 22), .mov (.t 1), none, [], false⟩,
     ⟨(some 23), .bin .add .val (.t 22) (.c (.int .i64 1)), none, [], false⟩,
     ⟨(some 6), .mov (.t 23), none, [], false⟩] [6] false)
   .ret)
   .skip))
  (.region [
    ⟨(some 24), .mov (.t 7), none, [], false⟩,
    ⟨(some 25), .mov (.t 0), none, [], false⟩,
    ⟨(some 26), .mov (.t 8), none, [], false⟩,
    ⟨(some 27), .iaddr 3 (.t 25) (.t 26), none, [], false⟩,
    ⟨(some 28), .faddr 2 (.t 27), none, [], false⟩,
    ⟨(some 29), .load false 1 (.t 28), none, [], false⟩,
    ⟨(some 30), .mov (.t 1), none, [], false⟩,
    ⟨(some 31), .mov (.t 7), none, [], false⟩,
    ⟨(some 32), .bin .sub .val (.t 30) (.t 31), none, [], false⟩,
    ⟨(some 33), .bin .sub .val (.t 32) (.c (.int .i64 1)), none, [], false⟩,
    ⟨(some 34), .mov (.t 2), none, [], false⟩,
    ⟨(some 35), .bin .add .val (.t 34) (.c (.int .i64 1)), none, [], false⟩,
    ⟨(some 36), .call (.c (.fn n_chiasmuslaw09_nodes [] [])) [(.t 29), (.t 33), (.t 35)], none, [], false⟩,
    ⟨(some 37), .bin .add .val (.c (.int .i64 1)) (.t 36), none, [], false⟩,
    ⟨(some 38), .bin .add .val (.t 24) (.t 37), none, [], false⟩,
    ⟨(some 7), .mov (.t 38), none, [], false⟩] [7] false)))
 (.region [
   ⟨(some 18), .mov (.t 8), none, [], false⟩,
   ⟨(some 19), .bin .add .val (.t 18) (.c (.int .i64 1)), none, [], false⟩,
   ⟨(some 8), .mov (.t 19), none, [], false⟩] [8] false)))
def b_chiasmuslaw09_nodes : ICode :=
 (.seq
 (.region [
   ⟨(some 6), .mov (.c (.int .i64 0)), none, [], false⟩] [6] false)
 (.seq
 (.region [
   ⟨(some 7), .mov (.c (.int .i64 0)), none, [], false⟩] [7] false)
 (.seq
 (.seq
 (.region [
   ⟨(some 8), .mov (.c (.int .i64 0)), none, [], false⟩] [8] false)
 (.block 0
  (.loop [6, 17, 21] l0_chiasmuslaw09_nodes)))
 (.seq
 (.region [
   ⟨(some 39), .mov (.t 7), none, [], false⟩,
   ⟨(some 6), .mov (.t 39), none, [], false⟩] [6] false)
 .ret))))
def F_chiasmuslaw09_nodes : IFn := ⟨3, b_chiasmuslaw09_nodes, [.t 6], .pure⟩
def v_chiasmuslaw09_nodes : List Nat := [0, 1, 2, 6, 7, 8, 17, 21]

/- chiasmus/chiasmuslaw09.short -/
def l0_chiasmuslaw09_short : ICode :=
 (.seq
 (.seq
 (.region [
   ⟨(some 4), .mov (.t 3), none, [], false⟩,
   ⟨(some 5), .mov (.t 0), none, [], false⟩,
   ⟨(some 6), .len .slice (.t 5), none, [], false⟩,
   ⟨(some 7), .bin .lss .val (.t 4) (.t 6), none, [], false⟩] [7] false)
 (.cond (.t 7)
  .skip
  (.exit 0)))
 (.seq
 (.block 1
  (.seq
  (.region [
    ⟨(some 10), .mov (.t 0), none, [], false⟩,
    ⟨(some 11), .mov (.t 3), none, [], false⟩,
    ⟨(some 12), .iaddr 3 (.t 10) (.t 11), none, [], false⟩,
    ⟨(some 13), .faddr 1 (.t 12), none, [], false⟩,
    ⟨(some 14), .load false 1 (.t 13), none, [], false⟩,
    ⟨(some 15), .len .str (.t 14), none, [], false⟩,
    ⟨(some 16), .bin .gtr .val (.t 15) (.c (.int .i64 600)), none, [], false⟩,
    ⟨(some 17), .mov (.t 16), none, [], false⟩,
    ⟨(some 18), .mov (.t 0), (some (17, false)), [], false⟩,
    ⟨(some 19), .mov (.t 3), (some (17, false)), [], false⟩,
    ⟨(some 20), .iaddr 3 (.t 18) (.t 19), (some (17, false)), [], false⟩,
    ⟨(some 21), .faddr 2 (.t 20), (some (17, false)), [], false⟩,
    ⟨(some 22), .load false 1 (.t 21), (some (17, false)), [], false⟩,
    ⟨(some 23), .call (.c (.fn n_chiasmuslaw09_short [] [])) [(.t 22)], (some (17, false)), [], false⟩,
    ⟨(some 24), .un .not (.t 23), (some (17, false)), [], false⟩,
    ⟨(some 25), .pick (.t 17) (.c (.bool true)) (.t 24), none, [], false⟩] [25] false)
  (.cond (.t 25)
   (.seq
   (.region [
     ⟨(some 2), .mov (.c (.bool false)), none, [], false⟩] [2] false)
   .ret)
   .skip)))
 (.region [
   ⟨(some 8), .mov (.t 3), none, [], false⟩,
   ⟨(some 9), .bin .add .val (.t 8) (.c (.int .i64 1)), none, [], false⟩,
   ⟨(some 3), .mov (.t 9), none, [], false⟩] [3] false)))
def b_chiasmuslaw09_short : ICode :=
 (.seq
 (.region [
   ⟨(some 2), .mov (.c (.bool false)), none, [], false⟩] [2] false)
 (.seq
 (.seq
 (.region [
   ⟨(some 3), .mov (.c (.int .i64 0)), none, [], false⟩] [3] false)
 (.block 0
  (.loop [2, 7, 25] l0_chiasmuslaw09_short)))
 (.seq
 (.region [
   ⟨(some 2), .mov (.c (.bool true)), none, [], false⟩] [2] false)
 .ret)))
def F_chiasmuslaw09_short : IFn := ⟨1, b_chiasmuslaw09_short, [.t 2], .pure⟩
def v_chiasmuslaw09_short : List Nat := [0, 2, 3, 7, 25]

/- chiasmus/term.Pattern -/
def b_term_Pattern : ICode :=
 (.seq
 (.region [
   ⟨(some 2), .mov (.c (.int .i64 0)), none, [], false⟩] [2] false)
 (.seq
 (.region [
   ⟨(some 3), .mov (.t 0), none, [], false⟩,
   ⟨(some 4), .call (.c (.fn n_term_check [] [])) [(.t 3), (.c (.int .i64 7))], none, [], false⟩,
   ⟨(some 2), .mov (.t 4), none, [], false⟩] [2] false)
 .ret))
def F_term_Pattern : IFn := ⟨1, b_term_Pattern, [.t 2], .pure⟩
def v_term_Pattern : List Nat := [0, 2]

/- chiasmus/format.Check$1 -/
def l0_format_Check_1 : ICode :=
 (.seq
 (.region [
   ⟨(some 10), .bin .lss .val (.t 9) (.t 8), none, [], false⟩] [10] false)
 (.seq
 (.cond (.t 10)
  .skip
  (.exit 0))
 (.seq
 (.block 1
  (.seq
  (.region [
    ⟨(some 11), .iaddr 3 (.t 7) (.t 9), none, [], false⟩,
    ⟨(some 12), .load true 3 (.t 11), none, [], false⟩,
    ⟨(some 6), .alloc [.int .i64 0, .str [], .sl .nil 3 []], none, [], false⟩,
    ⟨none, .store 3 (.t 6) (.t 12), none, [], false⟩] [6] false)
  (.seq
  (.region [
    ⟨(some 13), .faddr 0 (.t 6), none, [], false⟩,
    ⟨(some 14), .load false 1 (.t 13), none, [], false⟩] [14] false)
  (.block 2
   (.seq
   (.region [
     ⟨(some 16), .bin .eql .val (.t 14) (.c (.int .i64 7)), none, [], false⟩,
     ⟨(some 15), .mov (.t 16), none, [], false⟩] [15] false)
   (.cond (.t 15)
    (.region [
      ⟨(some 17), .mov (.t 4), none, [], false⟩,
      ⟨(some 18), .bin .add .val (.t 17) (.c (.int .i64 1)), none, [], false⟩,
      ⟨(some 4), .mov (.t 18), none, [], false⟩] [4] false)
    (.seq
    (.region [
      ⟨(some 20), .bin .eql .val (.t 14) (.c (.int .i64 4)), none, [], false⟩,
      ⟨(some 19), .mov (.t 20), none, [], false⟩] [19] false)
    (.cond (.t 19)
     (.seq
     (.region [
       ⟨(some 21), .load false 1 (.t 1), none, [], false⟩,
       ⟨(some 22), .faddr 2 (.t 6), none, [], false⟩,
       ⟨(some 23), .load false 1 (.t 22), none, [], false⟩,
       ⟨(some 24), .call (.t 21) [(.t 23)], none, [], false⟩,
       ⟨(some 25), .un .not (.t 24), none, [], false⟩] [25] false)
     (.cond (.t 25)
      (.seq
      (.region [
        ⟨(some 3), .mov (.c (.bool false)), none, [], false⟩] [3] false)
      .ret)
      .skip))
     (.seq
     (.seq
     (.region [
       ⟨(some 27), .bin .eql .val (.t 14) (.c (.int .i64 5)), none, [], false⟩,
       ⟨(some 26), .mov (.t 27), none, [], false⟩] [26] false)
     (.cond (.t 26)
      .skip
      (.region [
        ⟨(some 28), .bin .eql .val (.t 14) (.c (.int .i64 6)), none, [], false⟩,
        ⟨(some 26), .mov (.t 28), none, [], false⟩] [26] false)))
     (.cond (.t 26)
      .skip
      (.seq
      (.region [
        ⟨(some 3), .mov (.c (.bool false)), none, [], false⟩] [3] false)
      .ret)))))))))))
 (.region [
   ⟨(some 29), .bin .add .val (.t 9) (.c (.int .i64 1)), none, [], false⟩,
   ⟨(some 9), .mov (.t 29), none, [], false⟩] [9] false))))
def b_format_Check_1 : ICode :=
 (.seq
 (.region [
   ⟨(some 3), .mov (.c (.bool false)), none, [], false⟩] [3] false)
 (.seq
 (.region [
   ⟨(some 4), .mov (.c (.int .i64 0)), none, [], false⟩] [4] false)
 (.seq
 (.seq
 (.region [
   ⟨(some 7), .mov (.t 0), none, [], false⟩,
   ⟨(some 8), .len .slice (.t 7), none, [], false⟩,
   ⟨(some 9), .mov (.c (.int .i64 0)), none, [], false⟩] [7, 8, 9] false)
 (.block 0
  (.loop [0, 3, 6, 10, 14, 15, 19, 25, 26] l0_format_Check_1)))
 (.seq
 (.region [
   ⟨(some 30), .mov (.t 4), none, [], false⟩,
   ⟨(some 31), .bin .leq .val (.t 30) (.c (.int .i64 1)), none, [], false⟩,
   ⟨(some 3), .mov (.t 31), none, [], false⟩] [3] false)
 .ret))))
def F_format_Check_1 : IFn := ⟨2, b_format_Check_1, [.t 3], .pure⟩
def v_format_Check_1 : List Nat := [0, 1, 3, 4, 6, 7, 8, 9, 10, 14, 15, 19, 25, 26]

/- chiasmus/term.Equal -/
def b_term_Equal : ICode :=
 (.seq
 (.region [
   ⟨(some 4), .mov (.c (.bool false)), none, [], false⟩] [4] false)
 (.seq
 (.region [
   ⟨(some 5), .mov (.t 0), none, [], false⟩,
   ⟨(some 6), .mov (.t 1), none, [], false⟩,
   ⟨(some 7), .call (.c (.fn n_term_Compare [] [])) [(.t 5), (.t 6)], none, [], false⟩,
   ⟨(some 8), .bin .eql .val (.t 7) (.c (.int .i64 0)), none, [], false⟩,
   ⟨(some 4), .mov (.t 8), none, [], false⟩] [4] false)
 .ret))
def F_term_Equal : IFn := ⟨2, b_term_Equal, [.t 4], .pure⟩
def v_term_Equal : List Nat := [0, 1, 4]

/- chiasmus/format.named -/
def b_format_named : ICode :=
 (.seq
 (.region [
   ⟨(some 2), .mov (.c (.sl .nil 3 [])), none, [], false⟩] [2] false)
 (.seq
 (.region [
   ⟨(some 5), .build [.int .i64 0] [], none, [], false⟩,
   ⟨(some 6), .box 1 (.t 5), none, [], false⟩,
   ⟨(some 7), .mkfn n___format_namer__next [(.t 6)] [], none, [], false⟩,
   ⟨(some 3), .alloc [.nilf], none, [], false⟩,
   ⟨none, .store 1 (.t 3) (.t 7), none, [], false⟩] [3] false)
 (.seq
 (.region [
   ⟨(some 4), .alloc [.nilf], none, [], false⟩] [4] false)
 (.seq
 (.region [
   ⟨(some 8), .mkfn n_format_named_1 [] [(.t 4), (.t 3)], none, [], false⟩,
   ⟨none, .store 1 (.t 4) (.t 8), none, [], false⟩] [] false)
 (.seq
 (.region [
   ⟨(some 9), .load false 1 (.t 4), none, [], false⟩,
   ⟨(some 10), .mov (.t 0), none, [], false⟩,
   ⟨(some 11), .call (.t 9) [(.t 10)], none, [], false⟩,
   ⟨(some 2), .mov (.t 11), none, [], false⟩] [2] false)
 .ret)))))
def F_format_named : IFn := ⟨1, b_format_named, [.t 2], .pure⟩
def v_format_named : List Nat := [0, 2, 3, 4]

/- chiasmus/format.Within -/
def b_format_Within : ICode :=
 (.seq
 (.region [
   ⟨(some 4), .mov (.c (.bool false)), none, [], false⟩,
   ⟨(some 5), .mov (.c (.int .i64 0)), none, [], false⟩] [4, 5] false)
 (.seq
 (.seq
 (.region [
   ⟨(some 7), .mov (.t 0), none, [], false⟩,
   ⟨(some 8), .mov (.t 1), none, [], false⟩,
   ⟨(some 9), .call (.c (.fn n_format_pair [] [])) [(.t 7), (.t 8)], none, [], false⟩,
   ⟨(some 6), .mov (.t 9), none, [], false⟩] [6] false)
 (.seq
 (.region [
   ⟨(some 10), .mov (.t 6), none, [], false⟩,
   ⟨(some 11), .bin .neq .val (.t 10) (.c (.int .i64 0)), none, [], false⟩] [11] false)
 (.cond (.t 11)
  (.seq
  (.region [
    ⟨(some 12), .mov (.t 6), none, [], false⟩,
    ⟨(some 4), .mov (.c (.bool false)), none, [], false⟩,
    ⟨(some 5), .mov (.t 12), none, [], false⟩] [4, 5] false)
  .ret)
  .skip)))
 (.seq
 (.region [
   ⟨(some 13), .mov (.t 0), none, [], false⟩,
   ⟨(some 14), .mov (.t 1), none, [], false⟩,
   ⟨(some 15), .call (.c (.fn n_format_within [] [])) [(.t 13), (.t 14)], none, [], false⟩,
   ⟨(some 4), .mov (.t 15), none, [], false⟩,
   ⟨(some 5), .mov (.c (.int .i64 0)), none, [], false⟩] [4, 5] false)
 .ret)))
def F_format_Within : IFn := ⟨2, b_format_Within, [.t 4, .t 5], .pure⟩
def v_format_Within : List Nat := [0, 1, 4, 5, 6, 11]

/- chiasmus/format.pair -/
def b_format_pair : ICode :=
 (.seq
 (.region [
   ⟨(some 4), .mov (.c (.int .i64 0)), none, [], false⟩] [4] false)
 (.seq
 (.seq
 (.region [
   ⟨(some 6), .mov (.t 0), none, [], false⟩,
   ⟨(some 7), .call (.c (.fn n_format_Check [] [])) [(.t 6)], none, [], false⟩,
   ⟨(some 5), .mov (.t 7), none, [], false⟩] [5] false)
 (.seq
 (.region [
   ⟨(some 8), .mov (.t 5), none, [], false⟩,
   ⟨(some 9), .bin .neq .val (.t 8) (.c (.int .i64 0)), none, [], false⟩] [9] false)
 (.cond (.t 9)
  (.seq
  (.region [
    ⟨(some 10), .mov (.t 5), none, [], false⟩,
    ⟨(some 4), .mov (.t 10), none, [], false⟩] [4] false)
  .ret)
  .skip)))
 (.seq
 (.region [
   ⟨(some 11), .mov (.t 1), none, [], false⟩,
   ⟨(some 12), .call (.c (.fn n_format_Check [] [])) [(.t 11)], none, [], false⟩,
   ⟨(some 4), .mov (.t 12), none, [], false⟩] [4] false)
 .ret)))
def F_format_pair : IFn := ⟨2, b_format_pair, [.t 4], .pure⟩
def v_format_pair : List Nat := [0, 1, 4, 5, 9]

/- chiasmus/format.join -/
def b_format_join : ICode :=
 (.seq
 (.region [
   ⟨(some 4), .mov (.c (.sl .nil 3 [])), none, [], false⟩] [4] false)
 (.seq
 (.region [
   ⟨(some 12), .mov (.t 0), none, [], false⟩,
   ⟨(some 13), .call (.c (.fn n_format_split [] [])) [(.t 12)], none, [], false⟩,
   ⟨(some 14), .mov (.t 1), none, [], false⟩,
   ⟨(some 15), .call (.c (.fn n_format_split [] [])) [(.t 14)], none, [], false⟩,
   ⟨(some 5), .alloc [.bool false, .sl .nil 3 [], .sl .nil 3 []], none, [], false⟩,
   ⟨(some 6), .alloc [.bool false, .sl .nil 3 [], .sl .nil 3 []], none, [], false⟩,
   ⟨none, .store 3 (.t 5) (.t 13), none, [], false⟩,
   ⟨none, .store 3 (.t 6) (.t 15), none, [], false⟩] [5, 6] false)
 (.seq
 (.seq
 (.region [
   ⟨(some 16), .faddr 0 (.t 5), none, [], false⟩,
   ⟨(some 17), .load false 1 (.t 16), none, [], false⟩,
   ⟨(some 18), .un .not (.t 17), none, [], false⟩,
   ⟨(some 19), .mov (.t 18), none, [], false⟩,
   ⟨(some 20), .faddr 0 (.t 6), (some (19, true)), [], false⟩,
   ⟨(some 21), .load false 1 (.t 20), (some (19, true)), [], false⟩,
   ⟨(some 22), .un .not (.t 21), (some (19, true)), [], false⟩,
   ⟨(some 23), .pick (.t 19) (.t 22) (.c (.bool false)), none, [], false⟩,
   ⟨(some 24), .mov (.t 23), none, [], false⟩,
   ⟨(some 25), .mov (.t 0), (some (24, true)), [], false⟩,
   ⟨(some 26), .len .slice (.t 25), (some (24, true)), [], false⟩,
   ⟨(some 27), .mov (.t 1), (some (24, true)), [], false⟩,
   ⟨(some 28), .len .slice (.t 27), (some (24, true)), [], false⟩,
   ⟨(some 29), .bin .eql .val (.t 26) (.t 28), (some (24, true)), [], false⟩,
   ⟨(some 30), .pick (.t 24) (.t 29) (.c (.bool false)), none, [], false⟩] [30] false)
 (.cond (.t 30)
  (.seq
  (.region [
    ⟨(some 31), .mov (.t 0), none, [], false⟩,
    ⟨(some 32), .mov (.t 1), none, [], false⟩,
    ⟨(some 33), .call (.c (.fn n_format_zip [] [])) [(.t 31), (.t 32), (.c (.fn n_format_both [] []))], none, [], false⟩,
    ⟨(some 4), .mov (.t 33), none, [], false⟩] [4] false)
  .ret)
  .skip))
 (.seq
 (.region [
   ⟨(some 34), .faddr 1 (.t 5), none, [], false⟩,
   ⟨(some 35), .load false 1 (.t 34), none, [], false⟩,
   ⟨(some 36), .len .slice (.t 35), none, [], false⟩,
   ⟨(some 37), .faddr 1 (.t 6), none, [], false⟩,
   ⟨(some 38), .load false 1 (.t 37), none, [], false⟩,
   ⟨(some 39), .len .slice (.t 38), none, [], false⟩,
   ⟨(some 40), .mm .min [(.t 36), (.t 39)], none, [], false⟩,
   ⟨(some 7), .alloc [.int .i64 0], none, [], false⟩,
   ⟨none, .store 1 (.t 7) (.t 40), none, [], false⟩] [7] false)
 (.seq
 (.region [
   ⟨(some 41), .mkfn n_format_join_1 [] [(.t 7)], none, [], false⟩,
   ⟨(some 8), .mov (.t 41), none, [], false⟩] [8] false)
 (.seq
 (.region [
   ⟨(some 42), .mov (.t 8), none, [], false⟩,
   ⟨(some 43), .load true 3 (.t 5), none, [], false⟩,
   ⟨(some 44), .call (.t 42) [(.t 43)], none, [], true⟩,
   ⟨(some 45), .mov (.t 8), none, [], false⟩,
   ⟨(some 46), .load true 3 (.t 6), none, [], false⟩,
   ⟨(some 47), .call (.t 45) [(.t 46)], none, [], true⟩,
   ⟨(some 9), .mov (.t 44), none, [], false⟩,
   ⟨(some 10), .mov (.t 47), none, [], false⟩] [9, 10] true)
 (.seq
 (.region [
   ⟨(some 48), .mov (.t 9), none, [], false⟩,
   ⟨(some 49), .len .slice (.t 48), none, [], false⟩,
   ⟨(some 50), .mov (.t 10), none, [], false⟩,
   ⟨(some 51), .len .slice (.t 50), none, [], false⟩,
   ⟨(some 52), .mm .min [(.t 49), (.t 51)], none, [], false⟩,
   ⟨(some 11), .mov (.t 52), none, [], false⟩] [11] false)
 (.seq
 (.region [
   ⟨(some 53), .faddr 1 (.t 5), none, [], false⟩,
   ⟨(some 54), .load false 1 (.t 53), none, [], false⟩,
   ⟨(some 55), .load false 1 (.t 7), none, [], false⟩,
   ⟨(some 56), .slice 3 (.t 54) none (some (.t 55)) none, none, [], false⟩,
   ⟨(some 57), .faddr 1 (.t 6), none, [], false⟩,
   ⟨(some 58), .load false 1 (.t 57), none, [], false⟩,
   ⟨(some 59), .load false 1 (.t 7), none, [], false⟩,
   ⟨(some 60), .slice 3 (.t 58) none (some (.t 59)) none, none, [], false⟩,
   ⟨(some 61), .call (.c (.fn n_format_zip [] [])) [(.t 56), (.t 60), (.c (.fn n_format_both [] []))], none, [], true⟩,
   ⟨(some 62), .mov (.t 9), none, [], false⟩,
   ⟨(some 63), .mov (.t 9), none, [], false⟩,
   ⟨(some 64), .len .slice (.t 63), none, [], false⟩,
   ⟨(some 65), .mov (.t 11), none, [], false⟩,
   ⟨(some 66), .bin .sub .val (.t 64) (.t 65), none, [], false⟩,
   ⟨(some 67), .slice 3 (.t 62) (some (.t 66)) none none, none, [], false⟩,
   ⟨(some 68), .mov (.t 10), none, [], false⟩,
   ⟨(some 69), .mov (.t 10), none, [], false⟩,
   ⟨(some 70), .len .slice (.t 69), none, [], false⟩,
   ⟨(some 71), .mov (.t 11), none, [], false⟩,
   ⟨(some 72), .bin .sub .val (.t 70) (.t 71), none, [], false⟩,
   ⟨(some 73), .slice 3 (.t 68) (some (.t 72)) none none, none, [], false⟩,
   ⟨(some 74), .call (.c (.fn n_format_zip [] [])) [(.t 67), (.t 73), (.c (.fn n_format_both [] []))], none, [], true⟩,
   ⟨(some 75), .build [.bool false, .sl .nil 3 [], .sl .nil 3 []] [(0, 1, (.c (.bool true))), (1, 1, (.t 61)), (2, 1, (.t 74))], none, [], false⟩,
   ⟨(some 76), .call (.c (.fn n__format_list__all [] [])) [(.t 75)], none, [], true⟩,
   ⟨(some 4), .mov (.t 76), none, [], false⟩] [4] true)
 .ret))))))))
def F_format_join : IFn := ⟨2, b_format_join, [.t 4], .pure⟩
def v_format_join : List Nat := [0, 1, 4, 5, 6, 7, 8, 9, 10, 11, 30]

/- chiasmus/chiasmusref01.Compare -/
def l0_chiasmusref01_Compare : ICode :=
 (.seq
 (.seq
 (.region [
   ⟨(some 8), .mov (.t 5), none, [], false⟩,
   ⟨(some 9), .mov (.t 0), none, [], false⟩,
   ⟨(some 10), .len .slice (.t 9), none, [], false⟩,
   ⟨(some 11), .bin .lss .val (.t 8) (.t 10), none, [], false⟩,
   ⟨(some 12), .mov (.t 11), none, [], false⟩,
   ⟨(some 13), .mov (.t 5), (some (12, true)), [], false⟩,
   ⟨(some 14), .mov (.t 1), (some (12, true)), [], false⟩,
   ⟨(some 15), .len .slice (.t 14), (some (12, true)), [], false⟩,
   ⟨(some 16), .bin .lss .val (.t 13) (.t 15), (some (12, true)), [], false⟩,
   ⟨(some 17), .pick (.t 12) (.t 16) (.c (.bool false)), none, [], false⟩] [17] false)
 (.cond (.t 17)
  .skip
  (.exit 0)))
 (.seq
 (.block 1
  (.seq
  (.seq
  (.region [
    ⟨(some 20), .mov (.t 0), none, [], false⟩,
    ⟨(some 21), .mov (.t 5), none, [], false⟩,
    ⟨(some 22), .iaddr 3 (.t 20) (.t 21), none, [], false⟩,
    ⟨(some 23), .faddr 0 (.t 22), none, [], false⟩,
    ⟨(some 24), .load false 1 (.t 23), none, [], false⟩,
    ⟨(some 25), .mov (.t 1), none, [], false⟩,
    ⟨(some 26), .mov (.t 5), none, [], false⟩,
    ⟨(some 27), .iaddr 3 (.t 25) (.t 26), none, [], false⟩,
    ⟨(some 28), .faddr 0 (.t 27), none, [], false⟩,
    ⟨(some 29), .load false 1 (.t 28), none, [], false⟩,
    ⟨(some 30), .bin .neq .val (.t 24) (.t 29), none, [], false⟩] [30] true)
  (.cond (.t 30)
   (.seq
   (.seq
   (.region [
     ⟨(some 31), .mov (.t 0), none, [], false⟩,
     ⟨(some 32), .mov (.t 5), none, [], false⟩,
     ⟨(some 33), .iaddr 3 (.t 31) (.t 32), none, [], false⟩,
     ⟨(some 34), .faddr 0 (.t 33), none, [], false⟩,
     ⟨(some 35), .load false 1 (.t 34), none, [], false⟩,
     ⟨(some 36), .mov (.t 1), none, [], false⟩,
     ⟨(some 37), .mov (.t 5), none, [], false⟩,
     ⟨(some 38), .iaddr 3 (.t 36) (.t 37), none, [], false⟩,
     ⟨(some 39), .faddr 0 (.t 38), none, [], false⟩,
     ⟨(some 40), .load false 1 (.t 39), none, [], false⟩,
     ⟨(some 41), .bin .lss .val (.t 35) (.t 40), none, [], false⟩] [41] true)
   (.cond (.t 41)
    (.seq
    (.region [
      ⟨(some 4), .mov (.c (.int .i64 (-1))), none, [], false⟩] [4] false)
    .ret)
    .skip))
   (.seq
   (.region [
     ⟨(some 4), .mov (.c (.int .i64 1)), none, [], false⟩] [4] false)
   .ret))
   .skip))
  (.seq
  (.seq
  (.region [
    ⟨(some 42), .mov (.t 0), none, [], false⟩,
    ⟨(some 43), .mov (.t 5), none, [], false⟩,
    ⟨(some 44), .iaddr 3 (.t 42) (.t 43), none, [], false⟩,
    ⟨(some 45), .faddr 1 (.t 44), none, [], false⟩,
    ⟨(some 46), .load false 1 (.t 45), none, [], false⟩,
    ⟨(some 47), .mov (.t 1), none, [], false⟩,
    ⟨(some 48), .mov (.t 5), none, [], false⟩,
    ⟨(some 49), .iaddr 3 (.t 47) (.t 48), none, [], false⟩,
    ⟨(some 50), .faddr 1 (.t 49), none, [], false⟩,
    ⟨(some 51), .load false 1 (.t 50), none, [], false⟩,
    ⟨(some 52), .call (.c (.fn n_chiasmusref01_Sign [] [])) [(.t 46), (.t 51)], none, [], true⟩,
    ⟨(some 6), .mov (.t 52), none, [], false⟩] [6] true)
  (.seq
  (.region [
    ⟨(some 53), .mov (.t 6), none, [], false⟩,
    ⟨(some 54), .bin .neq .val (.t 53) (.c (.int .i64 0)), none, [], false⟩] [54] false)
  (.cond (.t 54)
   (.seq
   (.region [
     ⟨(some 55), .mov (.t 6), none, [], false⟩,
     ⟨(some 4), .mov (.t 55), none, [], false⟩] [4] false)
   .ret)
   .skip)))
  (.seq
  (.region [
    ⟨(some 56), .mov (.t 0), none, [], false⟩,
    ⟨(some 57), .mov (.t 5), none, [], false⟩,
    ⟨(some 58), .iaddr 3 (.t 56) (.t 57), none, [], false⟩,
    ⟨(some 59), .faddr 2 (.t 58), none, [], false⟩,
    ⟨(some 60), .load false 1 (.t 59), none, [], false⟩,
    ⟨(some 61), .mov (.t 1), none, [], false⟩,
    ⟨(some 62), .mov (.t 5), none, [], false⟩,
    ⟨(some 63), .iaddr 3 (.t 61) (.t 62), none, [], false⟩,
    ⟨(some 64), .faddr 2 (.t 63), none, [], false⟩,
    ⟨(some 65), .load false 1 (.t 64), none, [], false⟩,
    ⟨(some 66), .call (.c (.fn n_chiasmusref01_Compare [] [])) [(.t 60), (.t 65)], none, [], true⟩,
    ⟨(some 7), .mov (.t 66), none, [], false⟩] [7] true)
  (.seq
  (.region [
    ⟨(some 67), .mov (.t 7), none, [], false⟩,
    ⟨(some 68), .bin .neq .val (.t 67) (.c (.int .i64 0)), none, [], false⟩] [68] false)
  (.cond (.t 68)
   (.seq
   (.region [
     ⟨(some 69), .mov (.t 7), none, [], false⟩,
     ⟨(some 4), .mov (.t 69), none, [], false⟩] [4] false)
   .ret)
   .skip))))))
 (.region [
   ⟨(some 18), .mov (.t 5), none, [], false⟩,
   ⟨(some 19), .bin .add .val (.t 18) (.c (.int .i64 1)), none, [], false⟩,
   ⟨(some 5), .mov (.t 19), none, [], false⟩] [5] false)))
def b_chiasmusref01_Compare : ICode :=
 (.seq
 (.region [
   ⟨(some 4), .mov (.c (.int .i64 0)), none, [], false⟩] [4] false)
 (.seq
 (.seq
 (.region [
   ⟨(some 5), .mov (.c (.int .i64 0)), none, [], false⟩] [5] false)
 (.block 0
  (.loop [4, 6, 7, 17, 30, 41, 54, 68, 74, 79] l0_chiasmusref01_Compare)))
 (.seq
 (.seq
 (.region [
   ⟨(some 70), .mov (.t 0), none, [], false⟩,
   ⟨(some 71), .len .slice (.t 70), none, [], false⟩,
   ⟨(some 72), .mov (.t 1), none, [], false⟩,
   ⟨(some 73), .len .slice (.t 72), none, [], false⟩,
   ⟨(some 74), .bin .lss .val (.t 71) (.t 73), none, [], false⟩] [74] false)
 (.cond (.t 74)
  (.seq
  (.region [
    ⟨(some 4), .mov (.c (.int .i64 (-1))), none, [], false⟩] [4] false)
  .ret)
  .skip))
 (.seq
 (.seq
 (.region [
   ⟨(some 75), .mov (.t 0), none, [], false⟩,
   ⟨(some 76), .len .slice (.t 75), none, [], false⟩,
   ⟨(some 77), .mov (.t 1), none, [], false⟩,
   ⟨(some 78), .len .slice (.t 77), none, [], false⟩,
   ⟨(some 79), .bin .gtr .val (.t 76) (.t 78), none, [], false⟩] [79] false)
 (.cond (.t 79)
  (.seq
  (.region [
    ⟨(some 4), .mov (.c (.int .i64 1)), none, [], false⟩] [4] false)
  .ret)
  .skip))
 (.seq
 (.region [
   ⟨(some 4), .mov (.c (.int .i64 0)), none, [], false⟩] [4] false)
 .ret)))))
def F_chiasmusref01_Compare : IFn := ⟨2, b_chiasmusref01_Compare, [.t 4], .pure⟩
def v_chiasmusref01_Compare : List Nat := [0, 1, 4, 5, 6, 7, 17, 30, 41, 54, 68, 74, 79]

/- chiasmus/format.cut -/
def l0_format_cut : ICode :=
 (.seq
 (.region [
   ⟨(some 14), .bin .lss .val (.t 13) (.t 12), none, [], false⟩] [14] false)
 (.seq
 (.cond (.t 14)
  .skip
  (.exit 0))
 (.seq
 (.block 1
  (.seq
  (.region [
    ⟨(some 15), .iaddr 3 (.t 11) (.t 13), none, [], false⟩,
    ⟨(some 16), .load true 3 (.t 15), none, [], false⟩,
    ⟨(some 7), .alloc [.int .i64 0, .str [], .sl .nil 3 []], none, [], false⟩,
    ⟨none, .store 3 (.t 7) (.t 16), none, [], false⟩] [7] false)
  (.seq
  (.seq
  (.region [
    ⟨(some 17), .faddr 0 (.t 7), none, [], false⟩,
    ⟨(some 18), .load false 1 (.t 17), none, [], false⟩,
    ⟨(some 19), .bin .eql .val (.t 18) (.c (.int .i64 4)), none, [], false⟩] [19] false)
  (.cond (.t 19)
   (.seq
   (.region [
     ⟨(some 20), .mov (.t 1), none, [], false⟩,
     ⟨(some 21), .bin .eql .val (.t 20) (.c (.int .i64 4)), none, [], false⟩] [21] false)
   (.cond (.t 21)
    (.region [
      ⟨(some 22), .build [.int .i64 0, .str [], .sl .nil 3 []] [(0, 1, (.c (.int .i64 6)))], none, [], false⟩,
      ⟨none, .store 3 (.t 7) (.t 22), none, [], false⟩] [] false)
    (.region [
      ⟨(some 23), .faddr 2 (.t 7), none, [], false⟩,
      ⟨(some 24), .load false 1 (.t 23), none, [], false⟩,
      ⟨(some 25), .mov (.t 1), none, [], false⟩,
      ⟨(some 26), .bin .add .val (.t 25) (.c (.int .i64 1)), none, [], false⟩,
      ⟨(some 27), .call (.c (.fn n_format_cut [] [])) [(.t 24), (.t 26)], none, [], false⟩,
      ⟨(some 28), .faddr 2 (.t 7), none, [], false⟩,
      ⟨none, .store 1 (.t 28) (.t 27), none, [], false⟩] [] false)))
   .skip))
  (.region [
    ⟨(some 29), .mov (.t 5), none, [], false⟩,
    ⟨(some 30), .load true 3 (.t 7), none, [], false⟩,
    ⟨(some 31), .bslice 3 [.int .i64 0, .str [], .sl .nil 3 []] 1 [(0, (.t 30))], none, [], false⟩,
    ⟨(some 32), .app 3 (.t 29) (.t 31), none, [], false⟩,
    ⟨(some 5), .mov (.t 32), none, [], false⟩] [5] false))))
 (.region [
   ⟨(some 33), .bin .add .val (.t 13) (.c (.int .i64 1)), none, [], false⟩,
   ⟨(some 13), .mov (.t 33), none, [], false⟩] [13] false))))
def b_format_cut : ICode :=
 (.seq
 (.region [
   ⟨(some 4), .mov (.c (.sl .nil 3 [])), none, [], false⟩] [4] false)
 (.seq
 (.region [
   ⟨(some 5), .mov (.c (.sl .nil 3 [])), none, [], false⟩] [5] false)
 (.seq
 (.seq
 (.region [
   ⟨(some 11), .mov (.t 0), none, [], false⟩,
   ⟨(some 12), .len .slice (.t 11), none, [], false⟩,
   ⟨(some 13), .mov (.c (.int .i64 0)), none, [], false⟩] [11, 12, 13] false)
 (.block 0
  (.loop [0, 4, 7, 8, 9, 10, 14, 19, 21, 36, 41] l0_format_cut)))
 (.seq
 (.seq
 (.region [
   ⟨(some 34), .mov (.t 5), none, [], false⟩,
   ⟨(some 35), .len .slice (.t 34), none, [], false⟩,
   ⟨(some 36), .bin .leq .val (.t 35) (.c (.int .i64 12)), none, [], false⟩] [36] false)
 (.cond (.t 36)
  (.seq
  (.region [
    ⟨(some 37), .mov (.t 5), none, [], false⟩,
    ⟨(some 4), .mov (.t 37), none, [], false⟩] [4] false)
  .ret)
  .skip))
 (.seq
 (.region [
   ⟨(some 38), .mov (.t 5), none, [], false⟩,
   ⟨(some 39), .call (.c (.fn n_format_split [] [])) [(.t 38)], none, [], false⟩,
   ⟨(some 8), .alloc [.bool false, .sl .nil 3 [], .sl .nil 3 []], none, [], false⟩,
   ⟨none, .store 3 (.t 8) (.t 39), none, [], false⟩] [8] false)
 (.seq
 (.region [
   ⟨(some 9), .mov (.c (.int .i64 6)), none, [], false⟩,
   ⟨(some 10), .mov (.c (.int .i64 5)), none, [], false⟩] [9, 10] false)
 (.seq
 (.seq
 (.region [
   ⟨(some 40), .faddr 0 (.t 8), none, [], false⟩,
   ⟨(some 41), .load false 1 (.t 40), none, [], false⟩] [41] false)
 (.cond (.t 41)
  (.seq
  (.region [
    ⟨(some 42), .faddr 2 (.t 8), none, [], false⟩,
    ⟨(some 43), .load false 1 (.t 42), none, [], false⟩,
    ⟨(some 44), .len .slice (.t 43), none, [], false⟩,
    ⟨(some 45), .mm .min [(.t 44), (.c (.int .i64 5))], none, [], false⟩,
    ⟨(some 10), .mov (.t 45), none, [], false⟩] [10] false)
  (.seq
  (.region [
    ⟨(some 46), .faddr 1 (.t 8), none, [], false⟩,
    ⟨(some 47), .load false 1 (.t 46), none, [], false⟩,
    ⟨(some 48), .len .slice (.t 47), none, [], false⟩,
    ⟨(some 49), .mov (.t 10), none, [], false⟩,
    ⟨(some 50), .bin .sub .val (.c (.int .i64 11)) (.t 49), none, [], false⟩,
    ⟨(some 51), .mm .min [(.t 48), (.t 50)], none, [], false⟩,
    ⟨(some 9), .mov (.t 51), none, [], false⟩] [9] false)
  (.region [
    ⟨(some 52), .mov (.t 9), none, [], false⟩,
    ⟨(some 53), .bin .sub .val (.c (.int .i64 11)) (.t 52), none, [], false⟩,
    ⟨(some 10), .mov (.t 53), none, [], false⟩] [10] false)))
  (.region [
    ⟨(some 54), .faddr 1 (.t 8), none, [], false⟩,
    ⟨(some 55), .load false 1 (.t 54), none, [], false⟩,
    ⟨(some 56), .faddr 2 (.t 8), none, [], false⟩,
    ⟨none, .store 1 (.t 56) (.t 55), none, [], false⟩] [] false)))
 (.seq
 (.region [
   ⟨(some 57), .faddr 1 (.t 8), none, [], false⟩,
   ⟨(some 58), .load false 1 (.t 57), none, [], false⟩,
   ⟨(some 59), .mov (.t 9), none, [], false⟩,
   ⟨(some 60), .slice 3 (.t 58) none (some (.t 59)) none, none, [], false⟩,
   ⟨(some 61), .faddr 2 (.t 8), none, [], false⟩,
   ⟨(some 62), .load false 1 (.t 61), none, [], false⟩,
   ⟨(some 63), .faddr 2 (.t 8), none, [], false⟩,
   ⟨(some 64), .load false 1 (.t 63), none, [], false⟩,
   ⟨(some 65), .len .slice (.t 64), none, [], false⟩,
   ⟨(some 66), .mov (.t 10), none, [], false⟩,
   ⟨(some 67), .bin .sub .val (.t 65) (.t 66), none, [], false⟩,
   ⟨(some 68), .slice 3 (.t 62) (some (.t 67)) none none, none, [], false⟩,
   ⟨(some 69), .build [.bool false, .sl .nil 3 [], .sl .nil 3 []] [(0, 1, (.c (.bool true))), (1, 1, (.t 60)), (2, 1, (.t 68))], none, [], false⟩,
   ⟨(some 70), .call (.c (.fn n__format_list__all [] [])) [(.t 69)], none, [], true⟩,
   ⟨(some 4), .mov (.t 70), none, [], false⟩] [4] true)
 .ret))))))))
def F_format_cut : IFn := ⟨2, b_format_cut, [.t 4], .pure⟩
def v_format_cut : List Nat := [0, 1, 4, 5, 7, 8, 9, 10, 11, 12, 13, 14, 19, 21, 36, 41]

/- chiasmus/term.check -/
def l0_term_check : ICode :=
 (.block 1
  (.seq
  (.region [
    ⟨(some 10), .load false 1 (.t 5), none, [], false⟩,
    ⟨(some 11), .bin .add .val (.t 10) (.c (.int .i64 1)), none, [], false⟩,
    ⟨none, .store 1 (.t 5) (.t 11), none, [], false⟩] [] false)
  (.seq
  (.region [
    ⟨(some 12), .load false 1 (.t 5), none, [], false⟩,
    ⟨(some 13), .bin .gtr .val (.t 12) (.c (.int .i64 4000)), none, [], false⟩] [13] false)
  (.cond (.t 13)
   (.seq
   (.region [
     ⟨none, .store 1 (.t 4) (.c (.int .i64 5)), none, [], false⟩] [] false)
   .ret)
   .skip))))
def l1_term_check : ICode :=
 (.block 3
  (.seq
  (.region [
    ⟨(some 20), .faddr 0 (.t 6), none, [], false⟩,
    ⟨(some 21), .load false 1 (.t 20), none, [], false⟩,
    ⟨(some 22), .load false 1 (.t 3), none, [], false⟩,
    ⟨(some 23), .bin .gtr .val (.t 21) (.t 22), none, [], false⟩,
    ⟨(some 24), .mov (.t 23), none, [], false⟩,
    ⟨(some 25), .load true 3 (.t 6), (some (24, false)), [], false⟩,
    ⟨(some 26), .call (.c (.fn n_term_right [] [])) [(.t 25)], (some (24, false)), [], false⟩,
    ⟨(some 27), .un .not (.t 26), (some (24, false)), [], false⟩,
    ⟨(some 28), .pick (.t 24) (.c (.bool true)) (.t 27), none, [], false⟩] [28] false)
  (.cond (.t 28)
   (.seq
   (.region [
     ⟨none, .store 1 (.t 4) (.c (.int .i64 2)), none, [], false⟩] [] false)
   .ret)
   .skip)))
def b_term_check : ICode :=
 (.seq
 (.region [
   ⟨(some 3), .box 1 (.t 1), none, [], false⟩,
   ⟨(some 4), .alloc [.int .i64 0], none, [], false⟩] [3, 4] false)
 (.seq
 (.region [
   ⟨(some 5), .alloc [.int .i64 0], none, [], false⟩,
   ⟨none, .store 1 (.t 5) (.c (.int .i64 0)), none, [], false⟩] [5] false)
 (.seq
 (.seq
 (.region [
   ⟨(some 7), .mov (.t 0), none, [], false⟩,
   ⟨(some 8), .call (.c (.fn n_term_all [] [])) [(.t 7)], none, [], false⟩] [8] false)
 (.block 0
  (.rangeFn (.t 8) [9]
 .skip l0_term_check)))
 (.seq
 (.seq
 (.region [
   ⟨(some 14), .mov (.t 0), none, [], false⟩,
   ⟨(some 15), .call (.c (.fn n_term_depth [] [])) [(.t 14)], none, [], false⟩,
   ⟨(some 16), .bin .gtr .val (.t 15) (.c (.int .i64 100)), none, [], false⟩] [16] false)
 (.cond (.t 16)
  (.seq
  (.region [
    ⟨none, .store 1 (.t 4) (.c (.int .i64 6)), none, [], false⟩] [] false)
  .ret)
  .skip))
 (.seq
 (.seq
 (.region [
   ⟨(some 17), .mov (.t 0), none, [], false⟩,
   ⟨(some 18), .call (.c (.fn n_term_all [] [])) [(.t 17)], none, [], false⟩] [18] false)
 (.block 2
  (.rangeFn (.t 18) [19]
 (.region [
   ⟨(some 6), .alloc [.int .i64 0, .str [], .sl .nil 3 []], none, [], false⟩,
   ⟨none, .store 3 (.t 6) (.t 19), none, [], false⟩] [6] false) l1_term_check)))
 (.seq
 (.region [
   ⟨none, .store 1 (.t 4) (.c (.int .i64 0)), none, [], false⟩] [] false)
 .ret))))))
def F_term_check : IFn := ⟨2, b_term_check, [.cell 4 false 1], .pure⟩
def v_term_check : List Nat := [0, 1, 3, 4, 5, 6, 8, 9, 13, 16, 18, 19, 28]

/- chiasmus/term.Result -/
def b_term_Result : ICode :=
 (.seq
 (.region [
   ⟨(some 2), .mov (.c (.int .i64 0)), none, [], false⟩] [2] false)
 (.seq
 (.region [
   ⟨(some 3), .mov (.t 0), none, [], false⟩,
   ⟨(some 4), .call (.c (.fn n_term_check [] [])) [(.t 3), (.c (.int .i64 8))], none, [], false⟩,
   ⟨(some 2), .mov (.t 4), none, [], false⟩] [2] false)
 .ret))
def F_term_Result : IFn := ⟨1, b_term_Result, [.t 2], .pure⟩
def v_term_Result : List Nat := [0, 2]

/- chiasmus/format.least -/
def l0_format_least : ICode :=
 (.seq
 (.region [
   ⟨(some 16), .bin .lss .val (.t 15) (.t 14), none, [], false⟩] [16] false)
 (.seq
 (.cond (.t 16)
  .skip
  (.exit 0))
 (.seq
 (.block 1
  (.seq
  (.region [
    ⟨(some 17), .iaddr 3 (.t 13) (.t 15), none, [], false⟩,
    ⟨(some 18), .load true 3 (.t 17), none, [], false⟩,
    ⟨(some 8), .alloc [.int .i64 0, .str [], .sl .nil 3 []], none, [], false⟩,
    ⟨none, .store 3 (.t 8) (.t 18), none, [], false⟩] [8] false)
  (.seq
  (.region [
    ⟨(some 19), .faddr 0 (.t 8), none, [], false⟩,
    ⟨(some 20), .load false 1 (.t 19), none, [], false⟩] [20] false)
  (.block 2
   (.seq
   (.seq
   (.region [
     ⟨(some 26), .bin .eql .val (.t 20) (.c (.int .i64 6)), none, [], false⟩,
     ⟨(some 25), .mov (.t 26), none, [], false⟩] [25] false)
   (.cond (.t 25)
    .skip
    (.region [
      ⟨(some 27), .bin .eql .val (.t 20) (.c (.int .i64 7)), none, [], false⟩,
      ⟨(some 25), .mov (.t 27), none, [], false⟩] [25] false)))
   (.cond (.t 25)
    (.region [
      ⟨(some 28), .mov (.t 6), none, [], false⟩,
      ⟨(some 29), .faddr 0 (.t 8), none, [], false⟩,
      ⟨(some 30), .load false 1 (.t 29), none, [], false⟩,
      ⟨(some 31), .build [.int .i64 0, .str [], .sl .nil 3 []] [(0, 1, (.t 30))], none, [], false⟩,
      ⟨(some 32), .bslice 3 [.int .i64 0, .str [], .sl .nil 3 []] 1 [(0, (.t 31))], none, [], false⟩,
      ⟨(some 33), .app 3 (.t 28) (.t 32), none, [], false⟩,
      ⟨(some 6), .mov (.t 33), none, [], false⟩] [6] false)
    (.seq
    (.region [
      ⟨(some 35), .bin .eql .val (.t 20) (.c (.int .i64 4)), none, [], false⟩,
      ⟨(some 34), .mov (.t 35), none, [], false⟩] [34] false)
    (.cond (.t 34)
     (.seq
     (.region [
       ⟨(some 37), .faddr 2 (.t 8), none, [], false⟩,
       ⟨(some 38), .load false 1 (.t 37), none, [], false⟩,
       ⟨(some 39), .mov (.t 1), none, [], false⟩,
       ⟨(some 40), .call (.c (.fn n_format_least [] [])) [(.t 38), (.t 39)], none, [], false⟩,
       ⟨(some 36), .mov (.t 40), none, [], false⟩,
       ⟨(some 41), .ext (.t 36) 0, none, [], false⟩,
       ⟨(some 42), .ext (.t 36) 1, none, [], false⟩,
       ⟨(some 9), .mov (.t 41), none, [], false⟩,
       ⟨(some 10), .mov (.t 42), none, [], false⟩] [9, 10] false)
     (.seq
     (.seq
     (.region [
       ⟨(some 43), .mov (.t 10), none, [], false⟩,
       ⟨(some 44), .un .not (.t 43), none, [], false⟩] [44] false)
     (.cond (.t 44)
      (.seq
      (.region [
        ⟨(some 4), .mov (.c (.sl .nil 3 [])), none, [], false⟩,
        ⟨(some 5), .mov (.c (.bool false)), none, [], false⟩] [4, 5] false)
      .ret)
      .skip))
     (.region [
       ⟨(some 45), .mov (.t 6), none, [], false⟩,
       ⟨(some 46), .mov (.t 9), none, [], false⟩,
       ⟨(some 47), .build [.int .i64 0, .str [], .sl .nil 3 []] [(0, 1, (.c (.int .i64 4))), (2, 1, (.t 46))], none, [], false⟩,
       ⟨(some 48), .bslice 3 [.int .i64 0, .str [], .sl .nil 3 []] 1 [(0, (.t 47))], none, [], false⟩,
       ⟨(some 49), .app 3 (.t 45) (.t 48), none, [], false⟩,
       ⟨(some 6), .mov (.t 49), none, [], false⟩] [6] false)))
     (.seq
     (.region [
       ⟨(some 51), .bin .eql .val (.t 20) (.c (.int .i64 8)), none, [], false⟩,
       ⟨(some 50), .mov (.t 51), none, [], false⟩] [50] false)
     (.cond (.t 50)
      (.seq
      (.region [
        ⟨(some 53), .mov (.t 1), none, [], false⟩,
        ⟨(some 54), .faddr 1 (.t 8), none, [], false⟩,
        ⟨(some 55), .load false 1 (.t 54), none, [], false⟩,
        ⟨(some 56), .lookup .str (.agg [.str [], .bool false, .bool false, .sl .nil 3 [], .sl .nil 3 []]) (.t 53) (.t 55) true, none, [], false⟩,
        ⟨(some 52), .mov (.t 56), none, [], false⟩,
        ⟨(some 57), .ext (.t 52) 0, none, [], false⟩,
        ⟨(some 58), .ext (.t 52) 1, none, [], false⟩,
        ⟨(some 11), .alloc [.str [], .bool false, .bool false, .sl .nil 3 [], .sl .nil 3 []], none, [], false⟩,
        ⟨none, .store 5 (.t 11) (.t 57), none, [], false⟩,
        ⟨(some 12), .mov (.t 58), none, [], false⟩] [11, 12] false)
      (.block 3
       (.seq
       (.region [
         ⟨(some 64), .mov (.t 12), none, [], false⟩,
         ⟨(some 65), .un .not (.t 64), none, [], false⟩,
         ⟨(some 63), .mov (.t 65), none, [], false⟩] [63] false)
       (.cond (.t 63)
        (.region [
          ⟨(some 66), .mov (.t 6), none, [], false⟩,
          ⟨(some 67), .call (.c (.fn n_format_some [] [])) [], none, [], false⟩,
          ⟨(some 68), .bslice 3 [.int .i64 0, .str [], .sl .nil 3 []] 1 [(0, (.t 67))], none, [], false⟩,
          ⟨(some 69), .app 3 (.t 66) (.t 68), none, [], false⟩,
          ⟨(some 6), .mov (.t 69), none, [], false⟩] [6] false)
        (.seq
        (.region [
          ⟨(some 71), .faddr 2 (.t 11), none, [], false⟩,
          ⟨(some 72), .load false 1 (.t 71), none, [], false⟩,
          ⟨(some 73), .un .not (.t 72), none, [], false⟩,
          ⟨(some 70), .mov (.t 73), none, [], false⟩] [70] false)
        (.cond (.t 70)
         (.seq
         (.region [
           ⟨(some 4), .mov (.c (.sl .nil 3 [])), none, [], false⟩,
           ⟨(some 5), .mov (.c (.bool false)), none, [], false⟩] [4, 5] false)
         .ret)
         (.region [
           ⟨(some 59), .mov (.t 6), none, [], false⟩,
           ⟨(some 60), .faddr 4 (.t 11), none, [], false⟩,
           ⟨(some 61), .load false 1 (.t 60), none, [], false⟩,
           ⟨(some 62), .app 3 (.t 59) (.t 61), none, [], false⟩,
           ⟨(some 6), .mov (.t 62), none, [], false⟩] [6] false)))))))
      (.region [
        ⟨(some 21), .mov (.t 6), none, [], false⟩,
        ⟨(some 22), .build [.int .i64 0, .str [], .sl .nil 3 []] [(0, 1, (.c (.int .i64 5)))], none, [], false⟩,
        ⟨(some 23), .bslice 3 [.int .i64 0, .str [], .sl .nil 3 []] 1 [(0, (.t 22))], none, [], false⟩,
        ⟨(some 24), .app 3 (.t 21) (.t 23), none, [], false⟩,
        ⟨(some 6), .mov (.t 24), none, [], false⟩] [6] false)))))))))))
 (.region [
   ⟨(some 74), .bin .add .val (.t 15) (.c (.int .i64 1)), none, [], false⟩,
   ⟨(some 15), .mov (.t 74), none, [], false⟩] [15] false))))
def b_format_least : ICode :=
 (.seq
 (.region [
   ⟨(some 4), .mov (.c (.sl .nil 3 [])), none, [], false⟩,
   ⟨(some 5), .mov (.c (.bool false)), none, [], false⟩] [4, 5] false)
 (.seq
 (.region [
   ⟨(some 6), .mov (.c (.sl .nil 3 [])), none, [], false⟩] [6] false)
 (.seq
 (.seq
 (.region [
   ⟨(some 13), .mov (.t 0), none, [], false⟩,
   ⟨(some 14), .len .slice (.t 13), none, [], false⟩,
   ⟨(some 15), .mov (.c (.int .i64 0)), none, [], false⟩] [13, 14, 15] false)
 (.block 0
  (.loop [0, 4, 5, 8, 9, 10, 11, 12, 16, 20, 25, 34, 44, 50, 63, 70] l0_format_least)))
 (.seq
 (.region [
   ⟨(some 75), .mov (.t 6), none, [], false⟩,
   ⟨(some 76), .call (.c (.fn n_format_merged [] [])) [(.t 75)], none, [], false⟩,
   ⟨(some 4), .mov (.t 76), none, [], false⟩,
   ⟨(some 5), .mov (.c (.bool true)), none, [], false⟩] [4, 5] false)
 .ret))))
def F_format_least : IFn := ⟨2, b_format_least, [.t 4, .t 5], .pure⟩
def v_format_least : List Nat := [0, 1, 4, 5, 6, 8, 9, 10, 11, 12, 13, 14, 15, 16, 20, 25, 34, 44, 50, 63, 70]

/- chiasmus/format.table -/
def l0_format_table : ICode :=
 (.block 1
  (.region [
    ⟨(some 11), .load false 1 (.t 3), none, [], false⟩,
    ⟨(some 12), .faddr 0 (.t 5), none, [], false⟩,
    ⟨(some 13), .load false 1 (.t 12), none, [], false⟩,
    ⟨(some 14), .load true 5 (.t 5), none, [], false⟩,
    ⟨none, .mapset .str (.t 11) (.t 13) (.t 14), none, [], false⟩] [] false))
def b_format_table : ICode :=
 (.seq
 (.region [
   ⟨(some 2), .mov (.c (.map none)), none, [], false⟩] [2] false)
 (.seq
 (.region [
   ⟨(some 6), .mkmap, none, [], false⟩,
   ⟨(some 3), .alloc [.map none], none, [], false⟩,
   ⟨none, .store 1 (.t 3) (.t 6), none, [], false⟩] [3] false)
 (.seq
 (.seq
 (.region [
   ⟨(some 7), .mov (.t 0), none, [], false⟩,
   ⟨(some 8), .call (.c (.fn n_slices_Backward___format_Format_format_Format_ [] [])) [(.t 7)], none, [], false⟩] [8] false)
 (.block 0
  (.rangeFn (.t 8) [9, 10]
 (.region [
   ⟨(some 5), .alloc [.str [], .bool false, .bool false, .sl .nil 3 [], .sl .nil 3 []], none, [], false⟩,
   ⟨none, .store 5 (.t 5) (.t 10), none, [], false⟩] [5] false) l0_format_table)))
 (.seq
 (.region [
   ⟨(some 15), .load false 1 (.t 3), none, [], false⟩,
   ⟨(some 2), .mov (.t 15), none, [], false⟩] [2] false)
 .ret))))
def F_format_table : IFn := ⟨1, b_format_table, [.t 2], .eff⟩
def v_format_table : List Nat := [0, 2, 3, 5, 8, 9, 10]

/- chiasmus/format.within -/
def l0_format_within : ICode :=
 (.seq
 (.region [
   ⟨(some 47), .bin .lss .val (.t 46) (.t 45), none, [], false⟩] [47] false)
 (.seq
 (.cond (.t 47)
  .skip
  (.exit 0))
 (.seq
 (.block 1
  (.seq
  (.region [
    ⟨(some 48), .mov (.t 46), none, [], false⟩,
    ⟨(some 49), .iaddr 3 (.t 44) (.t 46), none, [], false⟩,
    ⟨(some 50), .load true 3 (.t 49), none, [], false⟩,
    ⟨(some 8), .alloc [.int .i64 0, .str [], .sl .nil 3 []], none, [], false⟩,
    ⟨(some 7), .mov (.t 48), none, [], false⟩,
    ⟨none, .store 3 (.t 8) (.t 50), none, [], false⟩] [8, 7] false)
  (.seq
  (.region [
    ⟨(some 51), .mov (.t 7), none, [], false⟩,
    ⟨(some 52), .faddr 1 (.t 5), none, [], false⟩,
    ⟨(some 53), .load false 1 (.t 52), none, [], false⟩,
    ⟨(some 54), .len .slice (.t 53), none, [], false⟩,
    ⟨(some 55), .bin .lss .val (.t 51) (.t 54), none, [], false⟩] [55] false)
  (.cond (.t 55)
   (.seq
   (.region [
     ⟨(some 56), .faddr 1 (.t 5), none, [], false⟩,
     ⟨(some 57), .load false 1 (.t 56), none, [], false⟩,
     ⟨(some 58), .mov (.t 7), none, [], false⟩,
     ⟨(some 59), .iaddr 3 (.t 57) (.t 58), none, [], false⟩,
     ⟨(some 60), .load true 3 (.t 59), none, [], false⟩,
     ⟨(some 61), .load true 3 (.t 8), none, [], false⟩,
     ⟨(some 62), .call (.c (.fn n_format_inside [] [])) [(.t 60), (.t 61)], none, [], true⟩,
     ⟨(some 63), .un .not (.t 62), none, [], false⟩] [63] true)
   (.cond (.t 63)
    (.seq
    (.region [
      ⟨none, .store 1 (.t 4) (.c (.bool false)), none, [], false⟩] [] false)
    .ret)
    .skip))
   (.seq
   (.region [
     ⟨(some 64), .faddr 0 (.t 8), none, [], false⟩,
     ⟨(some 65), .load false 1 (.t 64), none, [], false⟩,
     ⟨(some 66), .bin .neq .val (.t 65) (.c (.int .i64 6)), none, [], false⟩] [66] false)
   (.cond (.t 66)
    (.seq
    (.region [
      ⟨none, .store 1 (.t 4) (.c (.bool false)), none, [], false⟩] [] false)
    .ret)
    .skip))))))
 (.region [
   ⟨(some 67), .bin .add .val (.t 46) (.c (.int .i64 1)), none, [], false⟩,
   ⟨(some 46), .mov (.t 67), none, [], false⟩] [46] false))))
def l1_format_within : ICode :=
 (.block 3
  (.seq
  (.region [
    ⟨(some 80), .load false 1 (.t 9), none, [], false⟩,
    ⟨(some 81), .len .slice (.t 80), none, [], false⟩,
    ⟨(some 82), .faddr 2 (.t 6), none, [], false⟩,
    ⟨(some 83), .load false 1 (.t 82), none, [], false⟩,
    ⟨(some 84), .len .slice (.t 83), none, [], false⟩,
    ⟨(some 85), .mov (.t 10), none, [], false⟩,
    ⟨(some 86), .bin .sub .val (.t 84) (.t 85), none, [], false⟩,
    ⟨(some 87), .bin .sub .val (.t 81) (.t 86), none, [], false⟩,
    ⟨(some 12), .mov (.t 87), none, [], false⟩] [12] false)
  (.seq
  (.region [
    ⟨(some 88), .mov (.t 12), none, [], false⟩,
    ⟨(some 89), .bin .geq .val (.t 88) (.c (.int .i64 0)), none, [], false⟩] [89] false)
  (.cond (.t 89)
   (.seq
   (.region [
     ⟨(some 90), .load false 1 (.t 9), none, [], false⟩,
     ⟨(some 91), .mov (.t 12), none, [], false⟩,
     ⟨(some 92), .iaddr 3 (.t 90) (.t 91), none, [], false⟩,
     ⟨(some 93), .load true 3 (.t 92), none, [], false⟩,
     ⟨(some 94), .load true 3 (.t 11), none, [], false⟩,
     ⟨(some 95), .call (.c (.fn n_format_inside [] [])) [(.t 93), (.t 94)], none, [], true⟩,
     ⟨(some 96), .un .not (.t 95), none, [], false⟩] [96] true)
   (.cond (.t 96)
    (.seq
    (.region [
      ⟨none, .store 1 (.t 4) (.c (.bool false)), none, [], false⟩] [] false)
    .ret)
    .skip))
   (.seq
   (.region [
     ⟨(some 97), .faddr 0 (.t 11), none, [], false⟩,
     ⟨(some 98), .load false 1 (.t 97), none, [], false⟩,
     ⟨(some 99), .bin .neq .val (.t 98) (.c (.int .i64 6)), none, [], false⟩] [99] false)
   (.cond (.t 99)
    (.seq
    (.region [
      ⟨none, .store 1 (.t 4) (.c (.bool false)), none, [], false⟩] [] false)
    .ret)
    .skip))))))
def b_format_within : ICode :=
 (.seq
 (.region [
   ⟨(some 4), .alloc [.bool false], none, [], false⟩] [4] false)
 (.seq
 (.region [
   ⟨(some 13), .mov (.t 0), none, [], false⟩,
   ⟨(some 14), .call (.c (.fn n_format_split [] [])) [(.t 13)], none, [], false⟩,
   ⟨(some 15), .mov (.t 1), none, [], false⟩,
   ⟨(some 16), .call (.c (.fn n_format_split [] [])) [(.t 15)], none, [], false⟩,
   ⟨(some 5), .alloc [.bool false, .sl .nil 3 [], .sl .nil 3 []], none, [], false⟩,
   ⟨(some 6), .alloc [.bool false, .sl .nil 3 [], .sl .nil 3 []], none, [], false⟩,
   ⟨none, .store 3 (.t 5) (.t 14), none, [], false⟩,
   ⟨none, .store 3 (.t 6) (.t 16), none, [], false⟩] [5, 6] false)
 (.seq
 (.seq
 (.region [
   ⟨(some 17), .faddr 0 (.t 6), none, [], false⟩,
   ⟨(some 18), .load false 1 (.t 17), none, [], false⟩,
   ⟨(some 19), .un .not (.t 18), none, [], false⟩] [19] false)
 (.cond (.t 19)
  (.seq
  (.region [
    ⟨(some 20), .faddr 0 (.t 5), none, [], false⟩,
    ⟨(some 21), .load false 1 (.t 20), none, [], false⟩,
    ⟨(some 22), .un .not (.t 21), none, [], false⟩,
    ⟨(some 23), .mov (.t 22), none, [], false⟩,
    ⟨(some 24), .mov (.t 0), (some (23, true)), [], false⟩,
    ⟨(some 25), .mov (.t 1), (some (23, true)), [], false⟩,
    ⟨(some 26), .call (.c (.fn n_slices_EqualFunc___api_Term___api_Term_api_Term_api_Term_ [] [])) [(.t 24), (.t 25), (.c (.fn n_format_inside [] []))], (some (23, true)), [], false⟩,
    ⟨(some 27), .pick (.t 23) (.t 26) (.c (.bool false)), none, [], false⟩,
    ⟨none, .store 1 (.t 4) (.t 27), none, [], false⟩] [] false)
  .ret)
  .skip))
 (.seq
 (.seq
 (.region [
   ⟨(some 28), .faddr 1 (.t 5), none, [], false⟩,
   ⟨(some 29), .load false 1 (.t 28), none, [], false⟩,
   ⟨(some 30), .len .slice (.t 29), none, [], false⟩,
   ⟨(some 31), .faddr 2 (.t 5), none, [], false⟩,
   ⟨(some 32), .load false 1 (.t 31), none, [], false⟩,
   ⟨(some 33), .len .slice (.t 32), none, [], false⟩,
   ⟨(some 34), .bin .add .val (.t 30) (.t 33), none, [], false⟩,
   ⟨(some 35), .faddr 1 (.t 6), none, [], false⟩,
   ⟨(some 36), .load false 1 (.t 35), none, [], false⟩,
   ⟨(some 37), .len .slice (.t 36), none, [], false⟩,
   ⟨(some 38), .faddr 2 (.t 6), none, [], false⟩,
   ⟨(some 39), .load false 1 (.t 38), none, [], false⟩,
   ⟨(some 40), .len .slice (.t 39), none, [], false⟩,
   ⟨(some 41), .bin .add .val (.t 37) (.t 40), none, [], false⟩,
   ⟨(some 42), .bin .lss .val (.t 34) (.t 41), none, [], false⟩] [42] false)
 (.cond (.t 42)
  (.seq
  (.region [
    ⟨none, .store 1 (.t 4) (.c (.bool false)), none, [], false⟩] [] false)
  .ret)
  .skip))
 (.seq
 (.seq
 (.region [
   ⟨(some 43), .faddr 1 (.t 6), none, [], false⟩,
   ⟨(some 44), .load false 1 (.t 43), none, [], false⟩,
   ⟨(some 45), .len .slice (.t 44), none, [], false⟩,
   ⟨(some 46), .mov (.c (.int .i64 0)), none, [], false⟩] [44, 45, 46] false)
 (.block 0
  (.loop [0, 1, 7, 8, 9, 10, 11, 12, 19, 42, 47, 55, 63, 66, 72, 77, 78, 79, 89, 96, 99] l0_format_within)))
 (.seq
 (.region [
   ⟨(some 68), .faddr 2 (.t 5), none, [], false⟩,
   ⟨(some 69), .load false 1 (.t 68), none, [], false⟩,
   ⟨(some 9), .alloc [.sl .nil 3 []], none, [], false⟩,
   ⟨none, .store 1 (.t 9) (.t 69), none, [], false⟩] [9] false)
 (.seq
 (.seq
 (.region [
   ⟨(some 70), .faddr 0 (.t 5), none, [], false⟩,
   ⟨(some 71), .load false 1 (.t 70), none, [], false⟩,
   ⟨(some 72), .un .not (.t 71), none, [], false⟩] [72] false)
 (.cond (.t 72)
  (.region [
    ⟨(some 73), .faddr 1 (.t 5), none, [], false⟩,
    ⟨(some 74), .load false 1 (.t 73), none, [], false⟩,
    ⟨none, .store 1 (.t 9) (.t 74), none, [], false⟩] [] false)
  .skip))
 (.seq
 (.seq
 (.region [
   ⟨(some 75), .faddr 2 (.t 6), none, [], false⟩,
   ⟨(some 76), .load false 1 (.t 75), none, [], false⟩,
   ⟨(some 77), .call (.c (.fn n_slices_Backward___api_Term_api_Term_ [] [])) [(.t 76)], none, [], false⟩] [77] false)
 (.block 2
  (.rangeFn (.t 77) [78, 79]
 (.seq
 (.region [
   ⟨(some 10), .mov (.t 78), none, [], false⟩] [10] false)
 (.region [
   ⟨(some 11), .alloc [.int .i64 0, .str [], .sl .nil 3 []], none, [], false⟩,
   ⟨none, .store 3 (.t 11) (.t 79), none, [], false⟩] [11] false)) l1_format_within)))
 (.seq
 (.region [
   ⟨none, .store 1 (.t 4) (.c (.bool true)), none, [], false⟩] [] false)
 .ret)))))))))
def F_format_within : IFn := ⟨2, b_format_within, [.cell 4 false 1], .pure⟩
def v_format_within : List Nat := [0, 1, 4, 5, 6, 7, 8, 9, 10, 11, 12, 19, 42, 44, 45, 46, 47, 55, 63, 66, 72, 77, 78, 79, 89, 96, 99]

/- chiasmus/term.Compare -/
def l0_term_Compare : ICode :=
 (.seq
 (.region [
   ⟨(some 13), .bin .lss .val (.t 12) (.t 11), none, [], false⟩] [13] false)
 (.seq
 (.cond (.t 13)
  .skip
  (.exit 0))
 (.seq
 (.block 1
  (.seq
  (.region [
    ⟨(some 14), .mov (.t 12), none, [], false⟩,
    ⟨(some 5), .mov (.t 14), none, [], false⟩] [5] false)
  (.seq
  (.block 2
   (.seq
   (.region [
     ⟨(some 16), .mov (.t 0), none, [], false⟩,
     ⟨(some 17), .mov (.t 5), none, [], false⟩,
     ⟨(some 18), .iaddr 3 (.t 16) (.t 17), none, [], false⟩,
     ⟨(some 19), .faddr 0 (.t 18), none, [], false⟩,
     ⟨(some 20), .load false 1 (.t 19), none, [], false⟩,
     ⟨(some 21), .mov (.t 1), none, [], false⟩,
     ⟨(some 22), .mov (.t 5), none, [], false⟩,
     ⟨(some 23), .iaddr 3 (.t 21) (.t 22), none, [], false⟩,
     ⟨(some 24), .faddr 0 (.t 23), none, [], false⟩,
     ⟨(some 25), .load false 1 (.t 24), none, [], false⟩,
     ⟨(some 26), .bin .neq .val (.t 20) (.t 25), none, [], false⟩,
     ⟨(some 15), .mov (.t 26), none, [], false⟩] [15] true)
   (.cond (.t 15)
    (.seq
    (.region [
      ⟨(some 27), .mov (.t 0), none, [], false⟩,
      ⟨(some 28), .mov (.t 5), none, [], false⟩,
      ⟨(some 29), .iaddr 3 (.t 27) (.t 28), none, [], false⟩,
      ⟨(some 30), .faddr 0 (.t 29), none, [], false⟩,
      ⟨(some 31), .load false 1 (.t 30), none, [], false⟩,
      ⟨(some 32), .mov (.t 1), none, [], false⟩,
      ⟨(some 33), .mov (.t 5), none, [], false⟩,
      ⟨(some 34), .iaddr 3 (.t 32) (.t 33), none, [], false⟩,
      ⟨(some 35), .faddr 0 (.t 34), none, [], false⟩,
      ⟨(some 36), .load false 1 (.t 35), none, [], false⟩,
      ⟨(some 37), .call (.c (.fn n_cmp_Compare_int_ [] [])) [(.t 31), (.t 36)], none, [], true⟩,
      ⟨(some 4), .mov (.t 37), none, [], false⟩] [4] true)
    .ret)
    (.seq
    (.region [
      ⟨(some 39), .mov (.t 0), none, [], false⟩,
      ⟨(some 40), .mov (.t 5), none, [], false⟩,
      ⟨(some 41), .iaddr 3 (.t 39) (.t 40), none, [], false⟩,
      ⟨(some 42), .faddr 1 (.t 41), none, [], false⟩,
      ⟨(some 43), .load false 1 (.t 42), none, [], false⟩,
      ⟨(some 44), .mov (.t 1), none, [], false⟩,
      ⟨(some 45), .mov (.t 5), none, [], false⟩,
      ⟨(some 46), .iaddr 3 (.t 44) (.t 45), none, [], false⟩,
      ⟨(some 47), .faddr 1 (.t 46), none, [], false⟩,
      ⟨(some 48), .load false 1 (.t 47), none, [], false⟩,
      ⟨(some 49), .bin .neq .val (.t 43) (.t 48), none, [], false⟩,
      ⟨(some 38), .mov (.t 49), none, [], false⟩] [38] true)
    (.cond (.t 38)
     (.seq
     (.region [
       ⟨(some 50), .mov (.t 0), none, [], false⟩,
       ⟨(some 51), .mov (.t 5), none, [], false⟩,
       ⟨(some 52), .iaddr 3 (.t 50) (.t 51), none, [], false⟩,
       ⟨(some 53), .faddr 1 (.t 52), none, [], false⟩,
       ⟨(some 54), .load false 1 (.t 53), none, [], false⟩,
       ⟨(some 55), .mov (.t 1), none, [], false⟩,
       ⟨(some 56), .mov (.t 5), none, [], false⟩,
       ⟨(some 57), .iaddr 3 (.t 55) (.t 56), none, [], false⟩,
       ⟨(some 58), .faddr 1 (.t 57), none, [], false⟩,
       ⟨(some 59), .load false 1 (.t 58), none, [], false⟩,
       ⟨(some 60), .call (.c (.fn n_cmp_Compare_string_ [] [])) [(.t 54), (.t 59)], none, [], true⟩,
       ⟨(some 4), .mov (.t 60), none, [], false⟩] [4] true)
     .ret)
     .skip)))))
  (.seq
  (.region [
    ⟨(some 61), .mov (.t 0), none, [], false⟩,
    ⟨(some 62), .mov (.t 5), none, [], false⟩,
    ⟨(some 63), .iaddr 3 (.t 61) (.t 62), none, [], false⟩,
    ⟨(some 64), .faddr 2 (.t 63), none, [], false⟩,
    ⟨(some 65), .load false 1 (.t 64), none, [], false⟩,
    ⟨(some 66), .mov (.t 1), none, [], false⟩,
    ⟨(some 67), .mov (.t 5), none, [], false⟩,
    ⟨(some 68), .iaddr 3 (.t 66) (.t 67), none, [], false⟩,
    ⟨(some 69), .faddr 2 (.t 68), none, [], false⟩,
    ⟨(some 70), .load false 1 (.t 69), none, [], false⟩,
    ⟨(some 71), .call (.c (.fn n_term_Compare [] [])) [(.t 65), (.t 70)], none, [], true⟩,
    ⟨(some 6), .mov (.t 71), none, [], false⟩] [6] true)
  (.seq
  (.region [
    ⟨(some 72), .mov (.t 6), none, [], false⟩,
    ⟨(some 73), .bin .neq .val (.t 72) (.c (.int .i64 0)), none, [], false⟩] [73] false)
  (.cond (.t 73)
   (.seq
   (.region [
     ⟨(some 74), .mov (.t 6), none, [], false⟩,
     ⟨(some 4), .mov (.t 74), none, [], false⟩] [4] false)
   .ret)
   .skip))))))
 (.region [
   ⟨(some 75), .bin .add .val (.t 12) (.c (.int .i64 1)), none, [], false⟩,
   ⟨(some 12), .mov (.t 75), none, [], false⟩] [12] false))))
def b_term_Compare : ICode :=
 (.seq
 (.region [
   ⟨(some 4), .mov (.c (.int .i64 0)), none, [], false⟩] [4] false)
 (.seq
 (.seq
 (.region [
   ⟨(some 7), .mov (.t 0), none, [], false⟩,
   ⟨(some 8), .len .slice (.t 7), none, [], false⟩,
   ⟨(some 9), .mov (.t 1), none, [], false⟩,
   ⟨(some 10), .len .slice (.t 9), none, [], false⟩,
   ⟨(some 11), .mm .min [(.t 8), (.t 10)], none, [], false⟩,
   ⟨(some 12), .mov (.c (.int .i64 0)), none, [], false⟩] [11, 12] false)
 (.block 0
  (.loop [4, 5, 6, 13, 15, 38, 73] l0_term_Compare)))
 (.seq
 (.region [
   ⟨(some 76), .mov (.t 0), none, [], false⟩,
   ⟨(some 77), .len .slice (.t 76), none, [], false⟩,
   ⟨(some 78), .mov (.t 1), none, [], false⟩,
   ⟨(some 79), .len .slice (.t 78), none, [], false⟩,
   ⟨(some 80), .call (.c (.fn n_cmp_Compare_int_ [] [])) [(.t 77), (.t 79)], none, [], false⟩,
   ⟨(some 4), .mov (.t 80), none, [], false⟩] [4] false)
 .ret)))
def F_term_Compare : IFn := ⟨2, b_term_Compare, [.t 4], .pure⟩
def v_term_Compare : List Nat := [0, 1, 4, 5, 6, 11, 12, 13, 15, 38, 73]

/- (*chiasmus/format.namer).next -/
def b___format_namer__next : ICode :=
 (.seq
 (.region [
   ⟨(some 2), .mov (.c (.str [])), none, [], false⟩] [2] false)
 (.seq
 (.region [
   ⟨(some 3), .mov (.t 0), none, [], false⟩,
   ⟨(some 4), .nilchk (.t 3), none, [], false⟩,
   ⟨(some 5), .faddr 0 (.t 4), none, [], false⟩,
   ⟨(some 6), .load false 1 (.t 5), none, [], false⟩,
   ⟨(some 7), .bin .add .val (.t 6) (.c (.int .i64 1)), none, [], false⟩,
   ⟨(some 8), .nilchk (.t 3), none, [], false⟩,
   ⟨(some 9), .faddr 0 (.t 8), none, [], false⟩,
   ⟨none, .store 1 (.t 9) (.t 7), none, [], false⟩] [] false)
 (.seq
 (.region [
   ⟨(some 10), .mov (.t 0), none, [], false⟩,
   ⟨(some 11), .nilchk (.t 10), none, [], false⟩,
   ⟨(some 12), .faddr 0 (.t 11), none, [], false⟩,
   ⟨(some 13), .load false 1 (.t 12), none, [], false⟩,
   ⟨(some 14), .call (.c (.fn n_strconv_Itoa [] [])) [(.t 13)], none, [], false⟩,
   ⟨(some 2), .mov (.t 14), none, [], false⟩] [2] false)
 .ret)))
def F___format_namer__next : IFn := ⟨1, b___format_namer__next, [.t 2], .eff⟩
def v___format_namer__next : List Nat := [0, 2]

/- chiasmus/format.named$1 -/
def l0_format_named_1 : ICode :=
 (.seq
 (.region [
   ⟨(some 11), .bin .lss .val (.t 10) (.t 9), none, [], false⟩] [11] false)
 (.seq
 (.cond (.t 11)
  .skip
  (.exit 0))
 (.seq
 (.block 1
  (.seq
  (.region [
    ⟨(some 12), .iaddr 3 (.t 8) (.t 10), none, [], false⟩,
    ⟨(some 13), .load true 3 (.t 12), none, [], false⟩,
    ⟨(some 7), .alloc [.int .i64 0, .str [], .sl .nil 3 []], none, [], false⟩,
    ⟨none, .store 3 (.t 7) (.t 13), none, [], false⟩] [7] false)
  (.seq
  (.region [
    ⟨(some 14), .faddr 0 (.t 7), none, [], false⟩,
    ⟨(some 15), .load false 1 (.t 14), none, [], false⟩,
    ⟨(some 16), .bin .eql .val (.t 15) (.c (.int .i64 4)), none, [], false⟩] [16] false)
  (.cond (.t 16)
   (.region [
     ⟨(some 17), .mov (.t 5), none, [], false⟩,
     ⟨(some 18), .load false 1 (.t 1), none, [], false⟩,
     ⟨(some 19), .faddr 2 (.t 7), none, [], false⟩,
     ⟨(some 20), .load false 1 (.t 19), none, [], false⟩,
     ⟨(some 21), .call (.t 18) [(.t 20)], none, [], false⟩,
     ⟨(some 22), .build [.int .i64 0, .str [], .sl .nil 3 []] [(0, 1, (.c (.int .i64 4))), (2, 1, (.t 21))], none, [], false⟩,
     ⟨(some 23), .bslice 3 [.int .i64 0, .str [], .sl .nil 3 []] 1 [(0, (.t 22))], none, [], false⟩,
     ⟨(some 24), .app 3 (.t 17) (.t 23), none, [], false⟩,
     ⟨(some 5), .mov (.t 24), none, [], false⟩] [5] false)
   (.region [
     ⟨(some 25), .mov (.t 5), none, [], false⟩,
     ⟨(some 26), .faddr 0 (.t 7), none, [], false⟩,
     ⟨(some 27), .load false 1 (.t 26), none, [⟨false, 1, .t 7, some 0⟩], false⟩,
     ⟨(some 28), .load false 1 (.t 2), none, [], false⟩,
     ⟨(some 29), .call (.t 28) [], none, [⟨false, 1, .t 7, some 0⟩, ⟨false, 1, .t 2, none⟩], false⟩,
     ⟨(some 30), .build [.int .i64 0, .str [], .sl .nil 3 []] [(0, 1, (.t 27)), (1, 1, (.t 29))], none, [], false⟩,
     ⟨(some 31), .bslice 3 [.int .i64 0, .str [], .sl .nil 3 []] 1 [(0, (.t 30))], none, [], false⟩,
     ⟨(some 32), .app 3 (.t 25) (.t 31), none, [], false⟩,
     ⟨(some 5), .mov (.t 32), none, [], false⟩] [5] true)))))
 (.region [
   ⟨(some 33), .bin .add .val (.t 10) (.c (.int .i64 1)), none, [], false⟩,
   ⟨(some 10), .mov (.t 33), none, [], false⟩] [10] false))))
def b_format_named_1 : ICode :=
 (.seq
 (.region [
   ⟨(some 4), .mov (.c (.sl .nil 3 [])), none, [], false⟩] [4] false)
 (.seq
 (.region [
   ⟨(some 5), .mov (.c (.sl .nil 3 [])), none, [], false⟩] [5] false)
 (.seq
 (.seq
 (.region [
   ⟨(some 8), .mov (.t 0), none, [], false⟩,
   ⟨(some 9), .len .slice (.t 8), none, [], false⟩,
   ⟨(some 10), .mov (.c (.int .i64 0)), none, [], false⟩] [8, 9, 10] false)
 (.block 0
  (.loop [0, 4, 7, 11, 16] l0_format_named_1)))
 (.seq
 (.region [
   ⟨(some 34), .mov (.t 5), none, [], false⟩,
   ⟨(some 4), .mov (.t 34), none, [], false⟩] [4] false)
 .ret))))
def F_format_named_1 : IFn := ⟨3, b_format_named_1, [.t 4], .eff⟩
def v_format_named_1 : List Nat := [0, 1, 2, 4, 5, 7, 8, 9, 10, 11, 16]

/- chiasmus/format.split -/
def b_format_split : ICode :=
 (.seq
 (.region [
   ⟨(some 2), .alloc [.bool false, .sl .nil 3 [], .sl .nil 3 []], none, [], false⟩] [2] false)
 (.seq
 (.region [
   ⟨(some 3), .mov (.c (.fn n_format_split_1 [] [])), none, [], false⟩] [3] false)
 (.seq
 (.region [
   ⟨(some 5), .mov (.t 0), none, [], false⟩,
   ⟨(some 6), .mov (.t 3), none, [], false⟩,
   ⟨(some 7), .call (.c (.fn n_slices_IndexFunc___api_Term_api_Term_ [] [])) [(.t 5), (.t 6)], none, [], false⟩,
   ⟨(some 4), .mov (.t 7), none, [], false⟩] [4] false)
 (.seq
 (.seq
 (.region [
   ⟨(some 8), .mov (.t 4), none, [], false⟩,
   ⟨(some 9), .bin .lss .val (.t 8) (.c (.int .i64 0)), none, [], false⟩] [9] false)
 (.cond (.t 9)
  (.seq
  (.region [
    ⟨(some 10), .mov (.t 0), none, [], false⟩,
    ⟨(some 11), .build [.bool false, .sl .nil 3 [], .sl .nil 3 []] [(1, 1, (.t 10))], none, [], false⟩,
    ⟨none, .store 3 (.t 2) (.t 11), none, [], false⟩] [] false)
  .ret)
  .skip))
 (.seq
 (.region [
   ⟨(some 12), .mov (.t 0), none, [], false⟩,
   ⟨(some 13), .mov (.t 4), none, [], false⟩,
   ⟨(some 14), .slice 3 (.t 12) none (some (.t 13)) none, none, [], false⟩,
   ⟨(some 15), .mov (.t 0), none, [], false⟩,
   ⟨(some 16), .mov (.t 4), none, [], false⟩,
   ⟨(some 17), .bin .add .val (.t 16) (.c (.int .i64 1)), none, [], false⟩,
   ⟨(some 18), .slice 3 (.t 15) (some (.t 17)) none none, none, [], false⟩,
   ⟨(some 19), .build [.bool false, .sl .nil 3 [], .sl .nil 3 []] [(0, 1, (.c (.bool true))), (1, 1, (.t 14)), (2, 1, (.t 18))], none, [], false⟩,
   ⟨none, .store 3 (.t 2) (.t 19), none, [], false⟩] [] true)
 .ret)))))
def F_format_split : IFn := ⟨1, b_format_split, [.cell 2 true 3], .pure⟩
def v_format_split : List Nat := [0, 2, 3, 4, 9]

/- chiasmus/format.zip -/
def l0_format_zip : ICode :=
 (.seq
 (.region [
   ⟨(some 12), .bin .lss .val (.t 11) (.t 10), none, [], false⟩] [12] false)
 (.seq
 (.cond (.t 12)
  .skip
  (.exit 0))
 (.seq
 (.block 1
  (.seq
  (.region [
    ⟨(some 13), .mov (.t 11), none, [], false⟩,
    ⟨(some 8), .mov (.t 13), none, [], false⟩] [8] false)
  (.region [
    ⟨(some 14), .mov (.t 7), none, [], false⟩,
    ⟨(some 15), .mov (.t 2), none, [], false⟩,
    ⟨(some 16), .mov (.t 0), none, [], false⟩,
    ⟨(some 17), .mov (.t 8), none, [], false⟩,
    ⟨(some 18), .iaddr 3 (.t 16) (.t 17), none, [], false⟩,
    ⟨(some 19), .load true 3 (.t 18), none, [], false⟩,
    ⟨(some 20), .mov (.t 1), none, [], false⟩,
    ⟨(some 21), .mov (.t 8), none, [], false⟩,
    ⟨(some 22), .iaddr 3 (.t 20) (.t 21), none, [], false⟩,
    ⟨(some 23), .load true 3 (.t 22), none, [], false⟩,
    ⟨(some 24), .call (.t 15) [(.t 19), (.t 23)], none, [], true⟩,
    ⟨(some 25), .bslice 3 [.int .i64 0, .str [], .sl .nil 3 []] 1 [(0, (.t 24))], none, [], false⟩,
    ⟨(some 26), .app 3 (.t 14) (.t 25), none, [], false⟩,
    ⟨(some 7), .mov (.t 26), none, [], false⟩] [7] true)))
 (.region [
   ⟨(some 27), .bin .add .val (.t 11) (.c (.int .i64 1)), none, [], false⟩,
   ⟨(some 11), .mov (.t 27), none, [], false⟩] [11] false))))
def b_format_zip : ICode :=
 (.seq
 (.region [
   ⟨(some 6), .mov (.c (.sl .nil 3 [])), none, [], false⟩] [6] false)
 (.seq
 (.region [
   ⟨(some 7), .mov (.c (.sl .nil 3 [])), none, [], false⟩] [7] false)
 (.seq
 (.seq
 (.region [
   ⟨(some 9), .mov (.t 0), none, [], false⟩,
   ⟨(some 10), .len .slice (.t 9), none, [], false⟩,
   ⟨(some 11), .mov (.c (.int .i64 0)), none, [], false⟩] [10, 11] false)
 (.block 0
  (.loop [6, 8, 12] l0_format_zip)))
 (.seq
 (.region [
   ⟨(some 28), .mov (.t 7), none, [], false⟩,
   ⟨(some 6), .mov (.t 28), none, [], false⟩] [6] false)
 .ret))))
def F_format_zip : IFn := ⟨3, b_format_zip, [.t 6], .pure⟩
def v_format_zip : List Nat := [0, 1, 2, 6, 7, 8, 10, 11, 12]

/- chiasmus/format.both -/
def b_format_both : ICode :=
 (.seq
 (.region [
   ⟨(some 2), .box 3 (.t 0), none, [], false⟩,
   ⟨(some 3), .box 3 (.t 1), none, [], false⟩,
   ⟨(some 4), .alloc [.int .i64 0, .str [], .sl .nil 3 []], none, [], false⟩] [2, 3, 4] false)
 (.seq
 (.block 0
  (.seq
  (.region [
    ⟨(some 6), .faddr 0 (.t 2), none, [], false⟩,
    ⟨(some 7), .load false 1 (.t 6), none, [], false⟩,
    ⟨(some 8), .bin .eql .val (.t 7) (.c (.int .i64 5)), none, [], false⟩,
    ⟨(some 9), .mov (.t 8), none, [], false⟩,
    ⟨(some 10), .faddr 0 (.t 3), (some (9, true)), [], false⟩,
    ⟨(some 11), .load false 1 (.t 10), (some (9, true)), [], false⟩,
    ⟨(some 12), .bin .eql .val (.t 11) (.c (.int .i64 5)), (some (9, true)), [], false⟩,
    ⟨(some 13), .pick (.t 9) (.t 12) (.c (.bool false)), none, [], false⟩,
    ⟨(some 5), .mov (.t 13), none, [], false⟩] [5] false)
  (.cond (.t 5)
   (.seq
   (.region [
     ⟨(some 14), .build [.int .i64 0, .str [], .sl .nil 3 []] [(0, 1, (.c (.int .i64 5)))], none, [], false⟩,
     ⟨none, .store 3 (.t 4) (.t 14), none, [], false⟩] [] false)
   .ret)
   (.seq
   (.region [
     ⟨(some 16), .faddr 0 (.t 2), none, [], false⟩,
     ⟨(some 17), .load false 1 (.t 16), none, [], false⟩,
     ⟨(some 18), .bin .eql .val (.t 17) (.c (.int .i64 4)), none, [], false⟩,
     ⟨(some 19), .mov (.t 18), none, [], false⟩,
     ⟨(some 20), .faddr 0 (.t 3), (some (19, true)), [], false⟩,
     ⟨(some 21), .load false 1 (.t 20), (some (19, true)), [], false⟩,
     ⟨(some 22), .bin .eql .val (.t 21) (.c (.int .i64 4)), (some (19, true)), [], false⟩,
     ⟨(some 23), .pick (.t 19) (.t 22) (.c (.bool false)), none, [], false⟩,
     ⟨(some 15), .mov (.t 23), none, [], false⟩] [15] false)
   (.cond (.t 15)
    (.seq
    (.region [
      ⟨(some 24), .faddr 2 (.t 2), none, [], false⟩,
      ⟨(some 25), .load false 1 (.t 24), none, [], false⟩,
      ⟨(some 26), .faddr 2 (.t 3), none, [], false⟩,
      ⟨(some 27), .load false 1 (.t 26), none, [], false⟩,
      ⟨(some 28), .call (.c (.fn n_format_join [] [])) [(.t 25), (.t 27)], none, [], false⟩,
      ⟨(some 29), .build [.int .i64 0, .str [], .sl .nil 3 []] [(0, 1, (.c (.int .i64 4))), (2, 1, (.t 28))], none, [], false⟩,
      ⟨none, .store 3 (.t 4) (.t 29), none, [], false⟩] [] false)
    .ret)
    .skip)))))
 (.seq
 (.region [
   ⟨(some 30), .build [.int .i64 0, .str [], .sl .nil 3 []] [(0, 1, (.c (.int .i64 6)))], none, [], false⟩,
   ⟨none, .store 3 (.t 4) (.t 30), none, [], false⟩] [] false)
 .ret)))
def F_format_both : IFn := ⟨2, b_format_both, [.cell 4 true 3], .pure⟩
def v_format_both : List Nat := [0, 1, 2, 3, 4, 5, 15]

/- chiasmus/format.join$1 -/
def b_format_join_1 : ICode :=
 (.seq
 (.region [
   ⟨(some 2), .box 3 (.t 0), none, [], false⟩,
   ⟨(some 3), .mov (.c (.sl .nil 3 [])), none, [], false⟩] [2, 3] false)
 (.seq
 (.seq
 (.region [
   ⟨(some 4), .faddr 0 (.t 2), none, [], false⟩,
   ⟨(some 5), .load false 1 (.t 4), none, [], false⟩] [5] false)
 (.cond (.t 5)
  (.seq
  (.region [
    ⟨(some 6), .faddr 2 (.t 2), none, [], false⟩,
    ⟨(some 7), .load false 1 (.t 6), none, [], false⟩,
    ⟨(some 3), .mov (.t 7), none, [], false⟩] [3] false)
  .ret)
  .skip))
 (.seq
 (.region [
   ⟨(some 8), .faddr 1 (.t 2), none, [], false⟩,
   ⟨(some 9), .load false 1 (.t 8), none, [], false⟩,
   ⟨(some 10), .load false 1 (.t 1), none, [], false⟩,
   ⟨(some 11), .slice 3 (.t 9) (some (.t 10)) none none, none, [], false⟩,
   ⟨(some 3), .mov (.t 11), none, [], false⟩] [3] false)
 .ret)))
def F_format_join_1 : IFn := ⟨2, b_format_join_1, [.t 3], .pure⟩
def v_format_join_1 : List Nat := [0, 1, 2, 3, 5]

/- (chiasmus/format.list).all -/
def b__format_list__all : ICode :=
 (.seq
 (.region [
   ⟨(some 1), .box 3 (.t 0), none, [], false⟩,
   ⟨(some 2), .mov (.c (.sl .nil 3 [])), none, [], false⟩] [1, 2] false)
 (.seq
 (.seq
 (.region [
   ⟨(some 3), .faddr 0 (.t 1), none, [], false⟩,
   ⟨(some 4), .load false 1 (.t 3), none, [], false⟩,
   ⟨(some 5), .un .not (.t 4), none, [], false⟩] [5] false)
 (.cond (.t 5)
  (.seq
  (.region [
    ⟨(some 6), .faddr 1 (.t 1), none, [], false⟩,
    ⟨(some 7), .load false 1 (.t 6), none, [], false⟩,
    ⟨(some 8), .call (.c (.fn n_slices_Clone___api_Term_api_Term_ [] [])) [(.t 7)], none, [], false⟩,
    ⟨(some 2), .mov (.t 8), none, [], false⟩] [2] false)
  .ret)
  .skip))
 (.seq
 (.region [
   ⟨(some 9), .faddr 1 (.t 1), none, [], false⟩,
   ⟨(some 10), .load false 1 (.t 9), none, [], false⟩,
   ⟨(some 11), .call (.c (.fn n_format_some [] [])) [], none, [], true⟩,
   ⟨(some 12), .bslice 3 [.int .i64 0, .str [], .sl .nil 3 []] 1 [(0, (.t 11))], none, [], false⟩,
   ⟨(some 13), .faddr 2 (.t 1), none, [], false⟩,
   ⟨(some 14), .load false 1 (.t 13), none, [], false⟩,
   ⟨(some 15), .bslice 1 [.sl .nil 3 []] 3 [(0, (.t 10)), (1, (.t 12)), (2, (.t 14))], none, [], false⟩,
   ⟨(some 16), .call (.c (.fn n_slices_Concat___api_Term_api_Term_ [] [])) [(.t 15)], none, [], true⟩,
   ⟨(some 2), .mov (.t 16), none, [], false⟩] [2] true)
 .ret)))
def F__format_list__all : IFn := ⟨1, b__format_list__all, [.t 2], .pure⟩
def v__format_list__all : List Nat := [0, 1, 2, 5]

/- chiasmus/chiasmusref01.Sign -/
def b_chiasmusref01_Sign : ICode :=
 (.seq
 (.region [
   ⟨(some 4), .mov (.c (.int .i64 0)), none, [], false⟩] [4] false)
 (.seq
 (.seq
 (.region [
   ⟨(some 5), .mov (.t 0), none, [], false⟩,
   ⟨(some 6), .mov (.t 1), none, [], false⟩,
   ⟨(some 7), .bin .lss .val (.t 5) (.t 6), none, [], false⟩] [7] false)
 (.cond (.t 7)
  (.seq
  (.region [
    ⟨(some 4), .mov (.c (.int .i64 (-1))), none, [], false⟩] [4] false)
  .ret)
  .skip))
 (.seq
 (.seq
 (.region [
   ⟨(some 8), .mov (.t 0), none, [], false⟩,
   ⟨(some 9), .mov (.t 1), none, [], false⟩,
   ⟨(some 10), .bin .gtr .val (.t 8) (.t 9), none, [], false⟩] [10] false)
 (.cond (.t 10)
  (.seq
  (.region [
    ⟨(some 4), .mov (.c (.int .i64 1)), none, [], false⟩] [4] false)
  .ret)
  .skip))
 (.seq
 (.region [
   ⟨(some 4), .mov (.c (.int .i64 0)), none, [], false⟩] [4] false)
 .ret))))
def F_chiasmusref01_Sign : IFn := ⟨2, b_chiasmusref01_Sign, [.t 4], .pure⟩
def v_chiasmusref01_Sign : List Nat := [0, 1, 4, 7, 10]

/- chiasmus/term.all -/
def b_term_all : ICode :=
 (.seq
 (.region [
   ⟨(some 1), .box 1 (.t 0), none, [], false⟩,
   ⟨(some 2), .mov (.c (.nilf)), none, [], false⟩] [1, 2] false)
 (.seq
 (.region [
   ⟨(some 3), .mkfn n_term_all_1 [] [(.t 1)], none, [], false⟩,
   ⟨(some 2), .mov (.t 3), none, [], false⟩] [2] false)
 .ret))
def F_term_all : IFn := ⟨1, b_term_all, [.t 2], .eff⟩
def v_term_all : List Nat := [0, 1, 2]

/- chiasmus/term.depth -/
def l0_term_depth : ICode :=
 (.seq
 (.region [
   ⟨(some 9), .bin .lss .val (.t 8) (.t 7), none, [], false⟩] [9] false)
 (.seq
 (.cond (.t 9)
  .skip
  (.exit 0))
 (.seq
 (.block 1
  (.seq
  (.region [
    ⟨(some 10), .iaddr 3 (.t 6) (.t 8), none, [], false⟩,
    ⟨(some 11), .load true 3 (.t 10), none, [], false⟩,
    ⟨(some 5), .alloc [.int .i64 0, .str [], .sl .nil 3 []], none, [], false⟩,
    ⟨none, .store 3 (.t 5) (.t 11), none, [], false⟩] [5] false)
  (.seq
  (.region [
    ⟨(some 12), .faddr 0 (.t 5), none, [], false⟩,
    ⟨(some 13), .load false 1 (.t 12), none, [], false⟩,
    ⟨(some 14), .bin .eql .val (.t 13) (.c (.int .i64 4)), none, [], false⟩,
    ⟨(some 15), .mov (.t 14), none, [], false⟩,
    ⟨(some 16), .faddr 0 (.t 5), (some (15, false)), [], false⟩,
    ⟨(some 17), .load false 1 (.t 16), (some (15, false)), [], false⟩,
    ⟨(some 18), .bin .eql .val (.t 17) (.c (.int .i64 8)), (some (15, false)), [], false⟩,
    ⟨(some 19), .pick (.t 15) (.c (.bool true)) (.t 18), none, [], false⟩,
    ⟨(some 20), .mov (.t 19), none, [], false⟩,
    ⟨(some 21), .faddr 2 (.t 5), (some (20, false)), [], false⟩,
    ⟨(some 22), .load false 1 (.t 21), (some (20, false)), [], false⟩,
    ⟨(some 23), .len .slice (.t 22), (some (20, false)), [], false⟩,
    ⟨(some 24), .bin .gtr .val (.t 23) (.c (.int .i64 0)), (some (20, false)), [], false⟩,
    ⟨(some 25), .pick (.t 20) (.c (.bool true)) (.t 24), none, [], false⟩] [25] false)
  (.cond (.t 25)
   (.region [
     ⟨(some 26), .mov (.t 3), none, [], false⟩,
     ⟨(some 27), .faddr 2 (.t 5), none, [], false⟩,
     ⟨(some 28), .load false 1 (.t 27), none, [], false⟩,
     ⟨(some 29), .call (.c (.fn n_term_depth [] [])) [(.t 28)], none, [], false⟩,
     ⟨(some 30), .bin .add .val (.c (.int .i64 1)) (.t 29), none, [], false⟩,
     ⟨(some 31), .mm .max [(.t 26), (.t 30)], none, [], false⟩,
     ⟨(some 3), .mov (.t 31), none, [], false⟩] [3] false)
   .skip))))
 (.region [
   ⟨(some 32), .bin .add .val (.t 8) (.c (.int .i64 1)), none, [], false⟩,
   ⟨(some 8), .mov (.t 32), none, [], false⟩] [8] false))))
def b_term_depth : ICode :=
 (.seq
 (.region [
   ⟨(some 2), .mov (.c (.int .i64 0)), none, [], false⟩] [2] false)
 (.seq
 (.region [
   ⟨(some 3), .mov (.c (.int .i64 0)), none, [], false⟩] [3] false)
 (.seq
 (.seq
 (.region [
   ⟨(some 6), .mov (.t 0), none, [], false⟩,
   ⟨(some 7), .len .slice (.t 6), none, [], false⟩,
   ⟨(some 8), .mov (.c (.int .i64 0)), none, [], false⟩] [6, 7, 8] false)
 (.block 0
  (.loop [0, 2, 5, 9, 25] l0_term_depth)))
 (.seq
 (.region [
   ⟨(some 33), .mov (.t 3), none, [], false⟩,
   ⟨(some 2), .mov (.t 33), none, [], false⟩] [2] false)
 .ret))))
def F_term_depth : IFn := ⟨1, b_term_depth, [.t 2], .pure⟩
def v_term_depth : List Nat := [0, 2, 3, 5, 6, 7, 8, 9, 25]

/- chiasmus/term.right -/
def b_term_right : ICode :=
 (.seq
 (.region [
   ⟨(some 1), .box 3 (.t 0), none, [], false⟩,
   ⟨(some 2), .mov (.c (.bool false)), none, [], false⟩] [1, 2] false)
 (.seq
 (.seq
 (.region [
   ⟨(some 3), .faddr 0 (.t 1), none, [], false⟩,
   ⟨(some 4), .load false 1 (.t 3), none, [], false⟩] [4] false)
 (.block 0
  (.seq
  (.region [
    ⟨(some 6), .bin .eql .val (.t 4) (.c (.int .i64 4)), none, [], false⟩,
    ⟨(some 5), .mov (.t 6), none, [], false⟩] [5] false)
  (.cond (.t 5)
   (.seq
   (.region [
     ⟨(some 7), .faddr 1 (.t 1), none, [], false⟩,
     ⟨(some 8), .load false 1 (.t 7), none, [], false⟩,
     ⟨(some 9), .bin .eql .val (.t 8) (.c (.str [])), none, [], false⟩,
     ⟨(some 2), .mov (.t 9), none, [], false⟩] [2] false)
   .ret)
   (.seq
   (.region [
     ⟨(some 11), .bin .eql .val (.t 4) (.c (.int .i64 8)), none, [], false⟩,
     ⟨(some 10), .mov (.t 11), none, [], false⟩] [10] false)
   (.cond (.t 10)
    (.seq
    (.region [
      ⟨(some 12), .faddr 1 (.t 1), none, [], false⟩,
      ⟨(some 13), .load false 1 (.t 12), none, [], false⟩,
      ⟨(some 14), .call (.c (.fn n_term_identifier [] [])) [(.t 13), (.c (.int .i64 40))], none, [], false⟩,
      ⟨(some 2), .mov (.t 14), none, [], false⟩] [2] false)
    .ret)
    .skip))))))
 (.seq
 (.seq
 (.region [
   ⟨(some 15), .faddr 2 (.t 1), none, [], false⟩,
   ⟨(some 16), .load false 1 (.t 15), none, [], false⟩,
   ⟨(some 17), .len .slice (.t 16), none, [], false⟩,
   ⟨(some 18), .bin .gtr .val (.t 17) (.c (.int .i64 0)), none, [], false⟩] [18] false)
 (.cond (.t 18)
  (.seq
  (.region [
    ⟨(some 2), .mov (.c (.bool false)), none, [], false⟩] [2] false)
  .ret)
  .skip))
 (.seq
 (.seq
 (.region [
   ⟨(some 19), .faddr 0 (.t 1), none, [], false⟩,
   ⟨(some 20), .load false 1 (.t 19), none, [], false⟩] [20] false)
 (.block 1
  (.seq
  (.region [
    ⟨(some 22), .bin .eql .val (.t 20) (.c (.int .i64 1)), none, [], false⟩,
    ⟨(some 21), .mov (.t 22), none, [], false⟩] [21] false)
  (.cond (.t 21)
   (.seq
   (.region [
     ⟨(some 23), .faddr 1 (.t 1), none, [], false⟩,
     ⟨(some 24), .load false 1 (.t 23), none, [], false⟩,
     ⟨(some 25), .len .str (.t 24), none, [], false⟩,
     ⟨(some 26), .bin .eql .val (.t 25) (.c (.int .i64 1)), none, [], false⟩,
     ⟨(some 2), .mov (.t 26), none, [], false⟩] [2] false)
   .ret)
   (.seq
   (.region [
     ⟨(some 28), .bin .eql .val (.t 20) (.c (.int .i64 2)), none, [], false⟩,
     ⟨(some 27), .mov (.t 28), none, [], false⟩] [27] false)
   (.cond (.t 27)
    (.seq
    (.region [
      ⟨(some 29), .faddr 1 (.t 1), none, [], false⟩,
      ⟨(some 30), .load false 1 (.t 29), none, [], false⟩,
      ⟨(some 31), .bin .neq .val (.t 30) (.c (.str [])), none, [], false⟩,
      ⟨(some 32), .mov (.t 31), none, [], false⟩,
      ⟨(some 33), .faddr 1 (.t 1), (some (32, true)), [], false⟩,
      ⟨(some 34), .load false 1 (.t 33), (some (32, true)), [], false⟩,
      ⟨(some 35), .len .str (.t 34), (some (32, true)), [], false⟩,
      ⟨(some 36), .bin .leq .val (.t 35) (.c (.int .i64 60)), (some (32, true)), [], false⟩,
      ⟨(some 37), .pick (.t 32) (.t 36) (.c (.bool false)), none, [], false⟩,
      ⟨(some 38), .mov (.t 37), none, [], false⟩,
      ⟨(some 39), .faddr 1 (.t 1), (some (38, true)), [], false⟩,
      ⟨(some 40), .load false 1 (.t 39), (some (38, true)), [], false⟩,
      ⟨(some 41), .call (.c (.fn n_strings_ContainsFunc [] [])) [(.t 40), (.c (.fn n_term_right_1 [] []))], (some (38, true)), [], false⟩,
      ⟨(some 42), .un .not (.t 41), (some (38, true)), [], false⟩,
      ⟨(some 43), .pick (.t 38) (.t 42) (.c (.bool false)), none, [], false⟩,
      ⟨(some 2), .mov (.t 43), none, [], false⟩] [2] false)
    .ret)
    (.seq
    (.region [
      ⟨(some 45), .bin .eql .val (.t 20) (.c (.int .i64 3)), none, [], false⟩,
      ⟨(some 44), .mov (.t 45), none, [], false⟩] [44] false)
    (.cond (.t 44)
     (.seq
     (.region [
       ⟨(some 46), .faddr 1 (.t 1), none, [], false⟩,
       ⟨(some 47), .load false 1 (.t 46), none, [], false⟩,
       ⟨(some 48), .call (.c (.fn n_term_isNumber [] [])) [(.t 47)], none, [], false⟩,
       ⟨(some 2), .mov (.t 48), none, [], false⟩] [2] false)
     .ret)
     (.seq
     (.seq
     (.region [
       ⟨(some 50), .bin .eql .val (.t 20) (.c (.int .i64 5)), none, [], false⟩,
       ⟨(some 49), .mov (.t 50), none, [], false⟩] [49] false)
     (.cond (.t 49)
      .skip
      (.seq
      (.region [
        ⟨(some 51), .bin .eql .val (.t 20) (.c (.int .i64 6)), none, [], false⟩,
        ⟨(some 49), .mov (.t 51), none, [], false⟩] [49] false)
      (.cond (.t 49)
       .skip
       (.region [
         ⟨(some 52), .bin .eql .val (.t 20) (.c (.int .i64 7)), none, [], false⟩,
         ⟨(some 49), .mov (.t 52), none, [], false⟩] [49] false)))))
     (.cond (.t 49)
      (.seq
      (.region [
        ⟨(some 53), .faddr 1 (.t 1), none, [], false⟩,
        ⟨(some 54), .load false 1 (.t 53), none, [], false⟩,
        ⟨(some 55), .bin .neq .val (.t 54) (.c (.str [])), none, [], false⟩,
        ⟨(some 56), .mov (.t 55), none, [], false⟩,
        ⟨(some 57), .faddr 1 (.t 1), (some (56, true)), [], false⟩,
        ⟨(some 58), .load false 1 (.t 57), (some (56, true)), [], false⟩,
        ⟨(some 59), .len .str (.t 58), (some (56, true)), [], false⟩,
        ⟨(some 60), .bin .leq .val (.t 59) (.c (.int .i64 40)), (some (56, true)), [], false⟩,
        ⟨(some 61), .pick (.t 56) (.t 60) (.c (.bool false)), none, [], false⟩,
        ⟨(some 62), .mov (.t 61), none, [], false⟩,
        ⟨(some 63), .faddr 1 (.t 1), (some (62, true)), [], false⟩,
        ⟨(some 64), .load false 1 (.t 63), (some (62, true)), [], false⟩,
        ⟨(some 65), .call (.c (.fn n_term_every [] [])) [(.t 64), (.c (.int .u8 3))], (some (62, true)), [], false⟩,
        ⟨(some 66), .pick (.t 62) (.t 65) (.c (.bool false)), none, [], false⟩,
        ⟨(some 2), .mov (.t 66), none, [], false⟩] [2] false)
      .ret)
      .skip))))))))))
 (.seq
 (.region [
   ⟨(some 2), .mov (.c (.bool false)), none, [], false⟩] [2] false)
 .ret)))))
def F_term_right : IFn := ⟨1, b_term_right, [.t 2], .pure⟩
def v_term_right : List Nat := [0, 1, 2, 4, 5, 10, 18, 20, 21, 27, 44, 49]

/- chiasmus/format.some -/
def b_format_some : ICode :=
 (.seq
 (.region [
   ⟨(some 0), .alloc [.int .i64 0, .str [], .sl .nil 3 []], none, [], false⟩] [0] false)
 (.seq
 (.region [
   ⟨(some 1), .build [.int .i64 0, .str [], .sl .nil 3 []] [(0, 1, (.c (.int .i64 7)))], none, [], false⟩,
   ⟨none, .store 3 (.t 0) (.t 1), none, [], false⟩] [] false)
 .ret))
def F_format_some : IFn := ⟨0, b_format_some, [.cell 0 true 3], .pure⟩
def v_format_some : List Nat := [0]

/- chiasmus/format.merged -/
def l0_format_merged : ICode :=
 (.block 1
  (.seq
  (.region [
    ⟨(some 11), .faddr 2 (.t 3), none, [], false⟩,
    ⟨(some 12), .load false 1 (.t 11), none, [], false⟩,
    ⟨(some 13), .call (.c (.fn n_format_split [] [])) [(.t 12)], none, [], false⟩,
    ⟨(some 4), .alloc [.bool false, .sl .nil 3 [], .sl .nil 3 []], none, [], false⟩,
    ⟨none, .store 3 (.t 4) (.t 13), none, [], false⟩] [4] false)
  (.seq
  (.seq
  (.region [
    ⟨(some 14), .faddr 0 (.t 4), none, [], false⟩,
    ⟨(some 15), .load false 1 (.t 14), none, [], false⟩,
    ⟨(some 16), .un .not (.t 15), none, [], false⟩] [16] false)
  (.cond (.t 16)
   (.seq
   (.region [
     ⟨(some 17), .load true 3 (.t 3), none, [], false⟩,
     ⟨(some 18), .call (.c (.fn n__format_list__all [] [])) [(.t 17)], none, [], false⟩,
     ⟨(some 2), .mov (.t 18), none, [], false⟩] [2] false)
   .ret)
   .skip))
  (.region [
    ⟨(some 19), .faddr 2 (.t 4), none, [], false⟩,
    ⟨(some 20), .load false 1 (.t 19), none, [], false⟩,
    ⟨(some 21), .faddr 2 (.t 3), none, [], false⟩,
    ⟨none, .store 1 (.t 21) (.t 20), none, [], false⟩] [] false))))
def b_format_merged : ICode :=
 (.seq
 (.region [
   ⟨(some 2), .mov (.c (.sl .nil 3 [])), none, [], false⟩] [2] false)
 (.seq
 (.region [
   ⟨(some 5), .mov (.t 0), none, [], false⟩,
   ⟨(some 6), .call (.c (.fn n_format_split [] [])) [(.t 5)], none, [], false⟩,
   ⟨(some 3), .alloc [.bool false, .sl .nil 3 [], .sl .nil 3 []], none, [], false⟩,
   ⟨none, .store 3 (.t 3) (.t 6), none, [], false⟩] [3] false)
 (.seq
 (.seq
 (.region [
   ⟨(some 7), .faddr 0 (.t 3), none, [], false⟩,
   ⟨(some 8), .load false 1 (.t 7), none, [], false⟩,
   ⟨(some 9), .un .not (.t 8), none, [], false⟩] [9] false)
 (.cond (.t 9)
  (.seq
  (.region [
    ⟨(some 10), .mov (.t 0), none, [], false⟩,
    ⟨(some 2), .mov (.t 10), none, [], false⟩] [2] false)
  .ret)
  .skip))
 (.block 0
  (.loop [0, 2, 4, 9, 16] l0_format_merged)))))
def F_format_merged : IFn := ⟨1, b_format_merged, [.t 2], .pure⟩
def v_format_merged : List Nat := [0, 2, 3, 4, 9, 16]

/- slices.Backward[[]chiasmus/format.Format,chiasmus/format.Format] -/
def b_slices_Backward___format_Format_format_Format_ : ICode :=
 (.seq
 (.region [
   ⟨(some 1), .box 1 (.t 0), none, [], false⟩,
   ⟨(some 2), .mov (.c (.nilf)), none, [], false⟩] [1, 2] false)
 (.seq
 (.region [
   ⟨(some 3), .mkfn n_slices_Backward___format_Format_format_Format__1 [] [(.t 1)], none, [], false⟩,
   ⟨(some 2), .mov (.t 3), none, [], false⟩] [2] false)
 .ret))
def F_slices_Backward___format_Format_format_Format_ : IFn := ⟨1, b_slices_Backward___format_Format_format_Format_, [.t 2], .eff⟩
def v_slices_Backward___format_Format_format_Format_ : List Nat := [0, 1, 2]

/- slices.EqualFunc[[]chiasmus/api.Term,[]chiasmus/api.Term,chiasmus/api.Term,chiasmus/api.Term] -/
def l0_slices_EqualFunc___api_Term___api_Term_api_Term_api_Term_ : ICode :=
 (.seq
 (.region [
   ⟨(some 18), .bin .lss .val (.t 17) (.t 16), none, [], false⟩] [18] false)
 (.seq
 (.cond (.t 18)
  .skip
  (.exit 0))
 (.seq
 (.block 1
  (.seq
  (.region [
    ⟨(some 19), .mov (.t 17), none, [], false⟩,
    ⟨(some 20), .iaddr 3 (.t 15) (.t 17), none, [], false⟩,
    ⟨(some 21), .load true 3 (.t 20), none, [], false⟩,
    ⟨(some 8), .alloc [.int .i64 0, .str [], .sl .nil 3 []], none, [], false⟩,
    ⟨(some 7), .mov (.t 19), none, [], false⟩,
    ⟨none, .store 3 (.t 8) (.t 21), none, [], false⟩] [8, 7] false)
  (.seq
  (.region [
    ⟨(some 22), .mov (.t 1), none, [], false⟩,
    ⟨(some 23), .mov (.t 7), none, [], false⟩,
    ⟨(some 24), .iaddr 3 (.t 22) (.t 23), none, [], false⟩,
    ⟨(some 25), .load true 3 (.t 24), none, [], false⟩,
    ⟨(some 9), .alloc [.int .i64 0, .str [], .sl .nil 3 []], none, [], false⟩,
    ⟨none, .store 3 (.t 9) (.t 25), none, [], false⟩] [9] false)
  (.seq
  (.region [
    ⟨(some 26), .mov (.t 2), none, [], false⟩,
    ⟨(some 27), .load true 3 (.t 8), none, [], false⟩,
    ⟨(some 28), .load true 3 (.t 9), none, [], false⟩,
    ⟨(some 29), .call (.t 26) [(.t 27), (.t 28)], none, [], false⟩,
    ⟨(some 30), .un .not (.t 29), none, [], false⟩] [30] false)
  (.cond (.t 30)
   (.seq
   (.region [
     ⟨(some 6), .mov (.c (.bool false)), none, [], false⟩] [6] false)
   .ret)
   .skip)))))
 (.region [
   ⟨(some 31), .bin .add .val (.t 17) (.c (.int .i64 1)), none, [], false⟩,
   ⟨(some 17), .mov (.t 31), none, [], false⟩] [17] false))))
def b_slices_EqualFunc___api_Term___api_Term_api_Term_api_Term_ : ICode :=
 (.seq
 (.region [
   ⟨(some 6), .mov (.c (.bool false)), none, [], false⟩] [6] false)
 (.seq
 (.seq
 (.region [
   ⟨(some 10), .mov (.t 0), none, [], false⟩,
   ⟨(some 11), .len .slice (.t 10), none, [], false⟩,
   ⟨(some 12), .mov (.t 1), none, [], false⟩,
   ⟨(some 13), .len .slice (.t 12), none, [], false⟩,
   ⟨(some 14), .bin .neq .val (.t 11) (.t 13), none, [], false⟩] [14] false)
 (.cond (.t 14)
  (.seq
  (.region [
    ⟨(some 6), .mov (.c (.bool false)), none, [], false⟩] [6] false)
  .ret)
  .skip))
 (.seq
 (.seq
 (.region [
   ⟨(some 15), .mov (.t 0), none, [], false⟩,
   ⟨(some 16), .len .slice (.t 15), none, [], false⟩,
   ⟨(some 17), .mov (.c (.int .i64 0)), none, [], false⟩] [15, 16, 17] false)
 (.block 0
  (.loop [0, 6, 7, 8, 9, 14, 18, 30] l0_slices_EqualFunc___api_Term___api_Term_api_Term_api_Term_)))
 (.seq
 (.region [
   ⟨(some 6), .mov (.c (.bool true)), none, [], false⟩] [6] false)
 .ret))))
def F_slices_EqualFunc___api_Term___api_Term_api_Term_api_Term_ : IFn := ⟨3, b_slices_EqualFunc___api_Term___api_Term_api_Term_api_Term_, [.t 6], .pure⟩
def v_slices_EqualFunc___api_Term___api_Term_api_Term_api_Term_ : List Nat := [0, 1, 2, 6, 7, 8, 9, 14, 15, 16, 17, 18, 30]

/- chiasmus/format.inside -/
def b_format_inside : ICode :=
 (.seq
 (.region [
   ⟨(some 2), .box 3 (.t 0), none, [], false⟩,
   ⟨(some 3), .box 3 (.t 1), none, [], false⟩,
   ⟨(some 4), .mov (.c (.bool false)), none, [], false⟩] [2, 3, 4] false)
 (.seq
 (.seq
 (.region [
   ⟨(some 5), .faddr 0 (.t 3), none, [], false⟩,
   ⟨(some 6), .load false 1 (.t 5), none, [], false⟩] [6] false)
 (.block 0
  (.seq
  (.region [
    ⟨(some 8), .bin .eql .val (.t 6) (.c (.int .i64 6)), none, [], false⟩,
    ⟨(some 7), .mov (.t 8), none, [], false⟩] [7] false)
  (.cond (.t 7)
   (.seq
   (.region [
     ⟨(some 4), .mov (.c (.bool true)), none, [], false⟩] [4] false)
   .ret)
   (.seq
   (.region [
     ⟨(some 10), .bin .eql .val (.t 6) (.c (.int .i64 5)), none, [], false⟩,
     ⟨(some 9), .mov (.t 10), none, [], false⟩] [9] false)
   (.cond (.t 9)
    (.seq
    (.region [
      ⟨(some 11), .faddr 0 (.t 2), none, [], false⟩,
      ⟨(some 12), .load false 1 (.t 11), none, [], false⟩,
      ⟨(some 13), .bin .eql .val (.t 12) (.c (.int .i64 5)), none, [], false⟩,
      ⟨(some 4), .mov (.t 13), none, [], false⟩] [4] false)
    .ret)
    .skip))))))
 (.seq
 (.region [
   ⟨(some 14), .faddr 0 (.t 2), none, [], false⟩,
   ⟨(some 15), .load false 1 (.t 14), none, [], false⟩,
   ⟨(some 16), .bin .eql .val (.t 15) (.c (.int .i64 4)), none, [], false⟩,
   ⟨(some 17), .mov (.t 16), none, [], false⟩,
   ⟨(some 18), .faddr 2 (.t 2), (some (17, true)), [], false⟩,
   ⟨(some 19), .load false 1 (.t 18), (some (17, true)), [], false⟩,
   ⟨(some 20), .faddr 2 (.t 3), (some (17, true)), [], false⟩,
   ⟨(some 21), .load false 1 (.t 20), (some (17, true)), [], false⟩,
   ⟨(some 22), .call (.c (.fn n_format_within [] [])) [(.t 19), (.t 21)], (some (17, true)), [], false⟩,
   ⟨(some 23), .pick (.t 17) (.t 22) (.c (.bool false)), none, [], false⟩,
   ⟨(some 4), .mov (.t 23), none, [], false⟩] [4] false)
 .ret)))
def F_format_inside : IFn := ⟨2, b_format_inside, [.t 4], .pure⟩
def v_format_inside : List Nat := [0, 1, 2, 3, 4, 6, 7, 9]

/- slices.Backward[[]chiasmus/api.Term,chiasmus/api.Term] -/
def b_slices_Backward___api_Term_api_Term_ : ICode :=
 (.seq
 (.region [
   ⟨(some 1), .box 1 (.t 0), none, [], false⟩,
   ⟨(some 2), .mov (.c (.nilf)), none, [], false⟩] [1, 2] false)
 (.seq
 (.region [
   ⟨(some 3), .mkfn n_slices_Backward___api_Term_api_Term__1 [] [(.t 1)], none, [], false⟩,
   ⟨(some 2), .mov (.t 3), none, [], false⟩] [2] false)
 .ret))
def F_slices_Backward___api_Term_api_Term_ : IFn := ⟨1, b_slices_Backward___api_Term_api_Term_, [.t 2], .eff⟩
def v_slices_Backward___api_Term_api_Term_ : List Nat := [0, 1, 2]

/- cmp.Compare[int] -/
def b_cmp_Compare_int_ : ICode :=
 (.seq
 (.region [
   ⟨(some 4), .mov (.c (.int .i64 0)), none, [], false⟩] [4] false)
 (.seq
 (.region [
   ⟨(some 7), .mov (.t 0), none, [], false⟩,
   ⟨(some 8), .call (.c (.fn n_cmp_isNaN_int_ [] [])) [(.t 7)], none, [], false⟩,
   ⟨(some 5), .mov (.t 8), none, [], false⟩] [5] false)
 (.seq
 (.region [
   ⟨(some 9), .mov (.t 1), none, [], false⟩,
   ⟨(some 10), .call (.c (.fn n_cmp_isNaN_int_ [] [])) [(.t 9)], none, [], false⟩,
   ⟨(some 6), .mov (.t 10), none, [], false⟩] [6] false)
 (.seq
 (.seq
 (.region [
   ⟨(some 11), .mov (.t 5), none, [], false⟩] [11] false)
 (.cond (.t 11)
  (.seq
  (.seq
  (.region [
    ⟨(some 12), .mov (.t 6), none, [], false⟩] [12] false)
  (.cond (.t 12)
   (.seq
   (.region [
     ⟨(some 4), .mov (.c (.int .i64 0)), none, [], false⟩] [4] false)
   .ret)
   .skip))
  (.seq
  (.region [
    ⟨(some 4), .mov (.c (.int .i64 (-1))), none, [], false⟩] [4] false)
  .ret))
  .skip))
 (.seq
 (.seq
 (.region [
   ⟨(some 13), .mov (.t 6), none, [], false⟩] [13] false)
 (.cond (.t 13)
  (.seq
  (.region [
    ⟨(some 4), .mov (.c (.int .i64 1)), none, [], false⟩] [4] false)
  .ret)
  .skip))
 (.seq
 (.seq
 (.region [
   ⟨(some 14), .mov (.t 0), none, [], false⟩,
   ⟨(some 15), .mov (.t 1), none, [], false⟩,
   ⟨(some 16), .bin .lss .val (.t 14) (.t 15), none, [], false⟩] [16] false)
 (.cond (.t 16)
  (.seq
  (.region [
    ⟨(some 4), .mov (.c (.int .i64 (-1))), none, [], false⟩] [4] false)
  .ret)
  .skip))
 (.seq
 (.seq
 (.region [
   ⟨(some 17), .mov (.t 0), none, [], false⟩,
   ⟨(some 18), .mov (.t 1), none, [], false⟩,
   ⟨(some 19), .bin .gtr .val (.t 17) (.t 18), none, [], false⟩] [19] false)
 (.cond (.t 19)
  (.seq
  (.region [
    ⟨(some 4), .mov (.c (.int .i64 1)), none, [], false⟩] [4] false)
  .ret)
  .skip))
 (.seq
 (.region [
   ⟨(some 4), .mov (.c (.int .i64 0)), none, [], false⟩] [4] false)
 .ret))))))))
def F_cmp_Compare_int_ : IFn := ⟨2, b_cmp_Compare_int_, [.t 4], .pure⟩
def v_cmp_Compare_int_ : List Nat := [0, 1, 4, 5, 6, 11, 12, 13, 16, 19]

/- cmp.Compare[string] -/
def b_cmp_Compare_string_ : ICode :=
 (.seq
 (.region [
   ⟨(some 4), .mov (.c (.int .i64 0)), none, [], false⟩] [4] false)
 (.seq
 (.region [
   ⟨(some 7), .mov (.t 0), none, [], false⟩,
   ⟨(some 8), .call (.c (.fn n_cmp_isNaN_string_ [] [])) [(.t 7)], none, [], false⟩,
   ⟨(some 5), .mov (.t 8), none, [], false⟩] [5] false)
 (.seq
 (.region [
   ⟨(some 9), .mov (.t 1), none, [], false⟩,
   ⟨(some 10), .call (.c (.fn n_cmp_isNaN_string_ [] [])) [(.t 9)], none, [], false⟩,
   ⟨(some 6), .mov (.t 10), none, [], false⟩] [6] false)
 (.seq
 (.seq
 (.region [
   ⟨(some 11), .mov (.t 5), none, [], false⟩] [11] false)
 (.cond (.t 11)
  (.seq
  (.seq
  (.region [
    ⟨(some 12), .mov (.t 6), none, [], false⟩] [12] false)
  (.cond (.t 12)
   (.seq
   (.region [
     ⟨(some 4), .mov (.c (.int .i64 0)), none, [], false⟩] [4] false)
   .ret)
   .skip))
  (.seq
  (.region [
    ⟨(some 4), .mov (.c (.int .i64 (-1))), none, [], false⟩] [4] false)
  .ret))
  .skip))
 (.seq
 (.seq
 (.region [
   ⟨(some 13), .mov (.t 6), none, [], false⟩] [13] false)
 (.cond (.t 13)
  (.seq
  (.region [
    ⟨(some 4), .mov (.c (.int .i64 1)), none, [], false⟩] [4] false)
  .ret)
  .skip))
 (.seq
 (.seq
 (.region [
   ⟨(some 14), .mov (.t 0), none, [], false⟩,
   ⟨(some 15), .mov (.t 1), none, [], false⟩,
   ⟨(some 16), .bin .lss .val (.t 14) (.t 15), none, [], false⟩] [16] false)
 (.cond (.t 16)
  (.seq
  (.region [
    ⟨(some 4), .mov (.c (.int .i64 (-1))), none, [], false⟩] [4] false)
  .ret)
  .skip))
 (.seq
 (.seq
 (.region [
   ⟨(some 17), .mov (.t 0), none, [], false⟩,
   ⟨(some 18), .mov (.t 1), none, [], false⟩,
   ⟨(some 19), .bin .gtr .val (.t 17) (.t 18), none, [], false⟩] [19] false)
 (.cond (.t 19)
  (.seq
  (.region [
    ⟨(some 4), .mov (.c (.int .i64 1)), none, [], false⟩] [4] false)
  .ret)
  .skip))
 (.seq
 (.region [
   ⟨(some 4), .mov (.c (.int .i64 0)), none, [], false⟩] [4] false)
 .ret))))))))
def F_cmp_Compare_string_ : IFn := ⟨2, b_cmp_Compare_string_, [.t 4], .pure⟩
def v_cmp_Compare_string_ : List Nat := [0, 1, 4, 5, 6, 11, 12, 13, 16, 19]

/- strconv.Itoa -/
def b_strconv_Itoa : ICode :=
 (.seq
 (.region [
   ⟨(some 2), .mov (.c (.str [])), none, [], false⟩] [2] false)
 (.seq
 (.region [
   ⟨(some 3), .mov (.t 0), none, [], false⟩,
   ⟨(some 4), .call (.c (.fn n_internal_strconv_Itoa [] [])) [(.t 3)], none, [], false⟩,
   ⟨(some 2), .mov (.t 4), none, [], false⟩] [2] false)
 .ret))
def F_strconv_Itoa : IFn := ⟨1, b_strconv_Itoa, [.t 2], .pure⟩
def v_strconv_Itoa : List Nat := [0, 2]

/- chiasmus/format.split$1 -/
def b_format_split_1 : ICode :=
 (.seq
 (.region [
   ⟨(some 1), .box 3 (.t 0), none, [], false⟩,
   ⟨(some 2), .mov (.c (.bool false)), none, [], false⟩] [1, 2] false)
 (.seq
 (.region [
   ⟨(some 3), .faddr 0 (.t 1), none, [], false⟩,
   ⟨(some 4), .load false 1 (.t 3), none, [], false⟩,
   ⟨(some 5), .bin .eql .val (.t 4) (.c (.int .i64 7)), none, [], false⟩,
   ⟨(some 2), .mov (.t 5), none, [], false⟩] [2] false)
 .ret))
def F_format_split_1 : IFn := ⟨1, b_format_split_1, [.t 2], .pure⟩
def v_format_split_1 : List Nat := [0, 1, 2]

/- slices.IndexFunc[[]chiasmus/api.Term,chiasmus/api.Term] -/
def l0_slices_IndexFunc___api_Term_api_Term_ : ICode :=
 (.seq
 (.region [
   ⟨(some 9), .bin .lss .val (.t 8) (.t 7), none, [], false⟩] [9] false)
 (.seq
 (.cond (.t 9)
  .skip
  (.exit 0))
 (.seq
 (.block 1
  (.seq
  (.region [
    ⟨(some 10), .mov (.t 8), none, [], false⟩,
    ⟨(some 5), .mov (.t 10), none, [], false⟩] [5] false)
  (.seq
  (.region [
    ⟨(some 11), .mov (.t 1), none, [], false⟩,
    ⟨(some 12), .mov (.t 0), none, [], false⟩,
    ⟨(some 13), .mov (.t 5), none, [], false⟩,
    ⟨(some 14), .iaddr 3 (.t 12) (.t 13), none, [], false⟩,
    ⟨(some 15), .load true 3 (.t 14), none, [], false⟩,
    ⟨(some 16), .call (.t 11) [(.t 15)], none, [], false⟩] [16] false)
  (.cond (.t 16)
   (.seq
   (.region [
     ⟨(some 17), .mov (.t 5), none, [], false⟩,
     ⟨(some 4), .mov (.t 17), none, [], false⟩] [4] false)
   .ret)
   .skip))))
 (.region [
   ⟨(some 18), .bin .add .val (.t 8) (.c (.int .i64 1)), none, [], false⟩,
   ⟨(some 8), .mov (.t 18), none, [], false⟩] [8] false))))
def b_slices_IndexFunc___api_Term_api_Term_ : ICode :=
 (.seq
 (.region [
   ⟨(some 4), .mov (.c (.int .i64 0)), none, [], false⟩] [4] false)
 (.seq
 (.seq
 (.region [
   ⟨(some 6), .mov (.t 0), none, [], false⟩,
   ⟨(some 7), .len .slice (.t 6), none, [], false⟩,
   ⟨(some 8), .mov (.c (.int .i64 0)), none, [], false⟩] [7, 8] false)
 (.block 0
  (.loop [4, 5, 9, 16] l0_slices_IndexFunc___api_Term_api_Term_)))
 (.seq
 (.region [
   ⟨(some 4), .mov (.c (.int .i64 (-1))), none, [], false⟩] [4] false)
 .ret)))
def F_slices_IndexFunc___api_Term_api_Term_ : IFn := ⟨2, b_slices_IndexFunc___api_Term_api_Term_, [.t 4], .pure⟩
def v_slices_IndexFunc___api_Term_api_Term_ : List Nat := [0, 1, 4, 5, 7, 8, 9, 16]

/- slices.Clone[[]chiasmus/api.Term,chiasmus/api.Term] -/
def b_slices_Clone___api_Term_api_Term_ : ICode :=
 (.seq
 (.region [
   ⟨(some 2), .mov (.c (.sl .nil 3 [])), none, [], false⟩] [2] false)
 (.seq
 (.seq
 (.region [
   ⟨(some 3), .mov (.t 0), none, [], false⟩,
   ⟨(some 4), .bin .eql .slice (.t 3) (.c (.sl .nil 3 [])), none, [], false⟩] [4] false)
 (.cond (.t 4)
  (.seq
  (.region [
    ⟨(some 2), .mov (.c (.sl .nil 3 [])), none, [], false⟩] [2] false)
  .ret)
  .skip))
 (.seq
 (.region [
   ⟨(some 5), .bslice 3 [.int .i64 0, .str [], .sl .nil 3 []] 0 [], none, [], false⟩,
   ⟨(some 6), .mov (.t 0), none, [], false⟩,
   ⟨(some 7), .app 3 (.t 5) (.t 6), none, [], false⟩,
   ⟨(some 2), .mov (.t 7), none, [], false⟩] [2] false)
 .ret)))
def F_slices_Clone___api_Term_api_Term_ : IFn := ⟨1, b_slices_Clone___api_Term_api_Term_, [.t 2], .pure⟩
def v_slices_Clone___api_Term_api_Term_ : List Nat := [0, 2, 4]

/- slices.Concat[[]chiasmus/api.Term,chiasmus/api.Term] -/
def l0_slices_Concat___api_Term_api_Term_ : ICode :=
 (.seq
 (.region [
   ⟨(some 12), .bin .lss .val (.t 11) (.t 10), none, [], false⟩] [12] false)
 (.seq
 (.cond (.t 12)
  .skip
  (.exit 0))
 (.seq
 (.block 1
  (.seq
  (.region [
    ⟨(some 13), .iaddr 1 (.t 9) (.t 11), none, [], false⟩,
    ⟨(some 14), .load false 1 (.t 13), none, [], false⟩,
    ⟨(some 5), .mov (.t 14), none, [], false⟩] [5] false)
  (.seq
  (.region [
    ⟨(some 15), .mov (.t 3), none, [], false⟩,
    ⟨(some 16), .mov (.t 5), none, [], false⟩,
    ⟨(some 17), .len .slice (.t 16), none, [], false⟩,
    ⟨(some 18), .bin .add .val (.t 15) (.t 17), none, [], false⟩,
    ⟨(some 3), .mov (.t 18), none, [], false⟩] [3] false)
  (.seq
  (.region [
    ⟨(some 19), .mov (.t 3), none, [], false⟩,
    ⟨(some 20), .bin .lss .val (.t 19) (.c (.int .i64 0)), none, [], false⟩] [20] false)
  (.cond (.t 20)
   (.region [
     ⟨(some 21), .mkif 9 (.c (.str [108, 101, 110, 32, 111, 117, 116, 32, 111, 102, 32, 114, 97, 110, 103, 101])), none, [], false⟩,
     ⟨none, .panic (.t 21), none, [], false⟩] [] false)
   .skip)))))
 (.region [
   ⟨(some 22), .bin .add .val (.t 11) (.c (.int .i64 1)), none, [], false⟩,
   ⟨(some 11), .mov (.t 22), none, [], false⟩] [11] false))))
def l1_slices_Concat___api_Term_api_Term_ : ICode :=
 (.seq
 (.region [
   ⟨(some 28), .bin .lss .val (.t 27) (.t 26), none, [], false⟩] [28] false)
 (.seq
 (.cond (.t 28)
  .skip
  (.exit 2))
 (.seq
 (.block 3
  (.seq
  (.region [
    ⟨(some 29), .iaddr 1 (.t 25) (.t 27), none, [], false⟩,
    ⟨(some 30), .load false 1 (.t 29), none, [], false⟩,
    ⟨(some 8), .mov (.t 30), none, [], false⟩] [8] false)
  (.region [
    ⟨(some 31), .mov (.t 6), none, [], false⟩,
    ⟨(some 32), .mov (.t 8), none, [], false⟩,
    ⟨(some 33), .app 3 (.t 31) (.t 32), none, [], false⟩,
    ⟨(some 6), .mov (.t 33), none, [], false⟩] [6] false)))
 (.region [
   ⟨(some 34), .bin .add .val (.t 27) (.c (.int .i64 1)), none, [], false⟩,
   ⟨(some 27), .mov (.t 34), none, [], false⟩] [27] false))))
def b_slices_Concat___api_Term_api_Term_ : ICode :=
 (.seq
 (.region [
   ⟨(some 2), .mov (.c (.sl .nil 3 [])), none, [], false⟩] [2] false)
 (.seq
 (.region [
   ⟨(some 3), .mov (.c (.int .i64 0)), none, [], false⟩] [3] false)
 (.seq
 (.seq
 (.region [
   ⟨(some 9), .mov (.t 0), none, [], false⟩,
   ⟨(some 10), .len .slice (.t 9), none, [], false⟩,
   ⟨(some 11), .mov (.c (.int .i64 0)), none, [], false⟩] [9, 10, 11] false)
 (.block 0
  (.loop [2, 5, 6, 8, 12, 20, 25, 26, 27, 28] l0_slices_Concat___api_Term_api_Term_)))
 (.seq
 (.region [
   ⟨(some 23), .mov (.t 3), none, [], false⟩,
   ⟨(some 24), .call (.c (.fn n_slices_Grow___api_Term_api_Term_ [] [])) [(.c (.sl .nil 3 [])), (.t 23)], none, [], false⟩,
   ⟨(some 6), .mov (.t 24), none, [], false⟩] [6] false)
 (.seq
 (.seq
 (.region [
   ⟨(some 25), .mov (.t 0), none, [], false⟩,
   ⟨(some 26), .len .slice (.t 25), none, [], false⟩,
   ⟨(some 27), .mov (.c (.int .i64 0)), none, [], false⟩] [25, 26, 27] false)
 (.block 2
  (.loop [0, 2, 3, 5, 8, 9, 10, 11, 12, 20, 28] l1_slices_Concat___api_Term_api_Term_)))
 (.seq
 (.region [
   ⟨(some 35), .mov (.t 6), none, [], false⟩,
   ⟨(some 2), .mov (.t 35), none, [], false⟩] [2] false)
 .ret))))))
def F_slices_Concat___api_Term_api_Term_ : IFn := ⟨1, b_slices_Concat___api_Term_api_Term_, [.t 2], .pure⟩
def v_slices_Concat___api_Term_api_Term_ : List Nat := [0, 2, 3, 5, 6, 8, 9, 10, 11, 12, 20, 25, 26, 27, 28]

/- chiasmus/term.all$1 -/
def b_term_all_1 : ICode :=
 (.seq
 (.region [
   ⟨(some 2), .box 1 (.t 0), none, [], false⟩] [2] false)
 (.seq
 (.region [
   ⟨(some 3), .alloc [.nilf], none, [], false⟩] [3] false)
 (.seq
 (.region [
   ⟨(some 4), .mkfn n_term_all_1_1 [] [(.t 2), (.t 3)], none, [], false⟩,
   ⟨none, .store 1 (.t 3) (.t 4), none, [], false⟩] [] false)
 (.region [
   ⟨(some 5), .load false 1 (.t 3), none, [], false⟩,
   ⟨(some 6), .load false 1 (.t 1), none, [], false⟩,
   ⟨(some 7), .call (.t 5) [(.t 6)], none, [], false⟩] [] false))))
def F_term_all_1 : IFn := ⟨2, b_term_all_1, [], .eff⟩
def v_term_all_1 : List Nat := [0, 1, 2, 3]

/- chiasmus/term.all$1$1 -/
def l0_term_all_1_1 : ICode :=
 (.seq
 (.region [
   ⟨(some 10), .bin .lss .val (.t 9) (.t 8), none, [], false⟩] [10] false)
 (.seq
 (.cond (.t 10)
  .skip
  (.exit 0))
 (.seq
 (.block 1
  (.seq
  (.region [
    ⟨(some 11), .iaddr 3 (.t 7) (.t 9), none, [], false⟩,
    ⟨(some 12), .load true 3 (.t 11), none, [], false⟩,
    ⟨(some 6), .alloc [.int .i64 0, .str [], .sl .nil 3 []], none, [], false⟩,
    ⟨none, .store 3 (.t 6) (.t 12), none, [], false⟩] [6] false)
  (.seq
  (.region [
    ⟨(some 13), .load false 1 (.t 1), none, [], false⟩,
    ⟨(some 14), .load true 3 (.t 6), none, [], false⟩,
    ⟨(some 15), .call (.t 13) [(.t 14)], none, [], false⟩,
    ⟨(some 16), .un .not (.t 15), none, [], false⟩,
    ⟨(some 17), .mov (.t 16), none, [], false⟩,
    ⟨(some 18), .load false 1 (.t 2), (some (17, false)), [], false⟩,
    ⟨(some 19), .faddr 2 (.t 6), (some (17, false)), [], false⟩,
    ⟨(some 20), .load false 1 (.t 19), (some (17, false)), [], false⟩,
    ⟨(some 21), .call (.t 18) [(.t 20)], (some (17, false)), [], false⟩,
    ⟨(some 22), .un .not (.t 21), (some (17, false)), [], false⟩,
    ⟨(some 23), .pick (.t 17) (.c (.bool true)) (.t 22), none, [], false⟩] [23] false)
  (.cond (.t 23)
   (.seq
   (.region [
     ⟨(some 4), .mov (.c (.bool false)), none, [], false⟩] [4] false)
   .ret)
   .skip))))
 (.region [
   ⟨(some 24), .bin .add .val (.t 9) (.c (.int .i64 1)), none, [], false⟩,
   ⟨(some 9), .mov (.t 24), none, [], false⟩] [9] false))))
def b_term_all_1_1 : ICode :=
 (.seq
 (.region [
   ⟨(some 4), .mov (.c (.bool false)), none, [], false⟩] [4] false)
 (.seq
 (.seq
 (.region [
   ⟨(some 7), .mov (.t 0), none, [], false⟩,
   ⟨(some 8), .len .slice (.t 7), none, [], false⟩,
   ⟨(some 9), .mov (.c (.int .i64 0)), none, [], false⟩] [7, 8, 9] false)
 (.block 0
  (.loop [0, 4, 6, 10, 23] l0_term_all_1_1)))
 (.seq
 (.region [
   ⟨(some 4), .mov (.c (.bool true)), none, [], false⟩] [4] false)
 .ret)))
def F_term_all_1_1 : IFn := ⟨3, b_term_all_1_1, [.t 4], .eff⟩
def v_term_all_1_1 : List Nat := [0, 1, 2, 4, 6, 7, 8, 9, 10, 23]

/- chiasmus/term.identifier -/
def b_term_identifier : ICode :=
 (.seq
 (.region [
   ⟨(some 4), .mov (.c (.bool false)), none, [], false⟩] [4] false)
 (.seq
 (.region [
   ⟨(some 5), .mov (.t 0), none, [], false⟩,
   ⟨(some 6), .bin .neq .val (.t 5) (.c (.str [])), none, [], false⟩,
   ⟨(some 7), .mov (.t 6), none, [], false⟩,
   ⟨(some 8), .mov (.t 0), (some (7, true)), [], false⟩,
   ⟨(some 9), .len .str (.t 8), (some (7, true)), [], false⟩,
   ⟨(some 10), .mov (.t 1), (some (7, true)), [], false⟩,
   ⟨(some 11), .bin .leq .val (.t 9) (.t 10), (some (7, true)), [], false⟩,
   ⟨(some 12), .pick (.t 7) (.t 11) (.c (.bool false)), none, [], false⟩,
   ⟨(some 13), .mov (.t 12), none, [], false⟩,
   ⟨(some 14), .mov (.t 0), (some (13, true)), [], false⟩,
   ⟨(some 15), .index (.t 14) (.c (.int .i64 0)), (some (13, true)), [], false⟩,
   ⟨(some 16), .call (.c (.fn n_term_is [] [])) [(.t 15), (.c (.int .u8 1))], (some (13, true)), [], false⟩,
   ⟨(some 17), .pick (.t 13) (.t 16) (.c (.bool false)), none, [], false⟩,
   ⟨(some 18), .mov (.t 17), none, [], false⟩,
   ⟨(some 19), .mov (.t 0), (some (18, true)), [], false⟩,
   ⟨(some 20), .call (.c (.fn n_term_every [] [])) [(.t 19), (.c (.int .u8 4))], (some (18, true)), [], false⟩,
   ⟨(some 21), .pick (.t 18) (.t 20) (.c (.bool false)), none, [], false⟩,
   ⟨(some 4), .mov (.t 21), none, [], false⟩] [4] false)
 .ret))
def F_term_identifier : IFn := ⟨2, b_term_identifier, [.t 4], .pure⟩
def v_term_identifier : List Nat := [0, 1, 4]

/- strings.ContainsFunc -/
def b_strings_ContainsFunc : ICode :=
 (.seq
 (.region [
   ⟨(some 4), .mov (.c (.bool false)), none, [], false⟩] [4] false)
 (.seq
 (.region [
   ⟨(some 5), .mov (.t 0), none, [], false⟩,
   ⟨(some 6), .mov (.t 1), none, [], false⟩,
   ⟨(some 7), .call (.c (.fn n_strings_IndexFunc [] [])) [(.t 5), (.t 6)], none, [], false⟩,
   ⟨(some 8), .bin .geq .val (.t 7) (.c (.int .i64 0)), none, [], false⟩,
   ⟨(some 4), .mov (.t 8), none, [], false⟩] [4] false)
 .ret))
def F_strings_ContainsFunc : IFn := ⟨2, b_strings_ContainsFunc, [.t 4], .pure⟩
def v_strings_ContainsFunc : List Nat := [0, 1, 4]

/- chiasmus/term.right$1 -/
def b_term_right_1 : ICode :=
 (.seq
 (.region [
   ⟨(some 2), .mov (.c (.bool false)), none, [], false⟩] [2] false)
 (.seq
 (.region [
   ⟨(some 3), .mov (.t 0), none, [], false⟩,
   ⟨(some 4), .bin .lss .val (.t 3) (.c (.int .i32 32)), none, [], false⟩,
   ⟨(some 5), .mov (.t 4), none, [], false⟩,
   ⟨(some 6), .mov (.t 0), (some (5, false)), [], false⟩,
   ⟨(some 7), .bin .gtr .val (.t 6) (.c (.int .i32 126)), (some (5, false)), [], false⟩,
   ⟨(some 8), .pick (.t 5) (.c (.bool true)) (.t 7), none, [], false⟩,
   ⟨(some 2), .mov (.t 8), none, [], false⟩] [2] false)
 .ret))
def F_term_right_1 : IFn := ⟨1, b_term_right_1, [.t 2], .pure⟩
def v_term_right_1 : List Nat := [0, 2]

/- chiasmus/term.isNumber -/
def b_term_isNumber : ICode :=
 (.seq
 (.region [
   ⟨(some 2), .mov (.c (.bool false)), none, [], false⟩] [2] false)
 (.seq
 (.region [
   ⟨(some 6), .mov (.t 0), none, [], false⟩,
   ⟨(some 7), .call (.c (.fn n_strings_CutPrefix [] [])) [(.t 6), (.c (.str [45]))], none, [], false⟩,
   ⟨(some 5), .mov (.t 7), none, [], false⟩,
   ⟨(some 8), .ext (.t 5) 0, none, [], false⟩,
   ⟨(some 9), .ext (.t 5) 1, none, [], false⟩,
   ⟨(some 3), .mov (.t 8), none, [], false⟩,
   ⟨(some 4), .mov (.t 9), none, [], false⟩] [3, 4] false)
 (.seq
 (.seq
 (.region [
   ⟨(some 10), .mov (.t 3), none, [], false⟩,
   ⟨(some 11), .bin .eql .val (.t 10) (.c (.str [])), none, [], false⟩,
   ⟨(some 12), .mov (.t 11), none, [], false⟩,
   ⟨(some 13), .mov (.t 3), (some (12, false)), [], false⟩,
   ⟨(some 14), .len .str (.t 13), (some (12, false)), [], false⟩,
   ⟨(some 15), .bin .gtr .val (.t 14) (.c (.int .i64 500)), (some (12, false)), [], false⟩,
   ⟨(some 16), .pick (.t 12) (.c (.bool true)) (.t 15), none, [], false⟩,
   ⟨(some 17), .mov (.t 16), none, [], false⟩,
   ⟨(some 18), .mov (.t 3), (some (17, false)), [], false⟩,
   ⟨(some 19), .call (.c (.fn n_term_every [] [])) [(.t 18), (.c (.int .u8 2))], (some (17, false)), [], false⟩,
   ⟨(some 20), .un .not (.t 19), (some (17, false)), [], false⟩,
   ⟨(some 21), .pick (.t 17) (.c (.bool true)) (.t 20), none, [], false⟩] [21] false)
 (.cond (.t 21)
  (.seq
  (.region [
    ⟨(some 2), .mov (.c (.bool false)), none, [], false⟩] [2] false)
  .ret)
  .skip))
 (.seq
 (.region [
   ⟨(some 22), .mov (.t 3), none, [], false⟩,
   ⟨(some 23), .index (.t 22) (.c (.int .i64 0)), none, [], false⟩,
   ⟨(some 24), .bin .neq .val (.t 23) (.c (.int .u8 48)), none, [], false⟩,
   ⟨(some 25), .mov (.t 24), none, [], false⟩,
   ⟨(some 26), .mov (.t 3), (some (25, false)), [], false⟩,
   ⟨(some 27), .len .str (.t 26), (some (25, false)), [], false⟩,
   ⟨(some 28), .bin .eql .val (.t 27) (.c (.int .i64 1)), (some (25, false)), [], false⟩,
   ⟨(some 29), .mov (.t 28), (some (25, false)), [], false⟩,
   ⟨(some 30), .mov (.t 4), (some (29, true)), [], false⟩,
   ⟨(some 31), .un .not (.t 30), (some (29, true)), [], false⟩,
   ⟨(some 32), .pick (.t 29) (.t 31) (.c (.bool false)), (some (25, false)), [], false⟩,
   ⟨(some 33), .pick (.t 25) (.c (.bool true)) (.t 32), none, [], false⟩,
   ⟨(some 2), .mov (.t 33), none, [], false⟩] [2] false)
 .ret))))
def F_term_isNumber : IFn := ⟨1, b_term_isNumber, [.t 2], .pure⟩
def v_term_isNumber : List Nat := [0, 2, 3, 4, 21]

/- chiasmus/term.every -/
def l0_term_every : ICode :=
 (.seq
 (.region [
   ⟨(some 9), .bin .lss .val (.t 8) (.t 7), none, [], false⟩] [9] false)
 (.seq
 (.cond (.t 9)
  .skip
  (.exit 0))
 (.seq
 (.block 1
  (.seq
  (.region [
    ⟨(some 10), .mov (.t 8), none, [], false⟩,
    ⟨(some 5), .mov (.t 10), none, [], false⟩] [5] false)
  (.seq
  (.region [
    ⟨(some 11), .mov (.t 0), none, [], false⟩,
    ⟨(some 12), .mov (.t 5), none, [], false⟩,
    ⟨(some 13), .index (.t 11) (.t 12), none, [], false⟩,
    ⟨(some 14), .mov (.t 1), none, [], false⟩,
    ⟨(some 15), .call (.c (.fn n_term_is [] [])) [(.t 13), (.t 14)], none, [], false⟩,
    ⟨(some 16), .un .not (.t 15), none, [], false⟩] [16] false)
  (.cond (.t 16)
   (.seq
   (.region [
     ⟨(some 4), .mov (.c (.bool false)), none, [], false⟩] [4] false)
   .ret)
   .skip))))
 (.region [
   ⟨(some 17), .bin .add .val (.t 8) (.c (.int .i64 1)), none, [], false⟩,
   ⟨(some 8), .mov (.t 17), none, [], false⟩] [8] false))))
def b_term_every : ICode :=
 (.seq
 (.region [
   ⟨(some 4), .mov (.c (.bool false)), none, [], false⟩] [4] false)
 (.seq
 (.seq
 (.region [
   ⟨(some 6), .mov (.t 0), none, [], false⟩,
   ⟨(some 7), .len .str (.t 6), none, [], false⟩,
   ⟨(some 8), .mov (.c (.int .i64 0)), none, [], false⟩] [7, 8] false)
 (.block 0
  (.loop [4, 5, 9, 16] l0_term_every)))
 (.seq
 (.region [
   ⟨(some 4), .mov (.c (.bool true)), none, [], false⟩] [4] false)
 .ret)))
def F_term_every : IFn := ⟨2, b_term_every, [.t 4], .pure⟩
def v_term_every : List Nat := [0, 1, 4, 5, 7, 8, 9, 16]

/- slices.Backward[[]chiasmus/format.Format,chiasmus/format.Format]$1 -/
def l0_slices_Backward___format_Format_format_Format__1 : ICode :=
 (.seq
 (.seq
 (.region [
   ⟨(some 7), .mov (.t 3), none, [], false⟩,
   ⟨(some 8), .bin .geq .val (.t 7) (.c (.int .i64 0)), none, [], false⟩] [8] false)
 (.cond (.t 8)
  .skip
  (.exit 0)))
 (.seq
 (.block 1
  (.seq
  (.region [
    ⟨(some 11), .mov (.t 0), none, [], false⟩,
    ⟨(some 12), .mov (.t 3), none, [], false⟩,
    ⟨(some 13), .load false 1 (.t 1), none, [], false⟩,
    ⟨(some 14), .mov (.t 3), none, [], false⟩,
    ⟨(some 15), .iaddr 5 (.t 13) (.t 14), none, [], false⟩,
    ⟨(some 16), .load true 5 (.t 15), none, [], false⟩,
    ⟨(some 17), .call (.t 11) [(.t 12), (.t 16)], none, [], false⟩,
    ⟨(some 18), .un .not (.t 17), none, [], false⟩] [18] false)
  (.cond (.t 18)
   .ret
   .skip)))
 (.region [
   ⟨(some 9), .mov (.t 3), none, [], false⟩,
   ⟨(some 10), .bin .sub .val (.t 9) (.c (.int .i64 1)), none, [], false⟩,
   ⟨(some 3), .mov (.t 10), none, [], false⟩] [3] false)))
def b_slices_Backward___format_Format_format_Format__1 : ICode :=
 (.seq
 (.region [
   ⟨(some 4), .load false 1 (.t 1), none, [], false⟩,
   ⟨(some 5), .len .slice (.t 4), none, [], false⟩,
   ⟨(some 6), .bin .sub .val (.t 5) (.c (.int .i64 1)), none, [], false⟩,
   ⟨(some 3), .mov (.t 6), none, [], false⟩] [3] false)
 (.block 0
  (.loop [8, 18] l0_slices_Backward___format_Format_format_Format__1)))
def F_slices_Backward___format_Format_format_Format__1 : IFn := ⟨2, b_slices_Backward___format_Format_format_Format__1, [], .eff⟩
def v_slices_Backward___format_Format_format_Format__1 : List Nat := [0, 1, 3, 8, 18]

/- slices.Backward[[]chiasmus/api.Term,chiasmus/api.Term]$1 -/
def l0_slices_Backward___api_Term_api_Term__1 : ICode :=
 (.seq
 (.seq
 (.region [
   ⟨(some 7), .mov (.t 3), none, [], false⟩,
   ⟨(some 8), .bin .geq .val (.t 7) (.c (.int .i64 0)), none, [], false⟩] [8] false)
 (.cond (.t 8)
  .skip
  (.exit 0)))
 (.seq
 (.block 1
  (.seq
  (.region [
    ⟨(some 11), .mov (.t 0), none, [], false⟩,
    ⟨(some 12), .mov (.t 3), none, [], false⟩,
    ⟨(some 13), .load false 1 (.t 1), none, [], false⟩,
    ⟨(some 14), .mov (.t 3), none, [], false⟩,
    ⟨(some 15), .iaddr 3 (.t 13) (.t 14), none, [], false⟩,
    ⟨(some 16), .load true 3 (.t 15), none, [], false⟩,
    ⟨(some 17), .call (.t 11) [(.t 12), (.t 16)], none, [], false⟩,
    ⟨(some 18), .un .not (.t 17), none, [], false⟩] [18] false)
  (.cond (.t 18)
   .ret
   .skip)))
 (.region [
   ⟨(some 9), .mov (.t 3), none, [], false⟩,
   ⟨(some 10), .bin .sub .val (.t 9) (.c (.int .i64 1)), none, [], false⟩,
   ⟨(some 3), .mov (.t 10), none, [], false⟩] [3] false)))
def b_slices_Backward___api_Term_api_Term__1 : ICode :=
 (.seq
 (.region [
   ⟨(some 4), .load false 1 (.t 1), none, [], false⟩,
   ⟨(some 5), .len .slice (.t 4), none, [], false⟩,
   ⟨(some 6), .bin .sub .val (.t 5) (.c (.int .i64 1)), none, [], false⟩,
   ⟨(some 3), .mov (.t 6), none, [], false⟩] [3] false)
 (.block 0
  (.loop [8, 18] l0_slices_Backward___api_Term_api_Term__1)))
def F_slices_Backward___api_Term_api_Term__1 : IFn := ⟨2, b_slices_Backward___api_Term_api_Term__1, [], .eff⟩
def v_slices_Backward___api_Term_api_Term__1 : List Nat := [0, 1, 3, 8, 18]

/- cmp.isNaN[int] -/
def b_cmp_isNaN_int_ : ICode :=
 (.seq
 (.region [
   ⟨(some 2), .mov (.c (.bool false)), none, [], false⟩] [2] false)
 (.seq
 (.region [
   ⟨(some 3), .mov (.t 0), none, [], false⟩,
   ⟨(some 4), .mov (.t 0), none, [], false⟩,
   ⟨(some 5), .bin .neq .val (.t 3) (.t 4), none, [], false⟩,
   ⟨(some 2), .mov (.t 5), none, [], false⟩] [2] false)
 .ret))
def F_cmp_isNaN_int_ : IFn := ⟨1, b_cmp_isNaN_int_, [.t 2], .pure⟩
def v_cmp_isNaN_int_ : List Nat := [0, 2]

/- cmp.isNaN[string] -/
def b_cmp_isNaN_string_ : ICode :=
 (.seq
 (.region [
   ⟨(some 2), .mov (.c (.bool false)), none, [], false⟩] [2] false)
 (.seq
 (.region [
   ⟨(some 3), .mov (.t 0), none, [], false⟩,
   ⟨(some 4), .mov (.t 0), none, [], false⟩,
   ⟨(some 5), .bin .neq .val (.t 3) (.t 4), none, [], false⟩,
   ⟨(some 2), .mov (.t 5), none, [], false⟩] [2] false)
 .ret))
def F_cmp_isNaN_string_ : IFn := ⟨1, b_cmp_isNaN_string_, [.t 2], .pure⟩
def v_cmp_isNaN_string_ : List Nat := [0, 2]

/- internal/strconv.Itoa -/
def b_internal_strconv_Itoa : ICode :=
 (.seq
 (.region [
   ⟨(some 2), .mov (.c (.str [])), none, [], false⟩] [2] false)
 (.seq
 (.region [
   ⟨(some 3), .mov (.t 0), none, [], false⟩,
   ⟨(some 4), .call (.c (.fn n_internal_strconv_FormatInt [] [])) [(.t 3), (.c (.int .i64 10))], none, [], false⟩,
   ⟨(some 2), .mov (.t 4), none, [], false⟩] [2] false)
 .ret))
def F_internal_strconv_Itoa : IFn := ⟨1, b_internal_strconv_Itoa, [.t 2], .pure⟩
def v_internal_strconv_Itoa : List Nat := [0, 2]

/- slices.Grow[[]chiasmus/api.Term,chiasmus/api.Term] -/
def b_slices_Grow___api_Term_api_Term_ : ICode :=
 (.seq
 (.region [
   ⟨(some 4), .mov (.c (.sl .nil 3 [])), none, [], false⟩] [4] false)
 (.seq
 (.seq
 (.region [
   ⟨(some 5), .mov (.t 1), none, [], false⟩,
   ⟨(some 6), .bin .lss .val (.t 5) (.c (.int .i64 0)), none, [], false⟩] [6] false)
 (.cond (.t 6)
  (.region [
    ⟨(some 7), .mkif 9 (.c (.str [99, 97, 110, 110, 111, 116, 32, 98, 101, 32, 110, 101, 103, 97, 116, 105, 118, 101])), none, [], false⟩,
    ⟨none, .panic (.t 7), none, [], false⟩] [] false)
  .skip))
 (.seq
 (.seq
 (.region [
   ⟨(some 8), .mov (.t 1), none, [], false⟩,
   ⟨(some 9), .mov (.t 0), none, [], false⟩,
   ⟨(some 10), .cap (.t 9), none, [], false⟩,
   ⟨(some 11), .mov (.t 0), none, [], false⟩,
   ⟨(some 12), .len .slice (.t 11), none, [], false⟩,
   ⟨(some 13), .bin .sub .val (.t 10) (.t 12), none, [], false⟩,
   ⟨(some 14), .bin .sub .val (.t 8) (.t 13), none, [], false⟩,
   ⟨(some 1), .mov (.t 14), none, [], false⟩] [1] false)
 (.seq
 (.region [
   ⟨(some 15), .mov (.t 1), none, [], false⟩,
   ⟨(some 16), .bin .gtr .val (.t 15) (.c (.int .i64 0)), none, [], false⟩] [16] false)
 (.cond (.t 16)
  (.region [
    ⟨(some 17), .mov (.t 0), none, [], false⟩,
    ⟨(some 18), .mov (.t 0), none, [], false⟩,
    ⟨(some 19), .cap (.t 18), none, [], false⟩,
    ⟨(some 20), .slice 3 (.t 17) none (some (.t 19)) none, none, [], false⟩,
    ⟨(some 21), .mov (.t 1), none, [], false⟩,
    ⟨(some 22), .appz 3 (.t 20) (.t 21), none, [], false⟩,
    ⟨(some 23), .mov (.t 0), none, [], false⟩,
    ⟨(some 24), .len .slice (.t 23), none, [], false⟩,
    ⟨(some 25), .slice 3 (.t 22) none (some (.t 24)) none, none, [], false⟩,
    ⟨(some 0), .mov (.t 25), none, [], false⟩] [0] false)
  .skip)))
 (.seq
 (.region [
   ⟨(some 26), .mov (.t 0), none, [], false⟩,
   ⟨(some 4), .mov (.t 26), none, [], false⟩] [4] false)
 .ret))))
def F_slices_Grow___api_Term_api_Term_ : IFn := ⟨2, b_slices_Grow___api_Term_api_Term_, [.t 4], .keep⟩
def v_slices_Grow___api_Term_api_Term_ : List Nat := [0, 1, 4, 6, 16]

/- chiasmus/term.is -/
def b_term_is : ICode :=
 (.seq
 (.region [
   ⟨(some 4), .mov (.c (.bool false)), none, [], false⟩] [4] false)
 (.seq
 (.region [
   ⟨(some 5), .mov (.t 0), none, [], false⟩,
   ⟨(some 6), .call (.c (.fn n_term_classOf [] [])) [(.t 5)], none, [], false⟩,
   ⟨(some 7), .mov (.t 1), none, [], false⟩,
   ⟨(some 8), .bin .and .val (.t 6) (.t 7), none, [], false⟩,
   ⟨(some 9), .bin .neq .val (.t 8) (.c (.int .u8 0)), none, [], false⟩,
   ⟨(some 4), .mov (.t 9), none, [], false⟩] [4] false)
 .ret))
def F_term_is : IFn := ⟨2, b_term_is, [.t 4], .pure⟩
def v_term_is : List Nat := [0, 1, 4]

/- strings.IndexFunc -/
def b_strings_IndexFunc : ICode :=
 (.seq
 (.region [
   ⟨(some 4), .mov (.c (.int .i64 0)), none, [], false⟩] [4] false)
 (.seq
 (.region [
   ⟨(some 5), .mov (.t 0), none, [], false⟩,
   ⟨(some 6), .mov (.t 1), none, [], false⟩,
   ⟨(some 7), .call (.c (.fn n_strings_indexFunc [] [])) [(.t 5), (.t 6), (.c (.bool true))], none, [], false⟩,
   ⟨(some 4), .mov (.t 7), none, [], false⟩] [4] false)
 .ret))
def F_strings_IndexFunc : IFn := ⟨2, b_strings_IndexFunc, [.t 4], .pure⟩
def v_strings_IndexFunc : List Nat := [0, 1, 4]

/- strings.CutPrefix -/
def b_strings_CutPrefix : ICode :=
 (.seq
 (.region [
   ⟨(some 4), .mov (.c (.str [])), none, [], false⟩,
   ⟨(some 5), .mov (.c (.bool false)), none, [], false⟩] [4, 5] false)
 (.seq
 (.region [
   ⟨(some 6), .mov (.t 0), none, [], false⟩,
   ⟨(some 7), .mov (.t 1), none, [], false⟩,
   ⟨(some 8), .call (.c (.fn n_internal_stringslite_CutPrefix [] [])) [(.t 6), (.t 7)], none, [], false⟩,
   ⟨(some 9), .ext (.t 8) 0, none, [], false⟩,
   ⟨(some 10), .ext (.t 8) 1, none, [], false⟩,
   ⟨(some 4), .mov (.t 9), none, [], false⟩,
   ⟨(some 5), .mov (.t 10), none, [], false⟩] [4, 5] false)
 .ret))
def F_strings_CutPrefix : IFn := ⟨2, b_strings_CutPrefix, [.t 4, .t 5], .pure⟩
def v_strings_CutPrefix : List Nat := [0, 1, 4, 5]

/- internal/strconv.FormatInt -/
def b_internal_strconv_FormatInt : ICode :=
 (.seq
 (.region [
   ⟨(some 4), .mov (.c (.str [])), none, [], false⟩] [4] false)
 (.seq
 (.seq
 (.region [
   ⟨(some 10), .mov (.t 1), none, [], false⟩,
   ⟨(some 11), .bin .eql .val (.t 10) (.c (.int .i64 10)), none, [], false⟩] [11] false)
 (.cond (.t 11)
  (.seq
  (.seq
  (.region [
    ⟨(some 12), .mov (.t 0), none, [], false⟩,
    ⟨(some 13), .bin .leq .val (.c (.int .i64 0)) (.t 12), none, [], false⟩,
    ⟨(some 14), .mov (.t 13), none, [], false⟩,
    ⟨(some 15), .mov (.t 0), (some (14, true)), [], false⟩,
    ⟨(some 16), .bin .lss .val (.t 15) (.c (.int .i64 100)), (some (14, true)), [], false⟩,
    ⟨(some 17), .pick (.t 14) (.t 16) (.c (.bool false)), none, [], false⟩] [17] false)
  (.cond (.t 17)
   (.seq
   (.region [
     ⟨(some 18), .mov (.t 0), none, [], false⟩,
     ⟨(some 19), .call (.c (.fn n_internal_strconv_small [] [])) [(.t 18)], none, [], false⟩,
     ⟨(some 4), .mov (.t 19), none, [], false⟩] [4] false)
   .ret)
   .skip))
  (.seq
  (.region [
    ⟨(some 5), .alloc [.int .u8 0, .int .u8 0, .int .u8 0, .int .u8 0, .int .u8 0, .int .u8 0, .int .u8 0, .int .u8 0, .int .u8 0, .int .u8 0, .int .u8 0, .int .u8 0, .int .u8 0, .int .u8 0, .int .u8 0, .int .u8 0, .int .u8 0, .int .u8 0, .int .u8 0, .int .u8 0, .int .u8 0, .int .u8 0, .int .u8 0, .int .u8 0], none, [], false⟩] [5] false)
  (.seq
  (.region [
    ⟨(some 20), .mov (.t 0), none, [], false⟩,
    ⟨(some 21), .conv (.int .u64) (.t 20), none, [], false⟩,
    ⟨(some 6), .mov (.t 21), none, [], false⟩] [6] false)
  (.seq
  (.seq
  (.region [
    ⟨(some 22), .mov (.t 0), none, [], false⟩,
    ⟨(some 23), .bin .lss .val (.t 22) (.c (.int .i64 0)), none, [], false⟩] [23] false)
  (.cond (.t 23)
   (.region [
     ⟨(some 24), .mov (.t 6), none, [], false⟩,
     ⟨(some 25), .un .neg (.t 24), none, [], false⟩,
     ⟨(some 6), .mov (.t 25), none, [], false⟩] [6] false)
   .skip))
  (.seq
  (.region [
    ⟨(some 26), .mov (.t 6), none, [], false⟩,
    ⟨(some 27), .call (.c (.fn n_internal_strconv_numDigits [] [])) [(.t 26)], none, [], false⟩,
    ⟨(some 7), .mov (.t 27), none, [], false⟩] [7] false)
  (.seq
  (.region [
    ⟨(some 28), .mov (.t 7), none, [], false⟩,
    ⟨(some 29), .bin .add .val (.c (.int .i64 1)) (.t 28), none, [], false⟩,
    ⟨(some 30), .mkslice 0 [] false (.c .junk) (.c .junk), none, [], false⟩,
    ⟨(some 31), .mov (.t 6), none, [], false⟩,
    ⟨(some 32), .call (.c (.fn n_internal_strconv_formatBase10 [] [])) [(.t 30), (.t 31)], none, [], false⟩] [] false)
  (.seq
  (.seq
  (.region [
    ⟨(some 33), .mov (.t 0), none, [], false⟩,
    ⟨(some 34), .bin .lss .val (.t 33) (.c (.int .i64 0)), none, [], false⟩] [34] false)
  (.cond (.t 34)
   (.seq
   (.region [
     ⟨(some 35), .aaddr 1 24 (.t 5) (.c (.int .i64 0)), none, [], false⟩,
     ⟨none, .store 1 (.t 35) (.c (.int .u8 45)), none, [], false⟩] [] false)
   (.seq
   (.region [
     ⟨(some 36), .mov (.t 7), none, [], false⟩,
     ⟨(some 37), .bin .add .val (.c (.int .i64 1)) (.t 36), none, [], false⟩,
     ⟨(some 38), .mkslice 0 [] false (.c .junk) (.c .junk), none, [], false⟩,
     ⟨(some 39), .conv .bytesStr (.t 38), none, [], false⟩,
     ⟨(some 4), .mov (.t 39), none, [], false⟩] [4] false)
   .ret))
   .skip))
  (.seq
  (.region [
    ⟨(some 40), .mov (.t 7), none, [], false⟩,
    ⟨(some 41), .bin .add .val (.c (.int .i64 1)) (.t 40), none, [], false⟩,
    ⟨(some 42), .mkslice 0 [] false (.c .junk) (.c .junk), none, [], false⟩,
    ⟨(some 43), .conv .bytesStr (.t 42), none, [], false⟩,
    ⟨(some 4), .mov (.t 43), none, [], false⟩] [4] false)
  .ret))))))))
  .skip))
 (.seq
 (.region [
   ⟨(some 45), .mov (.t 0), none, [], false⟩,
   ⟨(some 46), .conv (.int .u64) (.t 45), none, [], false⟩,
   ⟨(some 47), .mov (.t 1), none, [], false⟩,
   ⟨(some 48), .mov (.t 0), none, [], false⟩,
   ⟨(some 49), .bin .lss .val (.t 48) (.c (.int .i64 0)), none, [], false⟩,
   ⟨(some 50), .call (.c (.fn n_internal_strconv_formatBits [] [])) [(.c (.sl .nil 1 [])), (.t 46), (.t 47), (.t 49), (.c (.bool false))], none, [], false⟩,
   ⟨(some 44), .mov (.t 50), none, [], false⟩,
   ⟨(some 51), .ext (.t 44) 0, none, [], false⟩,
   ⟨(some 52), .ext (.t 44) 1, none, [], false⟩,
   ⟨(some 8), .mov (.t 51), none, [], false⟩,
   ⟨(some 9), .mov (.t 52), none, [], false⟩] [9] false)
 (.seq
 (.region [
   ⟨(some 53), .mov (.t 9), none, [], false⟩,
   ⟨(some 4), .mov (.t 53), none, [], false⟩] [4] false)
 .ret))))
def F_internal_strconv_FormatInt : IFn := ⟨2, b_internal_strconv_FormatInt, [.t 4], .pure⟩
def v_internal_strconv_FormatInt : List Nat := [0, 1, 4, 5, 6, 7, 9, 11, 17, 23, 34]

/- chiasmus/term.classOf -/
def b_term_classOf : ICode :=
 (.seq
 (.region [
   ⟨(some 2), .mov (.c (.int .u8 0)), none, [], false⟩] [2] false)
 (.seq
 (.block 0
  (.seq
  (.region [
    ⟨(some 4), .mov (.t 0), none, [], false⟩,
    ⟨(some 5), .bin .geq .val (.t 4) (.c (.int .u8 97)), none, [], false⟩,
    ⟨(some 6), .mov (.t 5), none, [], false⟩,
    ⟨(some 7), .mov (.t 0), (some (6, true)), [], false⟩,
    ⟨(some 8), .bin .leq .val (.t 7) (.c (.int .u8 122)), (some (6, true)), [], false⟩,
    ⟨(some 9), .pick (.t 6) (.t 8) (.c (.bool false)), none, [], false⟩,
    ⟨(some 10), .mov (.t 9), none, [], false⟩,
    ⟨(some 11), .mov (.t 0), (some (10, false)), [], false⟩,
    ⟨(some 12), .bin .geq .val (.t 11) (.c (.int .u8 65)), (some (10, false)), [], false⟩,
    ⟨(some 13), .mov (.t 12), (some (10, false)), [], false⟩,
    ⟨(some 14), .mov (.t 0), (some (13, true)), [], false⟩,
    ⟨(some 15), .bin .leq .val (.t 14) (.c (.int .u8 90)), (some (13, true)), [], false⟩,
    ⟨(some 16), .pick (.t 13) (.t 15) (.c (.bool false)), (some (10, false)), [], false⟩,
    ⟨(some 17), .pick (.t 10) (.c (.bool true)) (.t 16), none, [], false⟩,
    ⟨(some 3), .mov (.t 17), none, [], false⟩] [3] false)
  (.cond (.t 3)
   (.seq
   (.region [
     ⟨(some 2), .mov (.c (.int .u8 5)), none, [], false⟩] [2] false)
   .ret)
   (.seq
   (.region [
     ⟨(some 19), .mov (.t 0), none, [], false⟩,
     ⟨(some 20), .bin .geq .val (.t 19) (.c (.int .u8 48)), none, [], false⟩,
     ⟨(some 21), .mov (.t 20), none, [], false⟩,
     ⟨(some 22), .mov (.t 0), (some (21, true)), [], false⟩,
     ⟨(some 23), .bin .leq .val (.t 22) (.c (.int .u8 57)), (some (21, true)), [], false⟩,
     ⟨(some 24), .pick (.t 21) (.t 23) (.c (.bool false)), none, [], false⟩,
     ⟨(some 18), .mov (.t 24), none, [], false⟩] [18] false)
   (.cond (.t 18)
    (.seq
    (.region [
      ⟨(some 2), .mov (.c (.int .u8 6)), none, [], false⟩] [2] false)
    .ret)
    (.seq
    (.region [
      ⟨(some 26), .mov (.t 0), none, [], false⟩,
      ⟨(some 27), .bin .eql .val (.t 26) (.c (.int .u8 45)), none, [], false⟩,
      ⟨(some 28), .mov (.t 27), none, [], false⟩,
      ⟨(some 29), .mov (.t 0), (some (28, false)), [], false⟩,
      ⟨(some 30), .bin .eql .val (.t 29) (.c (.int .u8 95)), (some (28, false)), [], false⟩,
      ⟨(some 31), .pick (.t 28) (.c (.bool true)) (.t 30), none, [], false⟩,
      ⟨(some 25), .mov (.t 31), none, [], false⟩] [25] false)
    (.cond (.t 25)
     (.seq
     (.region [
       ⟨(some 2), .mov (.c (.int .u8 4)), none, [], false⟩] [2] false)
     .ret)
     (.seq
     (.region [
       ⟨(some 33), .mov (.t 0), none, [], false⟩,
       ⟨(some 34), .bin .eql .val (.t 33) (.c (.int .u8 32)), none, [], false⟩,
       ⟨(some 35), .mov (.t 34), none, [], false⟩,
       ⟨(some 36), .mov (.t 0), (some (35, false)), [], false⟩,
       ⟨(some 37), .bin .eql .val (.t 36) (.c (.int .u8 9)), (some (35, false)), [], false⟩,
       ⟨(some 38), .pick (.t 35) (.c (.bool true)) (.t 37), none, [], false⟩,
       ⟨(some 39), .mov (.t 38), none, [], false⟩,
       ⟨(some 40), .mov (.t 0), (some (39, false)), [], false⟩,
       ⟨(some 41), .bin .eql .val (.t 40) (.c (.int .u8 10)), (some (39, false)), [], false⟩,
       ⟨(some 42), .pick (.t 39) (.c (.bool true)) (.t 41), none, [], false⟩,
       ⟨(some 43), .mov (.t 42), none, [], false⟩,
       ⟨(some 44), .mov (.t 0), (some (43, false)), [], false⟩,
       ⟨(some 45), .bin .eql .val (.t 44) (.c (.int .u8 13)), (some (43, false)), [], false⟩,
       ⟨(some 46), .pick (.t 43) (.c (.bool true)) (.t 45), none, [], false⟩,
       ⟨(some 32), .mov (.t 46), none, [], false⟩] [32] false)
     (.cond (.t 32)
      (.seq
      (.region [
        ⟨(some 2), .mov (.c (.int .u8 8)), none, [], false⟩] [2] false)
      .ret)
      .skip)))))))))
 (.seq
 (.region [
   ⟨(some 2), .mov (.c (.int .u8 0)), none, [], false⟩] [2] false)
 .ret)))
def F_term_classOf : IFn := ⟨1, b_term_classOf, [.t 2], .pure⟩
def v_term_classOf : List Nat := [0, 2, 3, 18, 25, 32]

/- strings.indexFunc -/
def l0_strings_indexFunc : ICode :=
 (.seq
 (.region [
   ⟨(some 11), .nexts (.t 10), none, [], false⟩,
   ⟨(some 12), .ext (.t 11) 0, none, [], false⟩] [11, 12] false)
 (.seq
 (.cond (.t 12)
  .skip
  (.exit 0))
 (.block 1
  (.seq
  (.region [
    ⟨(some 13), .ext (.t 11) 1, none, [], false⟩,
    ⟨(some 14), .ext (.t 11) 2, none, [], false⟩,
    ⟨(some 7), .mov (.t 13), none, [], false⟩,
    ⟨(some 8), .mov (.t 14), none, [], false⟩] [7, 8] false)
  (.seq
  (.region [
    ⟨(some 15), .mov (.t 1), none, [], false⟩,
    ⟨(some 16), .mov (.t 8), none, [], false⟩,
    ⟨(some 17), .call (.t 15) [(.t 16)], none, [], false⟩,
    ⟨(some 18), .mov (.t 2), none, [], false⟩,
    ⟨(some 19), .bin .eql .bool (.t 17) (.t 18), none, [], false⟩] [19] false)
  (.cond (.t 19)
   (.seq
   (.region [
     ⟨(some 20), .mov (.t 7), none, [], false⟩,
     ⟨(some 6), .mov (.t 20), none, [], false⟩] [6] false)
   .ret)
   .skip))))))
def b_strings_indexFunc : ICode :=
 (.seq
 (.region [
   ⟨(some 6), .mov (.c (.int .i64 0)), none, [], false⟩] [6] false)
 (.seq
 (.seq
 (.region [
   ⟨(some 9), .mov (.t 0), none, [], false⟩,
   ⟨(some 10), .ranges (.t 9), none, [], false⟩] [10] false)
 (.block 0
  (.loop [0, 6, 7, 8, 11, 12, 19] l0_strings_indexFunc)))
 (.seq
 (.region [
   ⟨(some 6), .mov (.c (.int .i64 (-1))), none, [], false⟩] [6] false)
 .ret)))
def F_strings_indexFunc : IFn := ⟨3, b_strings_indexFunc, [.t 6], .pure⟩
def v_strings_indexFunc : List Nat := [0, 1, 2, 6, 7, 8, 10, 11, 12, 19]

/- internal/stringslite.CutPrefix -/
def b_internal_stringslite_CutPrefix : ICode :=
 (.seq
 (.region [
   ⟨(some 4), .mov (.c (.str [])), none, [], false⟩,
   ⟨(some 5), .mov (.c (.bool false)), none, [], false⟩] [4, 5] false)
 (.seq
 (.seq
 (.region [
   ⟨(some 6), .mov (.t 0), none, [], false⟩,
   ⟨(some 7), .mov (.t 1), none, [], false⟩,
   ⟨(some 8), .call (.c (.fn n_internal_stringslite_HasPrefix [] [])) [(.t 6), (.t 7)], none, [], false⟩,
   ⟨(some 9), .un .not (.t 8), none, [], false⟩] [9] false)
 (.cond (.t 9)
  (.seq
  (.region [
    ⟨(some 10), .mov (.t 0), none, [], false⟩,
    ⟨(some 4), .mov (.t 10), none, [], false⟩,
    ⟨(some 5), .mov (.c (.bool false)), none, [], false⟩] [4, 5] false)
  .ret)
  .skip))
 (.seq
 (.region [
   ⟨(some 11), .mov (.t 0), none, [], false⟩,
   ⟨(some 12), .mov (.t 1), none, [], false⟩,
   ⟨(some 13), .len .str (.t 12), none, [], false⟩,
   ⟨(some 14), .slice 0 (.t 11) (some (.t 13)) none none, none, [], false⟩,
   ⟨(some 4), .mov (.t 14), none, [], false⟩,
   ⟨(some 5), .mov (.c (.bool true)), none, [], false⟩] [4, 5] false)
 .ret)))
def F_internal_stringslite_CutPrefix : IFn := ⟨2, b_internal_stringslite_CutPrefix, [.t 4, .t 5], .pure⟩
def v_internal_stringslite_CutPrefix : List Nat := [0, 1, 4, 5, 9]

/- internal/strconv.small -/
def b_internal_strconv_small : ICode :=
 (.seq
 (.region [
   ⟨(some 2), .mov (.c (.str [])), none, [], false⟩] [2] false)
 (.seq
 (.seq
 (.region [
   ⟨(some 3), .mov (.t 0), none, [], false⟩,
   ⟨(some 4), .bin .lss .val (.t 3) (.c (.int .i64 10)), none, [], false⟩] [4] false)
 (.cond (.t 4)
  (.seq
  (.region [
    ⟨(some 5), .mov (.t 0), none, [], false⟩,
    ⟨(some 6), .mov (.t 0), none, [], false⟩,
    ⟨(some 7), .bin .add .val (.t 6) (.c (.int .i64 1)), none, [], false⟩,
    ⟨(some 8), .slice 0 (.c (.str [48, 49, 50, 51, 52, 53, 54, 55, 56, 57, 97, 98, 99, 100, 101, 102, 103, 104, 105, 106, 107, 108, 109, 110, 111, 112, 113, 114, 115, 116, 117, 118, 119, 120, 121, 122])) (some (.t 5)) (some (.t 7)) none, none, [], false⟩,
    ⟨(some 2), .mov (.t 8), none, [], false⟩] [2] false)
  .ret)
  .skip))
 (.seq
 (.region [
   ⟨(some 9), .mov (.t 0), none, [], false⟩,
   ⟨(some 10), .bin .mul .val (.t 9) (.c (.int .i64 2)), none, [], false⟩,
   ⟨(some 11), .mov (.t 0), none, [], false⟩,
   ⟨(some 12), .bin .mul .val (.t 11) (.c (.int .i64 2)), none, [], false⟩,
   ⟨(some 13), .bin .add .val (.t 12) (.c (.int .i64 2)), none, [], false⟩,
   ⟨(some 14), .slice 0 (.c (.str [48, 48, 48, 49, 48, 50, 48, 51, 48, 52, 48, 53, 48, 54, 48, 55, 48, 56, 48, 57, 49, 48, 49, 49, 49, 50, 49, 51, 49, 52, 49, 53, 49, 54, 49, 55, 49, 56, 49, 57, 50, 48, 50, 49, 50, 50, 50, 51, 50, 52, 50, 53, 50, 54, 50, 55, 50, 56, 50, 57, 51, 48, 51, 49, 51, 50, 51, 51, 51, 52, 51, 53, 51, 54, 51, 55, 51, 56, 51, 57, 52, 48, 52, 49, 52, 50, 52, 51, 52, 52, 52, 53, 52, 54, 52, 55, 52, 56, 52, 57, 53, 48, 53, 49, 53, 50, 53, 51, 53, 52, 53, 53, 53, 54, 53, 55, 53, 56, 53, 57, 54, 48, 54, 49, 54, 50, 54, 51, 54, 52, 54, 53, 54, 54, 54, 55, 54, 56, 54, 57, 55, 48, 55, 49, 55, 50, 55, 51, 55, 52, 55, 53, 55, 54, 55, 55, 55, 56, 55, 57, 56, 48, 56, 49, 56, 50, 56, 51, 56, 52, 56, 53, 56, 54, 56, 55, 56, 56, 56, 57, 57, 48, 57, 49, 57, 50, 57, 51, 57, 52, 57, 53, 57, 54, 57, 55, 57, 56, 57, 57])) (some (.t 10)) (some (.t 13)) none, none, [], false⟩,
   ⟨(some 2), .mov (.t 14), none, [], false⟩] [2] false)
 .ret)))
def F_internal_strconv_small : IFn := ⟨1, b_internal_strconv_small, [.t 2], .pure⟩
def v_internal_strconv_small : List Nat := [0, 2, 4]

/- internal/stringslite.HasPrefix -/
def b_internal_stringslite_HasPrefix : ICode :=
 (.seq
 (.region [
   ⟨(some 4), .mov (.c (.bool false)), none, [], false⟩] [4] false)
 (.seq
 (.region [
   ⟨(some 5), .mov (.t 0), none, [], false⟩,
   ⟨(some 6), .len .str (.t 5), none, [], false⟩,
   ⟨(some 7), .mov (.t 1), none, [], false⟩,
   ⟨(some 8), .len .str (.t 7), none, [], false⟩,
   ⟨(some 9), .bin .geq .val (.t 6) (.t 8), none, [], false⟩,
   ⟨(some 10), .mov (.t 9), none, [], false⟩,
   ⟨(some 11), .mov (.t 0), (some (10, true)), [], false⟩,
   ⟨(some 12), .mov (.t 1), (some (10, true)), [], false⟩,
   ⟨(some 13), .len .str (.t 12), (some (10, true)), [], false⟩,
   ⟨(some 14), .slice 0 (.t 11) none (some (.t 13)) none, (some (10, true)), [], false⟩,
   ⟨(some 15), .mov (.t 1), (some (10, true)), [], false⟩,
   ⟨(some 16), .bin .eql .val (.t 14) (.t 15), (some (10, true)), [], false⟩,
   ⟨(some 17), .pick (.t 10) (.t 16) (.c (.bool false)), none, [], false⟩,
   ⟨(some 4), .mov (.t 17), none, [], false⟩] [4] false)
 .ret))
def F_internal_stringslite_HasPrefix : IFn := ⟨2, b_internal_stringslite_HasPrefix, [.t 4], .pure⟩
def v_internal_stringslite_HasPrefix : List Nat := [0, 1, 4]

def table : List (Nat × IFn × List Nat) := [
  (n_chiasmuslaw22_FormatOrder, F_chiasmuslaw22_FormatOrder, v_chiasmuslaw22_FormatOrder),
  (n_chiasmuslaw22_FormatValues, F_chiasmuslaw22_FormatValues, v_chiasmuslaw22_FormatValues),
  (n_chiasmuslaw09_Small, F_chiasmuslaw09_Small, v_chiasmuslaw09_Small),
  (n_format_Check, F_format_Check, v_format_Check),
  (n_chiasmuslaw22_awake, F_chiasmuslaw22_awake, v_chiasmuslaw22_awake),
  (n_chiasmuslaw22_inside, F_chiasmuslaw22_inside, v_chiasmuslaw22_inside),
  (n_format_Join, F_format_Join, v_format_Join),
  (n_chiasmusref01_Equal, F_chiasmusref01_Equal, v_chiasmusref01_Equal),
  (n_format_Cut, F_format_Cut, v_format_Cut),
  (n_term_Value, F_term_Value, v_term_Value),
  (n_format_Of, F_format_Of, v_format_Of),
  (n_format_Has, F_format_Has, v_format_Has),
  (n_chiasmuslaw09_nodes, F_chiasmuslaw09_nodes, v_chiasmuslaw09_nodes),
  (n_chiasmuslaw09_short, F_chiasmuslaw09_short, v_chiasmuslaw09_short),
  (n_term_Pattern, F_term_Pattern, v_term_Pattern),
  (n_format_Check_1, F_format_Check_1, v_format_Check_1),
  (n_term_Equal, F_term_Equal, v_term_Equal),
  (n_format_named, F_format_named, v_format_named),
  (n_format_Within, F_format_Within, v_format_Within),
  (n_format_pair, F_format_pair, v_format_pair),
  (n_format_join, F_format_join, v_format_join),
  (n_chiasmusref01_Compare, F_chiasmusref01_Compare, v_chiasmusref01_Compare),
  (n_format_cut, F_format_cut, v_format_cut),
  (n_term_check, F_term_check, v_term_check),
  (n_term_Result, F_term_Result, v_term_Result),
  (n_format_least, F_format_least, v_format_least),
  (n_format_table, F_format_table, v_format_table),
  (n_format_within, F_format_within, v_format_within),
  (n_term_Compare, F_term_Compare, v_term_Compare),
  (n___format_namer__next, F___format_namer__next, v___format_namer__next),
  (n_format_named_1, F_format_named_1, v_format_named_1),
  (n_format_split, F_format_split, v_format_split),
  (n_format_zip, F_format_zip, v_format_zip),
  (n_format_both, F_format_both, v_format_both),
  (n_format_join_1, F_format_join_1, v_format_join_1),
  (n__format_list__all, F__format_list__all, v__format_list__all),
  (n_chiasmusref01_Sign, F_chiasmusref01_Sign, v_chiasmusref01_Sign),
  (n_term_all, F_term_all, v_term_all),
  (n_term_depth, F_term_depth, v_term_depth),
  (n_term_right, F_term_right, v_term_right),
  (n_format_some, F_format_some, v_format_some),
  (n_format_merged, F_format_merged, v_format_merged),
  (n_slices_Backward___format_Format_format_Format_, F_slices_Backward___format_Format_format_Format_, v_slices_Backward___format_Format_format_Format_),
  (n_slices_EqualFunc___api_Term___api_Term_api_Term_api_Term_, F_slices_EqualFunc___api_Term___api_Term_api_Term_api_Term_, v_slices_EqualFunc___api_Term___api_Term_api_Term_api_Term_),
  (n_format_inside, F_format_inside, v_format_inside),
  (n_slices_Backward___api_Term_api_Term_, F_slices_Backward___api_Term_api_Term_, v_slices_Backward___api_Term_api_Term_),
  (n_cmp_Compare_int_, F_cmp_Compare_int_, v_cmp_Compare_int_),
  (n_cmp_Compare_string_, F_cmp_Compare_string_, v_cmp_Compare_string_),
  (n_strconv_Itoa, F_strconv_Itoa, v_strconv_Itoa),
  (n_format_split_1, F_format_split_1, v_format_split_1),
  (n_slices_IndexFunc___api_Term_api_Term_, F_slices_IndexFunc___api_Term_api_Term_, v_slices_IndexFunc___api_Term_api_Term_),
  (n_slices_Clone___api_Term_api_Term_, F_slices_Clone___api_Term_api_Term_, v_slices_Clone___api_Term_api_Term_),
  (n_slices_Concat___api_Term_api_Term_, F_slices_Concat___api_Term_api_Term_, v_slices_Concat___api_Term_api_Term_),
  (n_term_all_1, F_term_all_1, v_term_all_1),
  (n_term_all_1_1, F_term_all_1_1, v_term_all_1_1),
  (n_term_identifier, F_term_identifier, v_term_identifier),
  (n_strings_ContainsFunc, F_strings_ContainsFunc, v_strings_ContainsFunc),
  (n_term_right_1, F_term_right_1, v_term_right_1),
  (n_term_isNumber, F_term_isNumber, v_term_isNumber),
  (n_term_every, F_term_every, v_term_every),
  (n_slices_Backward___format_Format_format_Format__1, F_slices_Backward___format_Format_format_Format__1, v_slices_Backward___format_Format_format_Format__1),
  (n_slices_Backward___api_Term_api_Term__1, F_slices_Backward___api_Term_api_Term__1, v_slices_Backward___api_Term_api_Term__1),
  (n_cmp_isNaN_int_, F_cmp_isNaN_int_, v_cmp_isNaN_int_),
  (n_cmp_isNaN_string_, F_cmp_isNaN_string_, v_cmp_isNaN_string_),
  (n_internal_strconv_Itoa, F_internal_strconv_Itoa, v_internal_strconv_Itoa),
  (n_slices_Grow___api_Term_api_Term_, F_slices_Grow___api_Term_api_Term_, v_slices_Grow___api_Term_api_Term_),
  (n_term_is, F_term_is, v_term_is),
  (n_strings_IndexFunc, F_strings_IndexFunc, v_strings_IndexFunc),
  (n_strings_CutPrefix, F_strings_CutPrefix, v_strings_CutPrefix),
  (n_internal_strconv_FormatInt, F_internal_strconv_FormatInt, v_internal_strconv_FormatInt),
  (n_term_classOf, F_term_classOf, v_term_classOf),
  (n_strings_indexFunc, F_strings_indexFunc, v_strings_indexFunc),
  (n_internal_stringslite_CutPrefix, F_internal_stringslite_CutPrefix, v_internal_stringslite_CutPrefix),
  (n_internal_strconv_small, F_internal_strconv_small, v_internal_strconv_small),
  (n_internal_stringslite_HasPrefix, F_internal_stringslite_HasPrefix, v_internal_stringslite_HasPrefix)]
end Ab.R
