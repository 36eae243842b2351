/- The table's entries by name. MADE BY PROGRAM. No condition. -/
import Derived.Test.YtcbbpkdidkbepaaDoorAb07
import Derived.Test.YtcbbpkdidkbepaaDoorAb06
import Derived.Test.YtcbbpkdidkbepaaDoorAb09
import Derived.Test.YtcbbpkdidkbepaaDoorAb04
import Derived.IntWalk
set_option linter.all false
namespace Ab.R
open Ab
theorem h_chiasmuslaw22_FormatOrder {E : IEnv} (hE : E.fns = Table.fn table) : E.fns n_chiasmuslaw22_FormatOrder = some F_chiasmuslaw22_FormatOrder := by rw [hE]; rfl
theorem h_chiasmuslaw22_FormatValues {E : IEnv} (hE : E.fns = Table.fn table) : E.fns n_chiasmuslaw22_FormatValues = some F_chiasmuslaw22_FormatValues := by rw [hE]; rfl
theorem h_chiasmuslaw09_Small {E : IEnv} (hE : E.fns = Table.fn table) : E.fns n_chiasmuslaw09_Small = some F_chiasmuslaw09_Small := by rw [hE]; rfl
theorem h_format_Check {E : IEnv} (hE : E.fns = Table.fn table) : E.fns n_format_Check = some F_format_Check := by rw [hE]; rfl
theorem h_chiasmuslaw22_awake {E : IEnv} (hE : E.fns = Table.fn table) : E.fns n_chiasmuslaw22_awake = some F_chiasmuslaw22_awake := by rw [hE]; rfl
theorem h_chiasmuslaw22_inside {E : IEnv} (hE : E.fns = Table.fn table) : E.fns n_chiasmuslaw22_inside = some F_chiasmuslaw22_inside := by rw [hE]; rfl
theorem h_format_Join {E : IEnv} (hE : E.fns = Table.fn table) : E.fns n_format_Join = some F_format_Join := by rw [hE]; rfl
theorem h_chiasmusref01_Equal {E : IEnv} (hE : E.fns = Table.fn table) : E.fns n_chiasmusref01_Equal = some F_chiasmusref01_Equal := by rw [hE]; rfl
theorem h_format_Cut {E : IEnv} (hE : E.fns = Table.fn table) : E.fns n_format_Cut = some F_format_Cut := by rw [hE]; rfl
theorem h_term_Value {E : IEnv} (hE : E.fns = Table.fn table) : E.fns n_term_Value = some F_term_Value := by rw [hE]; rfl
theorem h_format_Of {E : IEnv} (hE : E.fns = Table.fn table) : E.fns n_format_Of = some F_format_Of := by rw [hE]; rfl
theorem h_format_Has {E : IEnv} (hE : E.fns = Table.fn table) : E.fns n_format_Has = some F_format_Has := by rw [hE]; rfl
theorem h_chiasmuslaw09_nodes {E : IEnv} (hE : E.fns = Table.fn table) : E.fns n_chiasmuslaw09_nodes = some F_chiasmuslaw09_nodes := by rw [hE]; rfl
theorem h_chiasmuslaw09_short {E : IEnv} (hE : E.fns = Table.fn table) : E.fns n_chiasmuslaw09_short = some F_chiasmuslaw09_short := by rw [hE]; rfl
theorem h_term_Pattern {E : IEnv} (hE : E.fns = Table.fn table) : E.fns n_term_Pattern = some F_term_Pattern := by rw [hE]; rfl
theorem h_format_Check_1 {E : IEnv} (hE : E.fns = Table.fn table) : E.fns n_format_Check_1 = some F_format_Check_1 := by rw [hE]; rfl
theorem h_term_Equal {E : IEnv} (hE : E.fns = Table.fn table) : E.fns n_term_Equal = some F_term_Equal := by rw [hE]; rfl
theorem h_format_named {E : IEnv} (hE : E.fns = Table.fn table) : E.fns n_format_named = some F_format_named := by rw [hE]; rfl
theorem h_format_Within {E : IEnv} (hE : E.fns = Table.fn table) : E.fns n_format_Within = some F_format_Within := by rw [hE]; rfl
theorem h_format_pair {E : IEnv} (hE : E.fns = Table.fn table) : E.fns n_format_pair = some F_format_pair := by rw [hE]; rfl
theorem h_format_join {E : IEnv} (hE : E.fns = Table.fn table) : E.fns n_format_join = some F_format_join := by rw [hE]; rfl
theorem h_chiasmusref01_Compare {E : IEnv} (hE : E.fns = Table.fn table) : E.fns n_chiasmusref01_Compare = some F_chiasmusref01_Compare := by rw [hE]; rfl
theorem h_format_cut {E : IEnv} (hE : E.fns = Table.fn table) : E.fns n_format_cut = some F_format_cut := by rw [hE]; rfl
theorem h_term_check {E : IEnv} (hE : E.fns = Table.fn table) : E.fns n_term_check = some F_term_check := by rw [hE]; rfl
theorem h_term_Result {E : IEnv} (hE : E.fns = Table.fn table) : E.fns n_term_Result = some F_term_Result := by rw [hE]; rfl
theorem h_format_least {E : IEnv} (hE : E.fns = Table.fn table) : E.fns n_format_least = some F_format_least := by rw [hE]; rfl
theorem h_format_table {E : IEnv} (hE : E.fns = Table.fn table) : E.fns n_format_table = some F_format_table := by rw [hE]; rfl
theorem h_format_within {E : IEnv} (hE : E.fns = Table.fn table) : E.fns n_format_within = some F_format_within := by rw [hE]; rfl
theorem h_term_Compare {E : IEnv} (hE : E.fns = Table.fn table) : E.fns n_term_Compare = some F_term_Compare := by rw [hE]; rfl
theorem h___format_namer__next {E : IEnv} (hE : E.fns = Table.fn table) : E.fns n___format_namer__next = some F___format_namer__next := by rw [hE]; rfl
theorem h_format_named_1 {E : IEnv} (hE : E.fns = Table.fn table) : E.fns n_format_named_1 = some F_format_named_1 := by rw [hE]; rfl
theorem h_format_split {E : IEnv} (hE : E.fns = Table.fn table) : E.fns n_format_split = some F_format_split := by rw [hE]; rfl
theorem h_format_zip {E : IEnv} (hE : E.fns = Table.fn table) : E.fns n_format_zip = some F_format_zip := by rw [hE]; rfl
theorem h_format_both {E : IEnv} (hE : E.fns = Table.fn table) : E.fns n_format_both = some F_format_both := by rw [hE]; rfl
theorem h_format_join_1 {E : IEnv} (hE : E.fns = Table.fn table) : E.fns n_format_join_1 = some F_format_join_1 := by rw [hE]; rfl
theorem h__format_list__all {E : IEnv} (hE : E.fns = Table.fn table) : E.fns n__format_list__all = some F__format_list__all := by rw [hE]; rfl
theorem h_chiasmusref01_Sign {E : IEnv} (hE : E.fns = Table.fn table) : E.fns n_chiasmusref01_Sign = some F_chiasmusref01_Sign := by rw [hE]; rfl
theorem h_term_all {E : IEnv} (hE : E.fns = Table.fn table) : E.fns n_term_all = some F_term_all := by rw [hE]; rfl
theorem h_term_depth {E : IEnv} (hE : E.fns = Table.fn table) : E.fns n_term_depth = some F_term_depth := by rw [hE]; rfl
theorem h_term_right {E : IEnv} (hE : E.fns = Table.fn table) : E.fns n_term_right = some F_term_right := by rw [hE]; rfl
theorem h_format_some {E : IEnv} (hE : E.fns = Table.fn table) : E.fns n_format_some = some F_format_some := by rw [hE]; rfl
theorem h_format_merged {E : IEnv} (hE : E.fns = Table.fn table) : E.fns n_format_merged = some F_format_merged := by rw [hE]; rfl
theorem h_slices_Backward___format_Format_format_Format_ {E : IEnv} (hE : E.fns = Table.fn table) : E.fns n_slices_Backward___format_Format_format_Format_ = some F_slices_Backward___format_Format_format_Format_ := by rw [hE]; rfl
theorem h_slices_EqualFunc___api_Term___api_Term_api_Term_api_Term_ {E : IEnv} (hE : E.fns = Table.fn table) : E.fns n_slices_EqualFunc___api_Term___api_Term_api_Term_api_Term_ = some F_slices_EqualFunc___api_Term___api_Term_api_Term_api_Term_ := by rw [hE]; rfl
theorem h_format_inside {E : IEnv} (hE : E.fns = Table.fn table) : E.fns n_format_inside = some F_format_inside := by rw [hE]; rfl
theorem h_slices_Backward___api_Term_api_Term_ {E : IEnv} (hE : E.fns = Table.fn table) : E.fns n_slices_Backward___api_Term_api_Term_ = some F_slices_Backward___api_Term_api_Term_ := by rw [hE]; rfl
theorem h_cmp_Compare_int_ {E : IEnv} (hE : E.fns = Table.fn table) : E.fns n_cmp_Compare_int_ = some F_cmp_Compare_int_ := by rw [hE]; rfl
theorem h_cmp_Compare_string_ {E : IEnv} (hE : E.fns = Table.fn table) : E.fns n_cmp_Compare_string_ = some F_cmp_Compare_string_ := by rw [hE]; rfl
theorem h_strconv_Itoa {E : IEnv} (hE : E.fns = Table.fn table) : E.fns n_strconv_Itoa = some F_strconv_Itoa := by rw [hE]; rfl
theorem h_format_split_1 {E : IEnv} (hE : E.fns = Table.fn table) : E.fns n_format_split_1 = some F_format_split_1 := by rw [hE]; rfl
theorem h_slices_IndexFunc___api_Term_api_Term_ {E : IEnv} (hE : E.fns = Table.fn table) : E.fns n_slices_IndexFunc___api_Term_api_Term_ = some F_slices_IndexFunc___api_Term_api_Term_ := by rw [hE]; rfl
theorem h_slices_Clone___api_Term_api_Term_ {E : IEnv} (hE : E.fns = Table.fn table) : E.fns n_slices_Clone___api_Term_api_Term_ = some F_slices_Clone___api_Term_api_Term_ := by rw [hE]; rfl
theorem h_slices_Concat___api_Term_api_Term_ {E : IEnv} (hE : E.fns = Table.fn table) : E.fns n_slices_Concat___api_Term_api_Term_ = some F_slices_Concat___api_Term_api_Term_ := by rw [hE]; rfl
theorem h_term_all_1 {E : IEnv} (hE : E.fns = Table.fn table) : E.fns n_term_all_1 = some F_term_all_1 := by rw [hE]; rfl
theorem h_term_all_1_1 {E : IEnv} (hE : E.fns = Table.fn table) : E.fns n_term_all_1_1 = some F_term_all_1_1 := by rw [hE]; rfl
theorem h_term_identifier {E : IEnv} (hE : E.fns = Table.fn table) : E.fns n_term_identifier = some F_term_identifier := by rw [hE]; rfl
theorem h_strings_ContainsFunc {E : IEnv} (hE : E.fns = Table.fn table) : E.fns n_strings_ContainsFunc = some F_strings_ContainsFunc := by rw [hE]; rfl
theorem h_term_right_1 {E : IEnv} (hE : E.fns = Table.fn table) : E.fns n_term_right_1 = some F_term_right_1 := by rw [hE]; rfl
theorem h_term_isNumber {E : IEnv} (hE : E.fns = Table.fn table) : E.fns n_term_isNumber = some F_term_isNumber := by rw [hE]; rfl
theorem h_term_every {E : IEnv} (hE : E.fns = Table.fn table) : E.fns n_term_every = some F_term_every := by rw [hE]; rfl
theorem h_slices_Backward___format_Format_format_Format__1 {E : IEnv} (hE : E.fns = Table.fn table) : E.fns n_slices_Backward___format_Format_format_Format__1 = some F_slices_Backward___format_Format_format_Format__1 := by rw [hE]; rfl
theorem h_slices_Backward___api_Term_api_Term__1 {E : IEnv} (hE : E.fns = Table.fn table) : E.fns n_slices_Backward___api_Term_api_Term__1 = some F_slices_Backward___api_Term_api_Term__1 := by rw [hE]; rfl
theorem h_cmp_isNaN_int_ {E : IEnv} (hE : E.fns = Table.fn table) : E.fns n_cmp_isNaN_int_ = some F_cmp_isNaN_int_ := by rw [hE]; rfl
theorem h_cmp_isNaN_string_ {E : IEnv} (hE : E.fns = Table.fn table) : E.fns n_cmp_isNaN_string_ = some F_cmp_isNaN_string_ := by rw [hE]; rfl
theorem h_internal_strconv_Itoa {E : IEnv} (hE : E.fns = Table.fn table) : E.fns n_internal_strconv_Itoa = some F_internal_strconv_Itoa := by rw [hE]; rfl
theorem h_slices_Grow___api_Term_api_Term_ {E : IEnv} (hE : E.fns = Table.fn table) : E.fns n_slices_Grow___api_Term_api_Term_ = some F_slices_Grow___api_Term_api_Term_ := by rw [hE]; rfl
theorem h_term_is {E : IEnv} (hE : E.fns = Table.fn table) : E.fns n_term_is = some F_term_is := by rw [hE]; rfl
theorem h_strings_IndexFunc {E : IEnv} (hE : E.fns = Table.fn table) : E.fns n_strings_IndexFunc = some F_strings_IndexFunc := by rw [hE]; rfl
theorem h_strings_CutPrefix {E : IEnv} (hE : E.fns = Table.fn table) : E.fns n_strings_CutPrefix = some F_strings_CutPrefix := by rw [hE]; rfl
theorem h_internal_strconv_FormatInt {E : IEnv} (hE : E.fns = Table.fn table) : E.fns n_internal_strconv_FormatInt = some F_internal_strconv_FormatInt := by rw [hE]; rfl
theorem h_term_classOf {E : IEnv} (hE : E.fns = Table.fn table) : E.fns n_term_classOf = some F_term_classOf := by rw [hE]; rfl
theorem h_strings_indexFunc {E : IEnv} (hE : E.fns = Table.fn table) : E.fns n_strings_indexFunc = some F_strings_indexFunc := by rw [hE]; rfl
theorem h_internal_stringslite_CutPrefix {E : IEnv} (hE : E.fns = Table.fn table) : E.fns n_internal_stringslite_CutPrefix = some F_internal_stringslite_CutPrefix := by rw [hE]; rfl
theorem h_internal_strconv_small {E : IEnv} (hE : E.fns = Table.fn table) : E.fns n_internal_strconv_small = some F_internal_strconv_small := by rw [hE]; rfl
theorem h_internal_stringslite_HasPrefix {E : IEnv} (hE : E.fns = Table.fn table) : E.fns n_internal_stringslite_HasPrefix = some F_internal_stringslite_HasPrefix := by rw [hE]; rfl
theorem c_chiasmuslaw22_FormatOrder {E : IEnv} (hE : E.fns = Table.fn table) (a c : List AV) : calm E (.fn n_chiasmuslaw22_FormatOrder a c) = true := by simp only [calm, h_chiasmuslaw22_FormatOrder hE, F_chiasmuslaw22_FormatOrder]
theorem c_chiasmuslaw22_FormatValues {E : IEnv} (hE : E.fns = Table.fn table) (a c : List AV) : calm E (.fn n_chiasmuslaw22_FormatValues a c) = true := by simp only [calm, h_chiasmuslaw22_FormatValues hE, F_chiasmuslaw22_FormatValues]
theorem c_chiasmuslaw09_Small {E : IEnv} (hE : E.fns = Table.fn table) (a c : List AV) : calm E (.fn n_chiasmuslaw09_Small a c) = true := by simp only [calm, h_chiasmuslaw09_Small hE, F_chiasmuslaw09_Small]
theorem c_format_Check {E : IEnv} (hE : E.fns = Table.fn table) (a c : List AV) : calm E (.fn n_format_Check a c) = true := by simp only [calm, h_format_Check hE, F_format_Check]
theorem c_chiasmuslaw22_awake {E : IEnv} (hE : E.fns = Table.fn table) (a c : List AV) : calm E (.fn n_chiasmuslaw22_awake a c) = true := by simp only [calm, h_chiasmuslaw22_awake hE, F_chiasmuslaw22_awake]
theorem c_chiasmuslaw22_inside {E : IEnv} (hE : E.fns = Table.fn table) (a c : List AV) : calm E (.fn n_chiasmuslaw22_inside a c) = true := by simp only [calm, h_chiasmuslaw22_inside hE, F_chiasmuslaw22_inside]
theorem c_format_Join {E : IEnv} (hE : E.fns = Table.fn table) (a c : List AV) : calm E (.fn n_format_Join a c) = true := by simp only [calm, h_format_Join hE, F_format_Join]
theorem c_chiasmusref01_Equal {E : IEnv} (hE : E.fns = Table.fn table) (a c : List AV) : calm E (.fn n_chiasmusref01_Equal a c) = true := by simp only [calm, h_chiasmusref01_Equal hE, F_chiasmusref01_Equal]
theorem c_format_Cut {E : IEnv} (hE : E.fns = Table.fn table) (a c : List AV) : calm E (.fn n_format_Cut a c) = true := by simp only [calm, h_format_Cut hE, F_format_Cut]
theorem c_term_Value {E : IEnv} (hE : E.fns = Table.fn table) (a c : List AV) : calm E (.fn n_term_Value a c) = true := by simp only [calm, h_term_Value hE, F_term_Value]
theorem c_format_Of {E : IEnv} (hE : E.fns = Table.fn table) (a c : List AV) : calm E (.fn n_format_Of a c) = true := by simp only [calm, h_format_Of hE, F_format_Of]
theorem c_format_Has {E : IEnv} (hE : E.fns = Table.fn table) (a c : List AV) : calm E (.fn n_format_Has a c) = true := by simp only [calm, h_format_Has hE, F_format_Has]
theorem c_chiasmuslaw09_nodes {E : IEnv} (hE : E.fns = Table.fn table) (a c : List AV) : calm E (.fn n_chiasmuslaw09_nodes a c) = true := by simp only [calm, h_chiasmuslaw09_nodes hE, F_chiasmuslaw09_nodes]
theorem c_chiasmuslaw09_short {E : IEnv} (hE : E.fns = Table.fn table) (a c : List AV) : calm E (.fn n_chiasmuslaw09_short a c) = true := by simp only [calm, h_chiasmuslaw09_short hE, F_chiasmuslaw09_short]
theorem c_term_Pattern {E : IEnv} (hE : E.fns = Table.fn table) (a c : List AV) : calm E (.fn n_term_Pattern a c) = true := by simp only [calm, h_term_Pattern hE, F_term_Pattern]
theorem c_format_Check_1 {E : IEnv} (hE : E.fns = Table.fn table) (a c : List AV) : calm E (.fn n_format_Check_1 a c) = true := by simp only [calm, h_format_Check_1 hE, F_format_Check_1]
theorem c_term_Equal {E : IEnv} (hE : E.fns = Table.fn table) (a c : List AV) : calm E (.fn n_term_Equal a c) = true := by simp only [calm, h_term_Equal hE, F_term_Equal]
theorem c_format_named {E : IEnv} (hE : E.fns = Table.fn table) (a c : List AV) : calm E (.fn n_format_named a c) = true := by simp only [calm, h_format_named hE, F_format_named]
theorem c_format_Within {E : IEnv} (hE : E.fns = Table.fn table) (a c : List AV) : calm E (.fn n_format_Within a c) = true := by simp only [calm, h_format_Within hE, F_format_Within]
theorem c_format_pair {E : IEnv} (hE : E.fns = Table.fn table) (a c : List AV) : calm E (.fn n_format_pair a c) = true := by simp only [calm, h_format_pair hE, F_format_pair]
theorem c_format_join {E : IEnv} (hE : E.fns = Table.fn table) (a c : List AV) : calm E (.fn n_format_join a c) = true := by simp only [calm, h_format_join hE, F_format_join]
theorem c_chiasmusref01_Compare {E : IEnv} (hE : E.fns = Table.fn table) (a c : List AV) : calm E (.fn n_chiasmusref01_Compare a c) = true := by simp only [calm, h_chiasmusref01_Compare hE, F_chiasmusref01_Compare]
theorem c_format_cut {E : IEnv} (hE : E.fns = Table.fn table) (a c : List AV) : calm E (.fn n_format_cut a c) = true := by simp only [calm, h_format_cut hE, F_format_cut]
theorem c_term_check {E : IEnv} (hE : E.fns = Table.fn table) (a c : List AV) : calm E (.fn n_term_check a c) = true := by simp only [calm, h_term_check hE, F_term_check]
theorem c_term_Result {E : IEnv} (hE : E.fns = Table.fn table) (a c : List AV) : calm E (.fn n_term_Result a c) = true := by simp only [calm, h_term_Result hE, F_term_Result]
theorem c_format_least {E : IEnv} (hE : E.fns = Table.fn table) (a c : List AV) : calm E (.fn n_format_least a c) = true := by simp only [calm, h_format_least hE, F_format_least]
theorem c_format_within {E : IEnv} (hE : E.fns = Table.fn table) (a c : List AV) : calm E (.fn n_format_within a c) = true := by simp only [calm, h_format_within hE, F_format_within]
theorem c_term_Compare {E : IEnv} (hE : E.fns = Table.fn table) (a c : List AV) : calm E (.fn n_term_Compare a c) = true := by simp only [calm, h_term_Compare hE, F_term_Compare]
theorem c_format_split {E : IEnv} (hE : E.fns = Table.fn table) (a c : List AV) : calm E (.fn n_format_split a c) = true := by simp only [calm, h_format_split hE, F_format_split]
theorem c_format_zip {E : IEnv} (hE : E.fns = Table.fn table) (a c : List AV) : calm E (.fn n_format_zip a c) = true := by simp only [calm, h_format_zip hE, F_format_zip]
theorem c_format_both {E : IEnv} (hE : E.fns = Table.fn table) (a c : List AV) : calm E (.fn n_format_both a c) = true := by simp only [calm, h_format_both hE, F_format_both]
theorem c_format_join_1 {E : IEnv} (hE : E.fns = Table.fn table) (a c : List AV) : calm E (.fn n_format_join_1 a c) = true := by simp only [calm, h_format_join_1 hE, F_format_join_1]
theorem c__format_list__all {E : IEnv} (hE : E.fns = Table.fn table) (a c : List AV) : calm E (.fn n__format_list__all a c) = true := by simp only [calm, h__format_list__all hE, F__format_list__all]
theorem c_chiasmusref01_Sign {E : IEnv} (hE : E.fns = Table.fn table) (a c : List AV) : calm E (.fn n_chiasmusref01_Sign a c) = true := by simp only [calm, h_chiasmusref01_Sign hE, F_chiasmusref01_Sign]
theorem c_term_depth {E : IEnv} (hE : E.fns = Table.fn table) (a c : List AV) : calm E (.fn n_term_depth a c) = true := by simp only [calm, h_term_depth hE, F_term_depth]
theorem c_term_right {E : IEnv} (hE : E.fns = Table.fn table) (a c : List AV) : calm E (.fn n_term_right a c) = true := by simp only [calm, h_term_right hE, F_term_right]
theorem c_format_some {E : IEnv} (hE : E.fns = Table.fn table) (a c : List AV) : calm E (.fn n_format_some a c) = true := by simp only [calm, h_format_some hE, F_format_some]
theorem c_format_merged {E : IEnv} (hE : E.fns = Table.fn table) (a c : List AV) : calm E (.fn n_format_merged a c) = true := by simp only [calm, h_format_merged hE, F_format_merged]
theorem c_slices_EqualFunc___api_Term___api_Term_api_Term_api_Term_ {E : IEnv} (hE : E.fns = Table.fn table) (a c : List AV) : calm E (.fn n_slices_EqualFunc___api_Term___api_Term_api_Term_api_Term_ a c) = true := by simp only [calm, h_slices_EqualFunc___api_Term___api_Term_api_Term_api_Term_ hE, F_slices_EqualFunc___api_Term___api_Term_api_Term_api_Term_]
theorem c_format_inside {E : IEnv} (hE : E.fns = Table.fn table) (a c : List AV) : calm E (.fn n_format_inside a c) = true := by simp only [calm, h_format_inside hE, F_format_inside]
theorem c_cmp_Compare_int_ {E : IEnv} (hE : E.fns = Table.fn table) (a c : List AV) : calm E (.fn n_cmp_Compare_int_ a c) = true := by simp only [calm, h_cmp_Compare_int_ hE, F_cmp_Compare_int_]
theorem c_cmp_Compare_string_ {E : IEnv} (hE : E.fns = Table.fn table) (a c : List AV) : calm E (.fn n_cmp_Compare_string_ a c) = true := by simp only [calm, h_cmp_Compare_string_ hE, F_cmp_Compare_string_]
theorem c_strconv_Itoa {E : IEnv} (hE : E.fns = Table.fn table) (a c : List AV) : calm E (.fn n_strconv_Itoa a c) = true := by simp only [calm, h_strconv_Itoa hE, F_strconv_Itoa]
theorem c_format_split_1 {E : IEnv} (hE : E.fns = Table.fn table) (a c : List AV) : calm E (.fn n_format_split_1 a c) = true := by simp only [calm, h_format_split_1 hE, F_format_split_1]
theorem c_slices_IndexFunc___api_Term_api_Term_ {E : IEnv} (hE : E.fns = Table.fn table) (a c : List AV) : calm E (.fn n_slices_IndexFunc___api_Term_api_Term_ a c) = true := by simp only [calm, h_slices_IndexFunc___api_Term_api_Term_ hE, F_slices_IndexFunc___api_Term_api_Term_]
theorem c_slices_Clone___api_Term_api_Term_ {E : IEnv} (hE : E.fns = Table.fn table) (a c : List AV) : calm E (.fn n_slices_Clone___api_Term_api_Term_ a c) = true := by simp only [calm, h_slices_Clone___api_Term_api_Term_ hE, F_slices_Clone___api_Term_api_Term_]
theorem c_slices_Concat___api_Term_api_Term_ {E : IEnv} (hE : E.fns = Table.fn table) (a c : List AV) : calm E (.fn n_slices_Concat___api_Term_api_Term_ a c) = true := by simp only [calm, h_slices_Concat___api_Term_api_Term_ hE, F_slices_Concat___api_Term_api_Term_]
theorem c_term_identifier {E : IEnv} (hE : E.fns = Table.fn table) (a c : List AV) : calm E (.fn n_term_identifier a c) = true := by simp only [calm, h_term_identifier hE, F_term_identifier]
theorem c_strings_ContainsFunc {E : IEnv} (hE : E.fns = Table.fn table) (a c : List AV) : calm E (.fn n_strings_ContainsFunc a c) = true := by simp only [calm, h_strings_ContainsFunc hE, F_strings_ContainsFunc]
theorem c_term_right_1 {E : IEnv} (hE : E.fns = Table.fn table) (a c : List AV) : calm E (.fn n_term_right_1 a c) = true := by simp only [calm, h_term_right_1 hE, F_term_right_1]
theorem c_term_isNumber {E : IEnv} (hE : E.fns = Table.fn table) (a c : List AV) : calm E (.fn n_term_isNumber a c) = true := by simp only [calm, h_term_isNumber hE, F_term_isNumber]
theorem c_term_every {E : IEnv} (hE : E.fns = Table.fn table) (a c : List AV) : calm E (.fn n_term_every a c) = true := by simp only [calm, h_term_every hE, F_term_every]
theorem c_cmp_isNaN_int_ {E : IEnv} (hE : E.fns = Table.fn table) (a c : List AV) : calm E (.fn n_cmp_isNaN_int_ a c) = true := by simp only [calm, h_cmp_isNaN_int_ hE, F_cmp_isNaN_int_]
theorem c_cmp_isNaN_string_ {E : IEnv} (hE : E.fns = Table.fn table) (a c : List AV) : calm E (.fn n_cmp_isNaN_string_ a c) = true := by simp only [calm, h_cmp_isNaN_string_ hE, F_cmp_isNaN_string_]
theorem c_internal_strconv_Itoa {E : IEnv} (hE : E.fns = Table.fn table) (a c : List AV) : calm E (.fn n_internal_strconv_Itoa a c) = true := by simp only [calm, h_internal_strconv_Itoa hE, F_internal_strconv_Itoa]
theorem c_term_is {E : IEnv} (hE : E.fns = Table.fn table) (a c : List AV) : calm E (.fn n_term_is a c) = true := by simp only [calm, h_term_is hE, F_term_is]
theorem c_strings_IndexFunc {E : IEnv} (hE : E.fns = Table.fn table) (a c : List AV) : calm E (.fn n_strings_IndexFunc a c) = true := by simp only [calm, h_strings_IndexFunc hE, F_strings_IndexFunc]
theorem c_strings_CutPrefix {E : IEnv} (hE : E.fns = Table.fn table) (a c : List AV) : calm E (.fn n_strings_CutPrefix a c) = true := by simp only [calm, h_strings_CutPrefix hE, F_strings_CutPrefix]
theorem c_internal_strconv_FormatInt {E : IEnv} (hE : E.fns = Table.fn table) (a c : List AV) : calm E (.fn n_internal_strconv_FormatInt a c) = true := by simp only [calm, h_internal_strconv_FormatInt hE, F_internal_strconv_FormatInt]
theorem c_term_classOf {E : IEnv} (hE : E.fns = Table.fn table) (a c : List AV) : calm E (.fn n_term_classOf a c) = true := by simp only [calm, h_term_classOf hE, F_term_classOf]
theorem c_strings_indexFunc {E : IEnv} (hE : E.fns = Table.fn table) (a c : List AV) : calm E (.fn n_strings_indexFunc a c) = true := by simp only [calm, h_strings_indexFunc hE, F_strings_indexFunc]
theorem c_internal_stringslite_CutPrefix {E : IEnv} (hE : E.fns = Table.fn table) (a c : List AV) : calm E (.fn n_internal_stringslite_CutPrefix a c) = true := by simp only [calm, h_internal_stringslite_CutPrefix hE, F_internal_stringslite_CutPrefix]
theorem c_internal_strconv_small {E : IEnv} (hE : E.fns = Table.fn table) (a c : List AV) : calm E (.fn n_internal_strconv_small a c) = true := by simp only [calm, h_internal_strconv_small hE, F_internal_strconv_small]
theorem c_internal_stringslite_HasPrefix {E : IEnv} (hE : E.fns = Table.fn table) (a c : List AV) : calm E (.fn n_internal_stringslite_HasPrefix a c) = true := by simp only [calm, h_internal_stringslite_HasPrefix hE, F_internal_stringslite_HasPrefix]
end Ab.R

/- Terms of the language as plain data; when an abstract value is one. No condition. -/
namespace Ab
open Go Go.RowKit

inductive Tm where
  | mk (k : Int) (s : List UInt8) (kids : List Tm)

def Tm.kind : Tm → Int | .mk k _ _ => k
def Tm.text : Tm → List UInt8 | .mk _ s _ => s
def Tm.kids : Tm → List Tm | .mk _ _ l => l

mutual
def Rt : Tm → AV → Prop
  | .mk k s kids, x => ∃ o ys, x = .agg [.int .i64 k, .str s, .sl o 3 ys] ∧ (ys.length ≤ maxLen ∧ (o = .nil → ys = [])) ∧ Rts kids ys
def Rts : List Tm → List AV → Prop
  | [], ys => ys = []
  | t :: ts, ys => ∃ y r, ys = y :: r ∧ Rt t y ∧ Rts ts r
end

theorem Rts.length : ∀ {ts : List Tm} {ys : List AV}, Rts ts ys → ys.length = ts.length
  | [], _, h => by simp only [Rts] at h; subst h; rfl
  | t :: ts, _, h => by
    simp only [Rts] at h
    obtain ⟨y, r, rfl, _, h2⟩ := h
    simp [Rts.length h2]

theorem Rts.get : ∀ {ts : List Tm} {ys : List AV} {i : Nat} {t : Tm}, Rts ts ys → ts[i]? = some t → ∃ y, ys[i]? = some y ∧ Rt t y
  | [], _, _, _, _, h => by simp at h
  | t :: ts, _, i, u, h, hi => by
    simp only [Rts] at h
    obtain ⟨y, r, rfl, h1, h2⟩ := h
    cases i with
    | zero => simp at hi; subst hi; exact ⟨y, rfl, h1⟩
    | succ i => simp at hi; simpa using Rts.get h2 hi

theorem Rts.append : ∀ {ts : List Tm} {ys : List AV} {us : List Tm} {zs : List AV}, Rts ts ys → Rts us zs → Rts (ts ++ us) (ys ++ zs)
  | [], _, _, _, h, h' => by simp only [Rts] at h; subst h; simpa using h'
  | t :: ts, _, _, _, h, h' => by
    simp only [Rts] at h
    obtain ⟨y, r, rfl, h1, h2⟩ := h
    simp only [List.cons_append, Rts]
    exact ⟨y, _, rfl, h1, Rts.append h2 h'⟩

theorem Rts.take : ∀ {ts : List Tm} {ys : List AV} (n : Nat), Rts ts ys → Rts (ts.take n) (ys.take n)
  | _, _, 0, _ => by simp [Rts]
  | [], _, n + 1, h => by simp only [Rts] at h; subst h; simp [Rts]
  | t :: ts, _, n + 1, h => by
    simp only [Rts] at h
    obtain ⟨y, r, rfl, h1, h2⟩ := h
    simp only [List.take_succ_cons, Rts]
    exact ⟨y, _, rfl, h1, Rts.take n h2⟩

theorem Rts.drop : ∀ {ts : List Tm} {ys : List AV} (n : Nat), Rts ts ys → Rts (ts.drop n) (ys.drop n)
  | _, _, 0, h => by simpa using h
  | [], _, n + 1, h => by simp only [Rts] at h; subst h; simp [Rts]
  | t :: ts, _, n + 1, h => by
    simp only [Rts] at h
    obtain ⟨y, r, rfl, h1, h2⟩ := h
    simpa using Rts.drop n h2

mutual
theorem Rt.data : ∀ {t : Tm} {x : AV}, Rt t x → x.data = true
  | .mk k s kids, x, h => by
    simp only [Rt] at h
    obtain ⟨o, ys, rfl, _, h2⟩ := h
    simp only [AV.data, AV.dataL, Rts.data h2, Bool.and_self]
theorem Rts.data : ∀ {ts : List Tm} {ys : List AV}, Rts ts ys → AV.dataL ys = true
  | [], _, h => by simp only [Rts] at h; subst h; rfl
  | t :: ts, _, h => by
    simp only [Rts] at h
    obtain ⟨y, r, rfl, h1, h2⟩ := h
    simp only [AV.dataL, Rt.data h1, Rts.data h2, Bool.and_self]
end

theorem Rt.untok {t : Tm} {x : AV} (h : Rt t x) : Rt t x.untok := by
  cases t with
  | mk k s kids =>
    simp only [Rt] at h ⊢
    obtain ⟨o, ys, rfl, hl, h2⟩ := h
    obtain ⟨h1, h3⟩ := hl
    cases o <;> simp only [AV.untok, AV.untokL] <;> exact ⟨_, ys, rfl, ⟨h1, fun e => h3 (by first | exact e | cases e)⟩, h2⟩

theorem Rt.shape {t : Tm} {x : AV} (h : Rt t x) : ∃ o ys, x = .agg [.int .i64 t.kind, .str t.text, .sl o 3 ys] ∧ (ys.length ≤ maxLen ∧ (o = .nil → ys = [])) ∧ Rts t.kids ys := by
  cases t with
  | mk k s kids => simpa only [Rt, Tm.kind, Tm.text, Tm.kids] using h

/- a slice that stands for a list of terms -/
def Sl (ts : List Tm) (v : AV) : Prop := ∃ o ys, v = .sl o 3 ys ∧ (ys.length ≤ maxLen ∧ (o = .nil → ys = [])) ∧ Rts ts ys
theorem Sl.nil : Sl [] (.sl .nil 3 []) := ⟨_, _, rfl, ⟨Nat.zero_le _, fun _ => rfl⟩, by simp [Rts]⟩
theorem Sl.untok {ts : List Tm} {v : AV} (h : Sl ts v) : Sl ts v.untok := by
  obtain ⟨o, ys, rfl, ⟨h1, h2⟩, h3⟩ := h
  cases o <;> exact ⟨_, ys, rfl, ⟨h1, fun e => h2 (by first | exact e | cases e)⟩, h3⟩
theorem Sl.data {ts : List Tm} {v : AV} (h : Sl ts v) : v.data = true := by
  obtain ⟨o, ys, rfl, _, h3⟩ := h
  simpa only [AV.data] using h3.data
theorem Rt.open {t : Tm} {x : AV} (h : Rt t x) : ∃ v, x = .agg [.int .i64 t.kind, .str t.text, v] ∧ Sl t.kids v := by
  obtain ⟨o, ys, rfl, h1, h2⟩ := h.shape
  exact ⟨_, rfl, o, ys, rfl, h1, h2⟩
theorem Rt.mk {k : Int} {s : List UInt8} {kids : List Tm} {v : AV} (h : Sl kids v) : Rt (.mk k s kids) (.agg [.int .i64 k, .str s, v]) := by
  obtain ⟨o, ys, rfl, h1, h2⟩ := h
  simp only [Rt]
  exact ⟨o, ys, rfl, h1, h2⟩

/- lists of terms, of the types that a row reads -/
theorem terms_of {P : Program} {tl te tk ts : TypeId} {fs : Array Field} (hl : P.underlying tl = some (.slice te)) (he : P.underlying te = some (.struct fs)) (hf : fs.toList.map (·.type) = [tk, ts, tl]) (hk : P.underlying tk = some (.int .i64)) (hs : P.underlying ts = some .string) (hc : P.cellsOf te = 3) :
    ∀ {t : TypeId} {xs : List AV}, Of P t xs → (t = tl → ∃ us o ys, xs = [.sl o 3 ys] ∧ (ys.length ≤ maxLen ∧ (o = .nil → ys = [])) ∧ Rts us ys) ∧ (t = te → ∃ u, Rt u (.agg xs)) ∧ (t = tk → ∃ n, xs = [.int .i64 n]) ∧ (t = ts → ∃ s, xs = [.str s]) := by
  intro t xs h
  induction h with
  | bool h b => refine ⟨?_, ?_, ?_, ?_⟩ <;> rintro rfl <;> simp_all
  | int h n hw =>
    refine ⟨?_, ?_, ?_, ?_⟩ <;> rintro rfl <;> first | (simp_all; done) | skip
    all_goals (rw [hk] at h; cases h; exact ⟨n, rfl⟩)
  | str h s hl' =>
    refine ⟨?_, ?_, ?_, ?_⟩ <;> rintro rfl <;> first | (simp_all; done) | skip
    all_goals exact ⟨s, rfl⟩
  | nil h =>
    refine ⟨?_, ?_, ?_, ?_⟩ <;> rintro rfl <;> first | (simp_all; done) | skip
    rw [hl] at h; cases h
    exact ⟨[], .nil, [], by rw [hc], ⟨Nat.zero_le _, fun _ => rfl⟩, by simp [Rts]⟩
  | slice h yss hy hlen ih =>
    refine ⟨?_, ?_, ?_, ?_⟩ <;> rintro rfl <;> first | (simp_all; done) | skip
    rw [hl] at h; cases h
    have hagg : (isAggP P te).getD false = true := by simp [isAggP, he, aggOf]
    have key : ∀ (l : List (List AV)), (∀ ys ∈ l, ∃ u, Rt u (.agg ys)) → ∃ us, Rts us (l.map (elemAV true)) := by
      intro l
      induction l with
      | nil => intro _; exact ⟨[], by simp [Rts]⟩
      | cons y l ihl =>
        intro hh
        obtain ⟨u, hu⟩ := hh y (List.mem_cons_self ..)
        obtain ⟨us, hus⟩ := ihl fun z hz => hh z (List.mem_cons_of_mem _ hz)
        refine ⟨u :: us, ?_⟩
        simp only [List.map_cons, Rts]
        exact ⟨_, _, rfl, by simpa [elemAV] using hu, hus⟩
    obtain ⟨us, hus⟩ := key yss fun ys hys => (ih ys hys).2.1 rfl
    exact ⟨us, .any, _, by rw [hc], ⟨by simpa using hlen, fun e => by cases e⟩, by rw [hagg]; exact hus⟩
  | struct h xss hlen hx ih =>
    refine ⟨?_, ?_, ?_, ?_⟩ <;> rintro rfl <;> first | (simp_all; done) | skip
    rw [he] at h; cases h
    obtain ⟨l⟩ := fs
    simp only at hf
    match l, hf with
    | [f0, f1, f2], hf =>
      simp only [List.map_cons, List.map_nil, List.cons.injEq, and_true] at hf
      match xss, hlen with
      | [x0, x1, x2], _ =>
        obtain ⟨n, rfl⟩ := (ih 0 f0 x0 rfl rfl).2.2.1 hf.1
        obtain ⟨s, rfl⟩ := (ih 1 f1 x1 rfl rfl).2.2.2 hf.2.1
        obtain ⟨us, o, ys, rfl, h1, h2⟩ := (ih 2 f2 x2 rfl rfl).1 hf.2.2
        refine ⟨.mk n s us, ?_⟩
        simp only [Rt]
        exact ⟨o, ys, rfl, h1, h2⟩
end Ab

/- How many terms: sizes of terms. No condition. -/
namespace Ab
mutual
def nT : Tm → Nat
  | .mk _ _ kids => 1 + nTs kids
def nTs : List Tm → Nat
  | [] => 0
  | t :: ts => nT t + nTs ts
end
theorem nT_eq (t : Tm) : nT t = 1 + nTs t.kids := by cases t; simp only [nT, Tm.kids]
theorem nT_pos (t : Tm) : 0 < nT t := by rw [nT_eq]; omega
theorem nT_mem : ∀ {ts : List Tm} {t : Tm}, t ∈ ts → nT t ≤ nTs ts
  | _ :: ts, t, h => by
    rcases List.mem_cons.1 h with rfl | h
    · simp only [nTs]; omega
    · have := nT_mem h; simp only [nTs]; omega
theorem nTs_append : ∀ a b : List Tm, nTs (a ++ b) = nTs a + nTs b
  | [], b => by simp [nTs]
  | t :: a, b => by simp only [List.cons_append, nTs, nTs_append a b]; omega
theorem length_le_nTs : ∀ ts : List Tm, ts.length ≤ nTs ts
  | [] => by simp
  | t :: ts => by have := length_le_nTs ts; have := nT_pos t; simp only [nTs, List.length_cons]; omega
theorem Sl.len {ts : List Tm} {v : AV} (h : Sl ts v) : ∃ o xs, v = .sl o 3 xs ∧ xs.length = ts.length := by
  obtain ⟨o, xs, rfl, _, h3⟩ := h
  exact ⟨o, xs, rfl, h3.length⟩

end Ab

/- Runs with enough fuel. No condition. -/
namespace Ab
open Go

/- a function value that leaves the state as it is, and what it answers -/
def Fn (E : IEnv) (tgt : AV) (args : List AV) (v : AV) : Prop := ∃ K, ∀ k, K ≤ k → ∀ s, callA E k none tgt args s = some (.ret v, false, s)

def FnK (K : Nat) (E : IEnv) (tgt : AV) (args : List AV) (v : AV) : Prop := ∀ k, K ≤ k → ∀ s, callA E k none tgt args s = some (.ret v, false, s)

theorem append_get {α : Type} (l r : List α) (i : Nat) : (l ++ r)[l.length + i]? = r[i]? := by
  rw [List.getElem?_append_right (by omega), Nat.add_sub_cancel_left]
theorem append_get0 {α : Type} (l r : List α) : (l ++ r)[l.length]? = r[0]? := by simp [List.getElem?_append_right]
theorem append_set {α : Type} (l r : List α) (i : Nat) (x : α) : (l ++ r).set (l.length + i) x = l ++ r.set i x := by
  rw [List.set_append_right _ _ (by omega)]; simp
theorem append_set0 {α : Type} (l r : List α) (x : α) : (l ++ r).set l.length x = l ++ r.set 0 x := by
  rw [List.set_append_right _ _ (by omega)]; simp

section
variable {E : IEnv} {call : Caller} {n : Nat} {f : Fr} {s : St}
@[simp] theorem codeA_skip : codeA E call n .skip f s = some (.normal, f, s) := by simp only [codeA]
@[simp] theorem codeA_region (ops : List IOper) (keep : List Nat) (draw : Bool) : codeA E call n (.region ops keep draw) f s = (match opsA E call draw ops f f.env s with
    | some (none, f', loc, s') => some (.normal, { f' with env := keepA loc keep f.env }, s')
    | some (some v, f', loc, s') => some (.pan v, { f' with env := keepA loc keep f.env }, s')
    | none => none) := by simp only [codeA]; rfl
@[simp] theorem codeA_seq (a b : ICode) : codeA E call n (.seq a b) f s = (match codeA E call n a f s with
    | some (.normal, f', s') => codeA E call n b f' s'
    | r => r) := by simp only [codeA]; rfl
@[simp] theorem codeA_cond (c : Opd) (a b : ICode) : codeA E call n (.cond c a b) f s = (match c.ev E f.env with
    | .bool true => codeA E call n a f s
    | .bool false => codeA E call n b f s
    | _ => none) := by simp only [codeA]; rfl
@[simp] theorem codeA_block (id : Nat) (b : ICode) : codeA E call n (.block id b) f s = (match codeA E call n b f s with
    | some (.exit j, f', s') => if j = id then some (.normal, f', s') else some (.exit j, f', s')
    | r => r) := by simp only [codeA]; rfl
@[simp] theorem codeA_exit (id : Nat) : codeA E call n (.exit id) f s = some (.exit id, f, s) := by simp only [codeA]
@[simp] theorem codeA_ret : codeA E call n .ret f s = some (.ret, f, s) := by simp only [codeA]
theorem codeA_loop (ks : List Nat) (b : ICode) : codeA E call n (.loop ks b) f s = iterA (codeA E call n b) ks n f s := by simp only [codeA]
end
attribute [simp] chkOk IChk.addr pinOk goA fillA elemOfCells opsA stepA guardA runO finO opA Opd.ev envOf Env.get Env.put Env.kill keepA AV.cells? St.push St.setb St.cell? loadA storeA partOf valStep binA unA resA resOne AV.data AV.dataL AV.untok AV.untokL outPan

/- what a body comes to -/
def finR (r : R) (res : List IRes) : Option AV :=
  match r with
  | some (o, fr, s) => match outPan o with
    | some none => if fr.defers.isEmpty && !fr.recd then (match resA fr.env s res with
      | some vs => if (resOne vs).data then some (resOne vs).untok else none
      | none => none) else none
    | _ => none
  | none => none

def fr0 (args : List AV) : Fr := { env := envOf 0 args, defers := [], rcv := none, recd := false, rnd := false }

theorem FnK.of {E : IEnv} {f : Nat} {first caps : List AV} {F : IFn} (hF : E.fns f = some F) (hm : F.mode = .pure) {args : List AV} (hn : (first ++ args ++ caps).length = F.np) {v : AV}
    {K : Nat}
    (h : ∀ k, K ≤ k → ∀ bl tk, finR (codeA E (callA E k) k F.body (fr0 (first ++ args ++ caps)) { bl, tk, ro := bl.length, rt := tk.length }) F.res = some v) : FnK (K + 1) E (.fn f first caps) args v := by
  refine fun k hk s => ?_
  obtain ⟨j, rfl⟩ : ∃ j, k = j + 1 := ⟨k - 1, by omega⟩
  have h1 := h j (by omega) s.bl s.tk
  unfold finR at h1
  split at h1
  · rename_i o fr s1 hc
    split at h1
    · rename_i ho
      split at h1
      · rename_i hd
        simp only [Bool.and_eq_true, List.isEmpty_iff, Bool.not_eq_true'] at hd
        split at h1
        · rename_i vs hvs
          split at h1
          · rename_i hdata
            simp only [Option.some.injEq] at h1
            unfold fr0 at hc
            simp only [callA, hF, runA, hn, ne_eq, not_true_eq_false, if_false, hm, s0Of, hc, ho, hd.1, unwindA, hvs, finA, hdata, if_true, h1, hd.2]
          · cases h1
        · cases h1
      · cases h1
    · cases h1
  · cases h1
theorem Fn.of {E : IEnv} {f : Nat} {first caps : List AV} {F : IFn} (hF : E.fns f = some F) (hm : F.mode = .pure) {args : List AV} (hn : (first ++ args ++ caps).length = F.np) {v : AV}
    (h : ∃ K, ∀ k, K ≤ k → ∀ bl tk, finR (codeA E (callA E k) k F.body (fr0 (first ++ args ++ caps)) { bl, tk, ro := bl.length, rt := tk.length }) F.res = some v) : Fn E (.fn f first caps) args v := by
  obtain ⟨K, h⟩ := h
  exact ⟨K + 1, FnK.of hF hm hn h⟩
theorem Fn.all {E : IEnv} {α : Type} {tgt : AV} {args : α → List AV} {v : α → AV} : ∀ {xs : List α}, (∀ x ∈ xs, Fn E tgt (args x) (v x)) → ∃ K, ∀ k, K ≤ k → ∀ x ∈ xs, ∀ s, callA E k none tgt (args x) s = some (.ret (v x), false, s)
  | [], _ => ⟨0, fun _ _ x hx => by cases hx⟩
  | x :: xs, h => by
    obtain ⟨K1, h1⟩ := h x (List.mem_cons_self ..)
    obtain ⟨K2, h2⟩ := Fn.all fun y hy => h y (List.mem_cons_of_mem _ hy)
    refine ⟨K1 + K2, fun k hk y hy s => ?_⟩
    rcases List.mem_cons.1 hy with rfl | hy
    · exact h1 k (by omega) s
    · exact h2 k (by omega) y hy s

theorem wrapIn {n : Int} (h0 : -9223372036854775808 ≤ n) (h1 : n ≤ 9223372036854775807) : IntKind.wrap .i64 n = n := IntWalk.i64_in n ⟨h0, h1⟩

theorem slice_ok (o : Own) (z : Nat) (hz : z ≠ 0) (xs : List AV) (lo hi : Option AV) {l h : Nat} (hb : bound hi xs.length xs.length = some h) (hl : bound lo 0 h = some l) : ∃ o', (o' = .nil → o = .nil) ∧ ∀ tk, sliceA tk z (.sl o z xs) lo hi none = some (.sl o' z ((xs.take h).drop l)) := by
  refine ⟨if l = 0 ∧ h = xs.length then o else if o = .full ∧ h = xs.length then .full else if o = .nil then .nil else .any, ?_, fun tk => ?_⟩
  · split
    · exact id
    · split
      · exact fun h => by cases h
      · split
        · exact fun _ => by assumption
        · exact fun h => by cases h
  · simp only [sliceA]
    rw [show bound none xs.length xs.length = some xs.length from rfl]
    simp only [ne_eq, not_true_eq_false, hz, or_self, if_false, hb, hl, Option.isSome_none, Bool.false_eq_true]
theorem untok_sl (o : Own) (z : Nat) (xs : List AV) : ∃ o', (o' = .nil → o = .nil) ∧ (AV.sl o z xs).untok = .sl o' z xs := by cases o <;> exact ⟨_, fun h => (by first | exact h | cases h), rfl⟩

theorem idx_nat {n : Nat} {i : Nat} (h : i < n) : idx (.int .i64 i) n = some i := by simp [idx, h]
end Ab

/- What a code leads to: stepping through a body, goal by goal. No condition. -/
namespace Ab
open Go

abbrev frW (r : Bool) (e : Env) : Fr := { env := e, defers := [], rcv := none, recd := false, rnd := r }
abbrev Pst := Out → Env → St → Prop

def thenW (N : Env → St → Prop) (Q : Pst) : Pst
  | .normal, e, s => N e s
  | o, e, s => Q o e s
def blockW (id : Nat) (Q : Pst) : Pst
  | .exit j, e, s => if j = id then Q .normal e s else Q (.exit j) e s
  | o, e, s => Q o e s
def outsW (r : Bool) (keep : List Nat) (Q : Pst) (e : Env) : Option (Option AV × Fr × Env × St) → Prop
  | some (none, f, loc, s) => f = frW r e ∧ Q .normal (keepA loc keep e) s
  | some (some v, f, loc, s) => f = frW r e ∧ Q (.pan v) (keepA loc keep e) s
  | none => False

def wp (E : IEnv) (call : Caller) (n : Nat) (r : Bool) : ICode → Pst → Env → St → Prop
  | .skip, Q, e, s => Q .normal e s
  | .region ops keep draw, Q, e, s => outsW r keep Q e (opsA E call draw ops (frW r e) e s)
  | .seq a b, Q, e, s => wp E call n r a (thenW (wp E call n r b Q) Q) e s
  | .cond c a b, Q, e, s => ∃ t, c.ev E e = .bool t ∧ (if t then wp E call n r a Q e s else wp E call n r b Q e s)
  | .block id b, Q, e, s => wp E call n r b (blockW id Q) e s
  | .loop ks b, Q, e, s => ∃ o e' s', iterA (codeA E call n b) ks n (frW r e) s = some (o, frW r e', s') ∧ Q o e' s'
  | .rangeFn g ps a b, Q, e, s => ∃ o s', codeA E call n (.rangeFn g ps a b) (frW r e) s = some (o, frW r e, s') ∧ Q o e s'
  | .exit id, Q, e, s => Q (.exit id) e s
  | .ret, Q, e, s => Q .ret e s

section
variable {E : IEnv} {call : Caller} {n : Nat} {r : Bool} {Q : Pst} {e : Env} {s : St} {N : Env → St → Prop}
@[simp] theorem thenW_normal : thenW N Q .normal e s = N e s := rfl
@[simp] theorem thenW_exit (i : Nat) : thenW N Q (.exit i) e s = Q (.exit i) e s := rfl
@[simp] theorem thenW_ret : thenW N Q .ret e s = Q .ret e s := rfl
@[simp] theorem thenW_pan (v : AV) : thenW N Q (.pan v) e s = Q (.pan v) e s := rfl
@[simp] theorem blockW_normal (id : Nat) : blockW id Q .normal e s = Q .normal e s := rfl
@[simp] theorem blockW_ret (id : Nat) : blockW id Q .ret e s = Q .ret e s := rfl
@[simp] theorem blockW_pan (id : Nat) (v : AV) : blockW id Q (.pan v) e s = Q (.pan v) e s := rfl
@[simp] theorem blockW_exit (id j : Nat) : blockW id Q (.exit j) e s = if j = id then Q .normal e s else Q (.exit j) e s := rfl
@[simp] theorem outsW_some (keep : List Nat) (f : Fr) (loc : Env) : outsW r keep Q e (some (none, f, loc, s)) = (f = frW r e ∧ Q .normal (keepA loc keep e) s) := rfl
@[simp] theorem outsW_pan (keep : List Nat) (f : Fr) (loc : Env) (v : AV) : outsW r keep Q e (some (some v, f, loc, s)) = (f = frW r e ∧ Q (.pan v) (keepA loc keep e) s) := rfl
@[simp] theorem wp_skip : wp E call n r .skip Q e s = Q .normal e s := rfl
@[simp] theorem wp_region (ops : List IOper) (keep : List Nat) (draw : Bool) : wp E call n r (.region ops keep draw) Q e s = outsW r keep Q e (opsA E call draw ops (frW r e) e s) := rfl
@[simp] theorem wp_seq (a b : ICode) : wp E call n r (.seq a b) Q e s = wp E call n r a (thenW (wp E call n r b Q) Q) e s := rfl
@[simp] theorem wp_cond (c : Opd) (a b : ICode) : wp E call n r (.cond c a b) Q e s = ∃ t, c.ev E e = .bool t ∧ (if t then wp E call n r a Q e s else wp E call n r b Q e s) := rfl
@[simp] theorem wp_block (id : Nat) (b : ICode) : wp E call n r (.block id b) Q e s = wp E call n r b (blockW id Q) e s := rfl
@[simp] theorem wp_exit (id : Nat) : wp E call n r (.exit id) Q e s = Q (.exit id) e s := rfl
@[simp] theorem wp_ret : wp E call n r .ret Q e s = Q .ret e s := rfl

theorem wp_run : ∀ {c : ICode} {Q : Pst} {e : Env} {s : St}, wp E call n r c Q e s → ∃ o e' s', codeA E call n c (frW r e) s = some (o, frW r e', s') ∧ Q o e' s'
  | .skip, Q, e, s, h => ⟨_, e, s, by simp only [codeA], h⟩
  | .exit _, Q, e, s, h => ⟨_, e, s, by simp only [codeA], h⟩
  | .ret, Q, e, s, h => ⟨_, e, s, by simp only [codeA], h⟩
  | .region ops keep draw, Q, e, s, h => by
    simp only [wp] at h
    simp only [codeA]
    cases hq : opsA E call draw ops (frW r e) e s with
    | none => rw [hq] at h; exact h.elim
    | some x =>
      obtain ⟨p, f', loc, s'⟩ := x
      rw [hq] at h
      cases p with
      | none =>
        simp only [outsW] at h
        obtain ⟨rfl, q⟩ := h
        exact ⟨_, _, _, rfl, q⟩
      | some v =>
        simp only [outsW] at h
        obtain ⟨rfl, q⟩ := h
        exact ⟨_, _, _, rfl, q⟩
  | .seq a b, Q, e, s, h => by
    obtain ⟨o, e1, s1, h1, q⟩ := wp_run (c := a) h
    simp only [codeA, h1]
    cases o with
    | normal => exact wp_run (c := b) q
    | _ => exact ⟨_, _, _, rfl, q⟩
  | .cond c a b, Q, e, s, h => by
    obtain ⟨t, h1, q⟩ := h
    simp only [codeA, h1]
    cases t
    · exact wp_run (c := b) q
    · exact wp_run (c := a) q
  | .block id b, Q, e, s, h => by
    obtain ⟨o, e1, s1, h1, q⟩ := wp_run (c := b) h
    simp only [codeA, h1]
    cases o with
    | exit j =>
      simp only [blockW] at q
      by_cases hj : j = id
      · simp only [hj, if_true] at q ⊢; exact ⟨_, _, _, rfl, q⟩
      · simp only [hj, if_false] at q ⊢; exact ⟨_, _, _, rfl, q⟩
    | _ => exact ⟨_, _, _, rfl, q⟩
  | .loop ks b, Q, e, s, h => by
    obtain ⟨o, e1, s1, h1, q⟩ := h
    exact ⟨o, e1, s1, by simp only [codeA]; exact h1, q⟩
  | .rangeFn g ps a b, Q, e, s, h => by
    obtain ⟨o, s1, h1, q⟩ := h
    exact ⟨o, e, s1, h1, q⟩

theorem iter_wp {ks : List Nat} {b : ICode} (m : Nat) (Inv : Nat → Env → St → Prop)
    (step : ∀ i e s, i < m → Inv i e s → wp E call n r b (thenW (fun e s => Inv (i + 1) (e.kill ks) s) Q) e s)
    (last : ∀ e s, Inv m e s → wp E call n r b (thenW (fun _ _ => False) Q) e s) :
    ∀ (j i : Nat) (e : Env) (s : St) (k : Nat), i + j = m → j < k → Inv i (e.kill ks) s → ∃ o e' s', iterA (codeA E call n b) ks k (frW r e) s = some (o, frW r e', s') ∧ Q o e' s'
  | 0, i, e, s, k + 1, hi, hk, h => by
    obtain ⟨o, e1, s1, h1, q⟩ := wp_run (last _ _ (by rw [show m = i by omega]; exact h))
    cases o with
    | normal => exact q.elim
    | _ => exact ⟨_, e1, s1, by simp only [iterA, h1], q⟩
  | j + 1, i, e, s, k + 1, hi, hk, h => by
    obtain ⟨o, e1, s1, h1, q⟩ := wp_run (step i _ _ (by omega) h)
    cases o with
    | normal =>
      obtain ⟨o2, e2, s2, h2, q2⟩ := iter_wp m Inv step last j (i + 1) e1 s1 k (by omega) (by omega) q
      exact ⟨o2, e2, s2, by simp only [iterA, h1]; exact h2, q2⟩
    | _ => exact ⟨_, e1, s1, by simp only [iterA, h1], q⟩

/- a loop that goes round at most m times -/
theorem wp_loop {ks : List Nat} {b : ICode} (m : Nat) (Inv : Nat → Env → St → Prop) (hm : m < n) (h0 : Inv 0 (e.kill ks) s)
    (step : ∀ i e s, i < m → Inv i e s → wp E call n r b (thenW (fun e s => Inv (i + 1) (e.kill ks) s) Q) e s)
    (last : ∀ e s, Inv m e s → wp E call n r b (thenW (fun _ _ => False) Q) e s) : wp E call n r (.loop ks b) Q e s :=
  iter_wp m Inv step last m 0 e s n (by omega) hm h0
end

/- at the end of a body: the results -/
def finW (res : List IRes) (v : AV) : Pst := fun o e s => (o = .normal ∨ o = .ret) ∧ ∃ vs, resA e s res = some vs ∧ (resOne vs).data = true ∧ (resOne vs).untok = v
@[simp] theorem finW_normal (res : List IRes) (v : AV) (e : Env) (s : St) : finW res v .normal e s = ∃ vs, resA e s res = some vs ∧ (resOne vs).data = true ∧ (resOne vs).untok = v := by simp [finW]
@[simp] theorem finW_ret (res : List IRes) (v : AV) (e : Env) (s : St) : finW res v .ret e s = ∃ vs, resA e s res = some vs ∧ (resOne vs).data = true ∧ (resOne vs).untok = v := by simp [finW]

theorem FnK.byW {E : IEnv} {f : Nat} {first caps : List AV} {F : IFn} (hF : E.fns f = some F) (hm : F.mode = .pure) {args : List AV} (hn : (first ++ args ++ caps).length = F.np) {v : AV} {K : Nat}
    (h : ∀ k, K ≤ k → ∀ bl tk, wp E (callA E k) k false F.body (finW F.res v) (envOf 0 (first ++ args ++ caps)) { bl, tk, ro := bl.length, rt := tk.length }) : FnK (K + 1) E (.fn f first caps) args v := by
  refine FnK.of hF hm hn fun k hk bl tk => ?_
  obtain ⟨o, e', s', h1, ho, vs, h2, h3, h4⟩ := wp_run (h k hk bl tk)
  simp only [fr0, finR]
  rw [h1]
  rcases ho with rfl | rfl <;> simp [-resOne, outPan, h2, h3, h4]
theorem Fn.byW {E : IEnv} {f : Nat} {first caps : List AV} {F : IFn} (hF : E.fns f = some F) (hm : F.mode = .pure) {args : List AV} (hn : (first ++ args ++ caps).length = F.np) {v : AV}
    (h : ∃ K, ∀ k, K ≤ k → ∀ bl tk, wp E (callA E k) k false F.body (finW F.res v) (envOf 0 (first ++ args ++ caps)) { bl, tk, ro := bl.length, rt := tk.length }) : Fn E (.fn f first caps) args v := by
  obtain ⟨K, h⟩ := h
  exact ⟨K + 1, FnK.byW hF hm hn h⟩

/- at the end of a body of any mode -/
def finP (s0 : St) (Post : AV → St → Prop) : Option (AV × St) → Prop
  | some (v, s) => Post v { s with ro := s0.ro, rt := s0.rt }
  | none => False
@[simp] theorem finP_some (s0 : St) (Post : AV → St → Prop) (v : AV) (s : St) : finP s0 Post (some (v, s)) = Post v { s with ro := s0.ro, rt := s0.rt } := rfl
def endW (res : List IRes) (m : Mode) (s0 : St) (Post : AV → St → Prop) : Pst := fun o e s' => (o = .normal ∨ o = .ret) ∧ ∃ vs, resA e s' res = some vs ∧ finP s0 Post (finA m s0 s' (resOne vs))
@[simp] theorem endW_normal (res : List IRes) (m : Mode) (s0 : St) (Post : AV → St → Prop) (e : Env) (s : St) : endW res m s0 Post .normal e s = ∃ vs, resA e s res = some vs ∧ finP s0 Post (finA m s0 s (resOne vs)) := by simp [endW]
@[simp] theorem endW_ret (res : List IRes) (m : Mode) (s0 : St) (Post : AV → St → Prop) (e : Env) (s : St) : endW res m s0 Post .ret e s = ∃ vs, resA e s res = some vs ∧ finP s0 Post (finA m s0 s (resOne vs)) := by simp [endW]
theorem call_byW {E : IEnv} {f : Nat} {first caps : List AV} {F : IFn} (hF : E.fns f = some F) {args : List AV} (hn : (first ++ args ++ caps).length = F.np) {k : Nat} {s : St} {Post : AV → St → Prop}
    (h : wp E (callA E k) k false F.body (endW F.res F.mode s Post) (envOf 0 (first ++ args ++ caps)) (s0Of F.mode s)) : ∃ v s', callA E (k + 1) none (.fn f first caps) args s = some (.ret v, false, s') ∧ Post v s' := by
  obtain ⟨o, e', s1, h1, ho, vs, h2, h3⟩ := wp_run h
  cases hf : finA F.mode s s1 (resOne vs) with
  | none => rw [hf] at h3; exact h3.elim
  | some x =>
    obtain ⟨v', s2⟩ := x
    rw [hf] at h3
    refine ⟨v', { s2 with ro := s.ro, rt := s.rt }, ?_, h3⟩
    rcases ho with rfl | rfl <;> simp only [callA, hF, runA, hn, ne_eq, not_true_eq_false, if_false, h1, outPan, unwindA, h2, hf]

mutual
@[simp] theorem AV.untok_untok : ∀ x : AV, x.untok.untok = x.untok
  | .sl (.tok _) _ _ | .sl .any _ _ | .sl .nil _ _ | .sl .full _ _ | .raw _ _ _ | .bool _ | .int _ _ | .str _ | .nilp | .ptr _ _ | .rptr _ _ | .msl _ _ _ | .map _ | .yield _ | .nilf | .nilif | .junk => by simp [AV.untok]
  | .agg cs | .tup cs => by simp [AV.untok, AV.untokL_untokL cs]
  | .iface _ v => by simp [AV.untok, AV.untok_untok v]
  | .fn _ a c => by simp [AV.untok, AV.untokL_untokL a, AV.untokL_untokL c]
@[simp] theorem AV.untokL_untokL : ∀ xs : List AV, AV.untokL (AV.untokL xs) = AV.untokL xs
  | [] => rfl
  | x :: xs => by simp [AV.untokL, AV.untok_untok x, AV.untokL_untokL xs]
end
@[simp] theorem untokL_length : ∀ l : List AV, (AV.untokL l).length = l.length
  | [] => rfl
  | _ :: l => by simp [AV.untokL, untokL_length l]

/- a slice that is made by append, from nil on -/
def outV (z T : Nat) (ys : List AV) : AV := if ys = [] then .sl .nil z [] else .sl (.tok T) z ys
def outT (tk : List Nat) (ys : List AV) : List Nat := if ys = [] then tk else tk ++ [ys.length]
def endV (z : Nat) (ys : List AV) : AV := if ys = [] then .sl .nil z [] else .sl .any z ys
@[simp] theorem outV_nil (z T : Nat) : outV z T [] = .sl .nil z [] := rfl
@[simp] theorem outT_nil (tk : List Nat) : outT tk [] = tk := rfl
theorem outV_untok (z T : Nat) (ys : List AV) : (outV z T ys).untok = endV z ys := by
  unfold outV endV; split <;> rfl
theorem outV_data (z T : Nat) (ys : List AV) : (outV z T ys).data = AV.dataL ys := by
  unfold outV; split
  · rename_i h; subst h; rfl
  · rfl
theorem endV_sl (z : Nat) (ys : List AV) : ∃ o, endV z ys = .sl o z ys ∧ (o = .nil → ys = []) := by
  unfold endV; split
  · rename_i h; subst h; exact ⟨_, rfl, fun _ => rfl⟩
  · exact ⟨_, rfl, fun h => by cases h⟩
theorem outV_sl (z T : Nat) (ys : List AV) : ∃ o, outV z T ys = .sl o z ys ∧ (o = .nil → ys = []) ∧ (AV.sl o z ys).untok = endV z ys := by
  unfold outV endV; split
  · rename_i h; subst h; exact ⟨_, rfl, (fun _ => rfl), rfl⟩
  · exact ⟨_, rfl, (fun h => by cases h), rfl⟩
theorem app_outs {bl : List AB} {tk : List Nat} {ro rt z : Nat} {ys zs : List AV} {o : Own} (hl : ys.length + zs.length ≤ most) (hr : rt ≤ tk.length) :
    appA { bl, tk := outT tk ys, ro, rt } z (outV z tk.length ys) (.sl o z zs) = some (outV z tk.length (ys ++ AV.untokL zs), { bl, tk := outT tk (ys ++ AV.untokL zs), ro, rt }) := by
  cases zs with
  | nil => by_cases hy : ys = [] <;> simp [outV, outT, appA, ysOf, AV.untokL, hy] <;> simpa using hl
  | cons a zs =>
    simp only [List.length_cons] at hl
    by_cases hy : ys = []
    · subst hy
      simp only [List.length_nil, Nat.zero_add] at hl
      simp [outV, outT, appA, ysOf, AV.untokL, hl]
    · simp [outV, outT, appA, ysOf, AV.untokL, hy, hl, hr]
theorem app_one {bl : List AB} {tk : List Nat} {ro rt z : Nat} {ys : List AV} {y : AV} {o : Own} (hl : ys.length < most) (hr : rt ≤ tk.length) :
    appA { bl, tk := outT tk ys, ro, rt } z (outV z tk.length ys) (.sl o z [y]) = some (outV z tk.length (ys ++ [y.untok]), { bl, tk := outT tk (ys ++ [y.untok]), ro, rt }) :=
  app_outs (zs := [y]) hl hr
theorem Rts.untokL : ∀ {ts : List Tm} {ys : List AV}, Rts ts ys → Rts ts (AV.untokL ys)
  | [], _, h => by simp only [Rts] at h; subst h; simp [Rts, AV.untokL]
  | t :: ts, _, h => by
    simp only [Rts] at h
    obtain ⟨y, r, rfl, h1, h2⟩ := h
    simp only [AV.untokL, Rts]
    exact ⟨_, _, rfl, h1.untok, Rts.untokL h2⟩
theorem Sl.end {ts : List Tm} {ys : List AV} (h : Rts ts ys) (hm : ys.length ≤ maxLen) : Sl ts (endV 3 ys) := by
  obtain ⟨o, h1, h2⟩ := endV_sl 3 ys
  exact ⟨o, ys, h1, ⟨hm, h2⟩, h⟩
end Ab

/- Loops over functions: rounds of a body, goal by goal. No condition. -/
namespace Ab
open Go

/- at the end of a round: what becomes of the loop -/
def roundW (i : Nat) (L : ALoop) (Post : Bool → St → Prop) : Pst := fun o _ s => s.bl[i]? = some (.loop { L with st := .busy }) ∧ (match o with
  | .normal => Post true (s.setb i (.loop { L with st := .ready, pend := none }))
  | .exit id => Post false (s.setb i (.loop { L with st := .done, pend := some (.exit id) }))
  | .ret => Post false (s.setb i (.loop { L with st := .done, pend := some .ret }))
  | .pan _ => False)
section
variable {i : Nat} {L : ALoop} {Post : Bool → St → Prop} {e : Env} {s : St}
@[simp] theorem roundW_normal : roundW i L Post .normal e s = (s.bl[i]? = some (.loop { L with st := .busy }) ∧ Post true (s.setb i (.loop { L with st := .ready, pend := none }))) := rfl
@[simp] theorem roundW_exit (id : Nat) : roundW i L Post (.exit id) e s = (s.bl[i]? = some (.loop { L with st := .busy }) ∧ Post false (s.setb i (.loop { L with st := .done, pend := some (.exit id) }))) := rfl
@[simp] theorem roundW_ret : roundW i L Post .ret e s = (s.bl[i]? = some (.loop { L with st := .busy }) ∧ Post false (s.setb i (.loop { L with st := .done, pend := some .ret }))) := rfl
end
/- ahead of a round: what the variables of the loop get -/
def startW (E : IEnv) (call : Caller) (n : Nat) (i : Nat) (L : ALoop) (Post : Bool → St → Prop) : Pst := fun o e s => o = .normal ∧ s.bl[i]? = some (.loop L) ∧ wp E call n true L.body (roundW i L Post) e (s.setb i (.loop { L with st := .busy }))
@[simp] theorem startW_normal (E : IEnv) (call : Caller) (n : Nat) (i : Nat) (L : ALoop) (Post : Bool → St → Prop) (e : Env) (s : St) : startW E call n i L Post .normal e s = (s.bl[i]? = some (.loop L) ∧ wp E call n true L.body (roundW i L Post) e (s.setb i (.loop { L with st := .busy }))) := by simp [startW]

theorem call_round {E : IEnv} {k i : Nat} {args : List AV} {s : St} {L : ALoop} {Post : Bool → St → Prop} (hL : s.bl[i]? = some (.loop L)) (hst : L.st = .ready) (hn : args.length = L.ps.length) (hro : s.ro ≤ i)
    (h : wp E (callA E k) k true L.assign (startW E (callA E k) k i L Post) (putAll L.ps args L.env) s) : ∃ b s', callA E (k + 1) none (.yield i) args s = some (.ret (.bool b), false, s') ∧ Post b s' := by
  obtain ⟨o, e1, s1, h1, rfl, h2, h3⟩ := wp_run h
  obtain ⟨o2, e2, s2, h4, h5, h6⟩ := wp_run h3
  have hc : codeA E (callA E k) k L.assign { env := putAll L.ps args L.env, defers := [], rcv := none, recd := false, rnd := true } s = some (.normal, frW true e1, s1) := h1
  have hb : codeA E (callA E k) k L.body (frW true e1) (s1.setb i (.loop { L with st := .busy })) = some (o2, frW true e2, s2) := h4
  cases o2 with
  | normal => exact ⟨true, _, by simp only [callA, Option.isSome_none, Bool.false_eq_true, if_false, roundA, hL, hn, hro, and_self, if_true, hc, h2, hst, hb, h5], h6⟩
  | exit id => exact ⟨false, _, by simp only [callA, Option.isSome_none, Bool.false_eq_true, if_false, roundA, hL, hn, hro, and_self, if_true, hc, h2, hst, hb, h5], h6⟩
  | ret => exact ⟨false, _, by simp only [callA, Option.isSome_none, Bool.false_eq_true, if_false, roundA, hL, hn, hro, and_self, if_true, hc, h2, hst, hb, h5], h6⟩
  | pan v => exact h6.elim

/- behind the call of the iterator -/
def overW (i : Nat) (e : Env) (Q : Pst) (s : St) : Prop := ∃ L, s.bl[i]? = some (.loop L) ∧ ((L.st = .ready ∧ L.pend = none ∧ Q .normal e (s.setb i (.loop { L with st := .exhausted }))) ∨ (∃ id, L.st = .done ∧ L.pend = some (.exit id) ∧ Q (.exit id) e (s.setb i (.loop { L with st := .exhausted }))) ∨ (L.st = .done ∧ L.pend = some .ret ∧ Q .ret e (s.setb i (.loop { L with st := .exhausted }))))
theorem wp_range {E : IEnv} {call : Caller} {n : Nat} {r : Bool} {g : Opd} {ps : List Nat} {a b : ICode} {Q : Pst} {e : Env} {s : St}
    (h : ∃ v rd s', call none (g.ev E e) [.yield s.bl.length] (s.push (.loop { st := .ready, pend := none, env := e, ps, assign := a, body := b })) = some (.ret v, rd, s') ∧ overW s.bl.length e Q s') : wp E call n r (.rangeFn g ps a b) Q e s := by
  obtain ⟨v, rd, s', h1, L, h2, h3⟩ := h
  simp only [wp, codeA, h1, h2]
  rcases h3 with ⟨h4, h5, q⟩ | ⟨id, h4, h5, q⟩ | ⟨h4, h5, q⟩
  · rw [if_neg (by rw [h4]; exact fun h => by cases h)]; simp only [h5]; exact ⟨_, _, rfl, by simpa only [h5] using q⟩
  · rw [if_neg (by rw [h4]; exact fun h => by cases h)]; simp only [h5]; exact ⟨_, _, rfl, by simpa only [h5] using q⟩
  · rw [if_neg (by rw [h4]; exact fun h => by cases h)]; simp only [h5]; exact ⟨_, _, rfl, by simpa only [h5] using q⟩
end Ab

/- All terms of an expression, each ahead of its Kids; a step from term to term. No condition. -/
namespace Ab
open Go Go.RowKit
mutual
def preT : Tm → List Tm
  | .mk k s kids => .mk k s kids :: preS kids
def preS : List Tm → List Tm
  | [] => []
  | t :: ts => preT t ++ preS ts
end
theorem preT_eq (t : Tm) : preT t = t :: preS t.kids := by cases t; simp only [preT, Tm.kids]
theorem preS_cons (t : Tm) (ts : List Tm) : preS (t :: ts) = t :: (preS t.kids ++ preS ts) := by simp only [preS, preT_eq, List.cons_append]
theorem preS_append : ∀ a b : List Tm, preS (a ++ b) = preS a ++ preS b
  | [], b => by simp [preS]
  | t :: a, b => by simp [preS, preS_append a b]
mutual
theorem preT_length : ∀ t : Tm, (preT t).length = nT t
  | .mk k s kids => by simp only [preT, nT, List.length_cons, preS_length kids]; omega
theorem preS_length : ∀ ts : List Tm, (preS ts).length = nTs ts
  | [] => rfl
  | t :: ts => by simp only [preS, nTs, List.length_append, preT_length t, preS_length ts]
end
def foldO {α : Type} (y : α → Tm → Option α) : α → List Tm → Option α
  | a, [] => some a
  | a, t :: ts => match y a t with
    | some b => foldO y b ts
    | none => none
theorem foldO_append {α : Type} (y : α → Tm → Option α) : ∀ (a : α) (l r : List Tm), foldO y a (l ++ r) = match foldO y a l with | some b => foldO y b r | none => none
  | a, [], r => rfl
  | a, t :: l, r => by
    simp only [List.cons_append, foldO]
    cases y a t with
    | none => rfl
    | some b => exact foldO_append y b l r
end Ab

/- Small expressions as plain data. No condition. -/
namespace Ab
open Go Go.RowKit
mutual
def nodesL (d : Nat) (left n : Int) : List Tm → Int
  | [] => n
  | t :: ts => if n ≤ left then (if 150 < d then left + 1 else nodesL d left (n + (1 + nodesK (d + 1) (left - n - 1) t)) ts) else n
def nodesK (d : Nat) (left : Int) : Tm → Int
  | .mk _ _ kids => nodesL d left 0 kids
end
theorem nodesK_eq (d : Nat) (left : Int) (t : Tm) : nodesK d left t = nodesL d left 0 t.kids := by cases t; simp only [nodesK, Tm.kids]
mutual
theorem nodesL_bound (d : Nat) (left n : Int) : ∀ ts : List Tm, 0 ≤ n → n ≤ nodesL d left n ts ∧ nodesL d left n ts ≤ max n (left + 1)
  | [], h => by simp only [nodesL]; omega
  | t :: ts, h => by
    simp only [nodesL]
    split
    · split
      · omega
      · have h1 := nodesK_bound (d + 1) (left - n - 1) t
        have h2 := nodesL_bound d left (n + (1 + nodesK (d + 1) (left - n - 1) t)) ts (by omega)
        omega
    · omega
theorem nodesK_bound (d : Nat) (left : Int) : ∀ t : Tm, 0 ≤ nodesK d left t ∧ nodesK d left t ≤ max 0 (left + 1)
  | .mk _ _ kids => by
    have := nodesL_bound d left 0 kids (by omega)
    simp only [nodesK]; omega
end
mutual
theorem nodesL_exact (d : Nat) (left n : Int) : ∀ ts : List Tm, 0 ≤ n → nodesL d left n ts ≤ left → nodesL d left n ts = n + nTs ts
  | [], h, h' => by simp only [nodesL, nTs]; omega
  | t :: ts, h, h' => by
    simp only [nodesL] at h' ⊢
    split at h'
    · rename_i h1
      rw [if_pos h1]
      split at h'
      · omega
      · rename_i h2
        rw [if_neg h2]
        have h3 := nodesK_bound (d + 1) (left - n - 1) t
        have h4 := nodesL_bound d left (n + (1 + nodesK (d + 1) (left - n - 1) t)) ts (by omega)
        have h5 := nodesL_exact d left (n + (1 + nodesK (d + 1) (left - n - 1) t)) ts (by omega) h'
        have h6 := nodesK_exact (d + 1) (left - n - 1) t (by omega)
        simp only [nTs]
        omega
    · omega
theorem nodesK_exact (d : Nat) (left : Int) : ∀ t : Tm, nodesK d left t ≤ left → 1 + nodesK d left t = nT t
  | .mk _ _ kids, h => by
    simp only [nodesK] at h ⊢
    have := nodesL_exact d left 0 kids (by omega) h
    simp only [nT]; omega
end
mutual
def shortL : List Tm → Bool
  | [] => true
  | t :: ts => shortE t && shortL ts
def shortE : Tm → Bool
  | .mk _ s kids => decide (s.length ≤ 600) && shortL kids
end
theorem shortE_eq (t : Tm) : shortE t = (decide (t.text.length ≤ 600) && shortL t.kids) := by cases t; rw [shortE]; rfl
mutual
theorem shortL_pre : ∀ ts : List Tm, shortL ts = true → ∀ t ∈ preS ts, t.text.length ≤ 600
  | [], _, t, h => by simp [preS] at h
  | u :: ts, hs, t, h => by
    simp only [shortL, Bool.and_eq_true] at hs
    simp only [preS, List.mem_append] at h
    rcases h with h | h
    · exact shortE_pre u hs.1 t h
    · exact shortL_pre ts hs.2 t h
theorem shortE_pre : ∀ u : Tm, shortE u = true → ∀ t ∈ preT u, t.text.length ≤ 600
  | .mk k s kids, hs, t, h => by
    simp only [shortE, Bool.and_eq_true, decide_eq_true_eq] at hs
    simp only [preT, List.mem_cons] at h
    rcases h with rfl | h
    · exact hs.1
    · exact shortL_pre kids hs.2 t h
end
def smallT (ts : List Tm) (m : Int) : Bool := decide (nodesL 0 m 0 ts ≤ m) && shortL ts
theorem smallT_nodes {ts : List Tm} {m : Int} (h : smallT ts m = true) : (nTs ts : Int) ≤ m := by
  simp only [smallT, Bool.and_eq_true, decide_eq_true_eq] at h
  have := nodesL_exact 0 m 0 ts (by omega) h.1
  omega
theorem smallT_short {ts : List Tm} {m : Int} (h : smallT ts m = true) : ∀ t ∈ preS ts, t.text.length ≤ 600 := by
  simp only [smallT, Bool.and_eq_true] at h
  exact shortL_pre ts h.2
end Ab

/- What 'chiasmuslaw09.Small' answers. No condition but the table. -/
namespace Ab.R
open Go Ab Go.RowKit
set_option maxRecDepth 10000
set_option linter.unusedSimpArgs false
set_option linter.unusedVariables false
section
variable {E : IEnv} (hE : E.fns = Table.fn table)
include hE
theorem fn_nodes : ∀ (n : Nat) {ts : List Tm} {v : AV} (d : Nat) (left : Int), nTs ts < n → d ≤ 151 → -1 ≤ left → left ≤ 1000000 → Sl ts v → FnK (2 * nTs ts + 3) E (.fn n_chiasmuslaw09_nodes [] []) [v, .int .i64 left, .int .i64 d] (.int .i64 (nodesL d left 0 ts))
  | 0, _, _, _, _, h, _, _, _, _ => by omega
  | n + 1, ts, v, d, left, hn, hd, hl0, hl1, hv => by
    obtain ⟨o1, xs, rfl, ⟨hm1, _⟩, h1⟩ := hv
    have hl := h1.length
    have hlt := length_le_nTs ts
    have hmx : maxLen = 9223372036854775807 := rfl
    refine FnK.byW (h_chiasmuslaw09_nodes hE) rfl rfl (K := 2 * nTs ts + 2) fun k hk bl tk => ?_
    simp [F_chiasmuslaw09_nodes, b_chiasmuslaw09_nodes]
    refine wp_loop xs.length (fun i e s => ∃ m : Int, 0 ≤ m ∧ m ≤ left + 1 ∧ nodesL d left 0 ts = nodesL d left m (ts.drop i) ∧ e = [(0, .sl o1 3 xs), (1, .int .i64 left), (2, .int .i64 d), (7, .int .i64 m), (8, .int .i64 i)] ∧ s = { bl := bl, tk, ro := bl.length, rt := tk.length }) (by omega) ⟨0, by simp; omega⟩ ?_ ?_
    · rintro i e s hi ⟨m, hm0, hm1', hq, rfl, rfl⟩
      obtain ⟨t, ht⟩ : ∃ t, ts[i]? = some t := ⟨_, List.getElem?_eq_getElem (by omega)⟩
      obtain ⟨x, hx, hrx⟩ := h1.get ht
      obtain ⟨kx, rfl, hkx⟩ := hrx.open
      obtain ⟨hi1, hx1⟩ := List.getElem?_eq_some_iff.1 hx
      have e1 : idx (.int .i64 i) xs.length = some i := idx_nat hi1
      have hwr : IntKind.wrap .i64 ((i : Int) + 1) = i + 1 := wrapIn (by omega) (by omega)
      obtain ⟨hti, ht1⟩ := List.getElem?_eq_some_iff.1 ht
      have hle := nT_mem (List.mem_of_getElem? ht)
      rw [nT_eq] at hle
      rw [List.drop_eq_getElem_cons hti, ht1, nodesL] at hq
      by_cases c1 : m ≤ left
      · rw [if_pos c1] at hq
        by_cases c2 : 150 < d
        · rw [if_pos c2] at hq
          have c2' : (150 : Int) < (d : Int) := by omega
          have w1 : IntKind.wrap .i64 (left + 1) = left + 1 := wrapIn (by omega) (by omega)
          simp [l0_chiasmuslaw09_nodes, hi, c1, c2', w1, hq]
        · rw [if_neg c2, nodesK_eq] at hq
          have c2' : ¬ (150 : Int) < (d : Int) := by omega
          have hb := nodesL_bound (d + 1) (left - m - 1) 0 t.kids (by omega)
          have hc := fn_nodes n (d + 1) (left - m - 1) (by omega) (by omega) (by omega) (by omega) hkx k (by omega)
          obtain ⟨r, hr⟩ : ∃ r, r = nodesL (d + 1) (left - m - 1) 0 t.kids := ⟨_, rfl⟩
          rw [← hr] at hc hq hb
          have w1 : IntKind.wrap .i64 (left - m) = left - m := wrapIn (by omega) (by omega)
          have w2 : IntKind.wrap .i64 (left - m - 1) = left - m - 1 := wrapIn (by omega) (by omega)
          have w3 : IntKind.wrap .i64 ((d : Int) + 1) = (d : Int) + 1 := wrapIn (by omega) (by omega)
          have w4 : IntKind.wrap .i64 (1 + r) = 1 + r := wrapIn (by omega) (by omega)
          have w5 : IntKind.wrap .i64 (m + (1 + r)) = m + (1 + r) := wrapIn (by omega) (by omega)
          have hc' : ∀ s, callA E k none (.fn n_chiasmuslaw09_nodes [] []) [kx, .int .i64 (left - m - 1), .int .i64 ((d : Int) + 1)] s = some (.ret (.int .i64 r), false, s) := by exact_mod_cast hc
          simp [l0_chiasmuslaw09_nodes, hi, c1, c2', e1, hi1, hx, hx1, w1, w2, w3, w4, w5, hc', hwr]
          exact ⟨_, by omega, by omega, hq, rfl⟩
      · rw [if_neg c1] at hq
        simp [l0_chiasmuslaw09_nodes, hi, c1, hq]
    · rintro e s ⟨m, hm0, hm1', hq, rfl, rfl⟩
      rw [List.drop_of_length_le (by omega), nodesL] at hq
      simp [l0_chiasmuslaw09_nodes, hq]

theorem fn_short : ∀ (n : Nat) {ts : List Tm} {v : AV}, nTs ts < n → Sl ts v → FnK (2 * nTs ts + 3) E (.fn n_chiasmuslaw09_short [] []) [v] (.bool (shortL ts))
  | 0, _, _, h, _ => by omega
  | n + 1, ts, v, hn, hv => by
    obtain ⟨o1, xs, rfl, ⟨hm1, _⟩, h1⟩ := hv
    have hl := h1.length
    have hlt := length_le_nTs ts
    have hmx : maxLen = 9223372036854775807 := rfl
    refine FnK.byW (h_chiasmuslaw09_short hE) rfl rfl (K := 2 * nTs ts + 2) fun k hk bl tk => ?_
    simp [F_chiasmuslaw09_short, b_chiasmuslaw09_short]
    refine wp_loop xs.length (fun i e s => shortL ts = shortL (ts.drop i) ∧ e = [(0, .sl o1 3 xs), (3, .int .i64 i)] ∧ s = { bl := bl, tk, ro := bl.length, rt := tk.length }) (by omega) (by simp) ?_ ?_
    · rintro i e s hi ⟨hq, rfl, rfl⟩
      obtain ⟨t, ht⟩ : ∃ t, ts[i]? = some t := ⟨_, List.getElem?_eq_getElem (by omega)⟩
      obtain ⟨x, hx, hrx⟩ := h1.get ht
      obtain ⟨kx, rfl, hkx⟩ := hrx.open
      obtain ⟨hi1, hx1⟩ := List.getElem?_eq_some_iff.1 hx
      have e1 : idx (.int .i64 i) xs.length = some i := idx_nat hi1
      have hwr : IntKind.wrap .i64 ((i : Int) + 1) = i + 1 := wrapIn (by omega) (by omega)
      obtain ⟨hti, ht1⟩ := List.getElem?_eq_some_iff.1 ht
      have hle := nT_mem (List.mem_of_getElem? ht)
      rw [nT_eq] at hle
      rw [List.drop_eq_getElem_cons hti, ht1, shortL, shortE_eq] at hq
      by_cases c1 : t.text.length ≤ 600
      · have c1' : ¬ (600 : Int) < (t.text.length : Int) := by omega
        have hc := fn_short n (by omega) hkx k (by omega)
        simp only [c1, decide_true, Bool.true_and] at hq
        cases c2 : shortL t.kids with
        | true =>
          rw [c2, Bool.true_and] at hq
          rw [c2] at hc
          simp [l0_chiasmuslaw09_short, hi, c1', e1, hi1, hx, hx1, hc, hwr, hq]
        | false =>
          rw [c2, Bool.false_and] at hq
          rw [c2] at hc
          simp [l0_chiasmuslaw09_short, hi, c1', e1, hi1, hx, hx1, hc, hwr, hq]
      · have c1' : (600 : Int) < (t.text.length : Int) := by omega
        simp only [c1, decide_false, Bool.false_and] at hq
        simp [l0_chiasmuslaw09_short, hi, c1', e1, hi1, hx, hx1, hwr, hq]
    · rintro e s ⟨hq, rfl, rfl⟩
      rw [List.drop_of_length_le (by omega), shortL] at hq
      simp [l0_chiasmuslaw09_short, hq]

theorem fn_Small {ts : List Tm} {v : AV} (hv : Sl ts v) (m : Int) (h0 : 0 ≤ m) (h1 : m ≤ 1000000) : Fn E (.fn n_chiasmuslaw09_Small [] []) [v, .int .i64 m] (.bool (smallT ts m)) := by
  have hn := fn_nodes hE _ 0 m (Nat.lt_succ_self _) (by omega) (by omega) h1 hv
  have hs := fn_short hE _ (Nat.lt_succ_self _) hv
  refine Fn.byW (h_chiasmuslaw09_Small hE) rfl rfl ⟨2 * nTs ts + 3, fun k hk bl tk => ?_⟩
  have hn' : ∀ s, callA E k none (.fn n_chiasmuslaw09_nodes [] []) [v, .int .i64 m, .int .i64 0] s = some (.ret (.int .i64 (nodesL 0 m 0 ts)), false, s) := by exact_mod_cast hn k hk
  have hs' := hs k hk
  unfold smallT
  by_cases c : nodesL 0 m 0 ts ≤ m
  · simp [F_chiasmuslaw09_Small, b_chiasmuslaw09_Small, hn', hs', c]
  · simp [F_chiasmuslaw09_Small, b_chiasmuslaw09_Small, hn', hs', c]
end
end Ab.R

/- What the small functions of 'format' answer. No condition but the table. -/
namespace Ab.R
open Go Ab Go.RowKit
set_option maxRecDepth 10000
set_option linter.unusedSimpArgs false

section
variable {E : IEnv} (hE : E.fns = Table.fn table)
include hE

theorem fn_split_1 {t : Tm} {x : AV} (h : Rt t x) : FnK 1 E (.fn n_format_split_1 [] []) [x] (.bool (t.kind == 7)) := by
  obtain ⟨o, ys, rfl, _, _⟩ := h.shape
  refine FnK.of (h_format_split_1 hE) rfl rfl (K := 0) fun n hn bl tk => ?_
  simp [F_format_split_1, b_format_split_1, finR, fr0]
end

abbrev nIF := n_slices_IndexFunc___api_Term_api_Term_
def ifHead (o : Own) (xs : List AV) (f : AV) (i : Nat) : Env := [(0, .sl o 3 xs), (1, f), (7, .int .i64 xs.length), (8, .int .i64 i)]

theorem loop_IndexFunc {E : IEnv} {call : Caller} {k : Nat} (o : Own) {ts : List Tm} {xs : List AV} (hR : Rts ts xs) (f : AV) (p : Tm → Bool) (hn : xs.length ≤ maxLen)
    (hf : ∀ q ∈ ts.zip xs, ∀ s, call none f [q.2] s = some (.ret (.bool (p q.1)), false, s)) : ∀ (j i m : Nat) (fr : Fr) (s : St), i + j = ts.length → j < m → fr.env.kill [4, 5, 9, 16] = ifHead o xs f i → fr.defers = [] → fr.recd = false → (∀ t ∈ ts.take i, p t = false) →
      ∃ fr', iterA (codeA E call k l0_slices_IndexFunc___api_Term_api_Term_) [4, 5, 9, 16] m fr s = some (match ts.findIdx? p with | some _ => .ret | none => .exit 0, fr', s) ∧ fr'.defers = [] ∧ fr'.recd = false ∧ (∀ q, ts.findIdx? p = some q → fr'.env.get 4 = .int .i64 q)
  | 0, i, m + 1, fr, s, hi, hm, he, hd, hr, hp => by
    have hl := hR.length
    have : i = ts.length := by omega
    subst this
    simp only [List.take_length] at hp
    have hnone : ts.findIdx? p = none := by simpa using hp
    simp [iterA, he, l0_slices_IndexFunc___api_Term_api_Term_, ifHead, hnone, hl]
    exact ⟨hd, hr⟩
  | j + 1, i, m + 1, fr, s, hi, hm, he, hd, hr, hp => by
    have hl := hR.length
    have hlt : i < ts.length := by omega
    have hltx : i < xs.length := by omega
    have hmx : xs.length ≤ 9223372036854775807 := hn
    obtain ⟨y, hy, hry⟩ := hR.get (List.getElem?_eq_getElem hlt)
    have hyi : xs[i] = y := by rw [List.getElem?_eq_getElem hltx] at hy; simpa using hy
    have hcall := hf (ts[i], y) (by
      refine List.mem_iff_getElem?.2 ⟨i, ?_⟩
      rw [List.getElem?_zip_eq_some]
      exact ⟨List.getElem?_eq_getElem hlt, hy⟩)
    obtain ⟨o', ys, rfl, _, _⟩ := hry.shape
    simp only at hcall
    have hidx : idx (.int .i64 i) xs.length = some i := idx_nat hltx
    have hw : IntKind.wrap .i64 ((i : Int) + 1) = i + 1 := wrapIn (by omega) (by omega)
    cases hpx : p ts[i] with
    | true =>
      have hfind : ts.findIdx? p = some i := by
        rw [List.findIdx?_eq_some_iff_getElem]
        refine ⟨hlt, hpx, fun q hq => ?_⟩
        have := hp ts[q] (by rw [List.mem_take_iff_getElem]; exact ⟨q, by omega, rfl⟩)
        simpa using this
      simp [iterA, he, l0_slices_IndexFunc___api_Term_api_Term_, ifHead, hltx, hidx, hyi, hcall, hpx, hfind, hd, hr]
    | false =>
      have step : iterA (codeA E call k l0_slices_IndexFunc___api_Term_api_Term_) [4, 5, 9, 16] (m + 1) fr s = iterA (codeA E call k l0_slices_IndexFunc___api_Term_api_Term_) [4, 5, 9, 16] m { fr with env := [(0, .sl o 3 xs), (1, f), (5, .int .i64 i), (7, .int .i64 xs.length), (8, .int .i64 (i + 1)), (9, .bool true), (16, .bool false)] } s := by
        conv => lhs; rw [iterA]
        simp [he, l0_slices_IndexFunc___api_Term_api_Term_, ifHead, hltx, hidx, hyi, hcall, hpx, hw]
      rw [step]
      refine loop_IndexFunc o hR f p hn hf j (i + 1) m _ s (by omega) (by omega) (by simp [ifHead]) hd hr ?_
      intro t ht
      rw [List.take_add_one, List.getElem?_eq_getElem hlt] at ht
      simp only [Option.toList_some, List.mem_append, List.mem_singleton] at ht
      rcases ht with ht | rfl
      · exact hp t ht
      · exact hpx

section
variable {E : IEnv} (hE : E.fns = Table.fn table)
include hE

theorem fn_IndexFunc {Kf : Nat} (o : Own) {ts : List Tm} {xs : List AV} (hR : Rts ts xs) (hn : xs.length ≤ maxLen) (f : AV) (p : Tm → Bool) (hf : ∀ t x, t ∈ ts → Rt t x → FnK Kf E f [x] (.bool (p t))) :
    FnK (Kf + ts.length + 3) E (.fn nIF [] []) [.sl o 3 xs, f] (.int .i64 (match ts.findIdx? p with | some i => (i : Int) | none => -1)) := by
  have hz : ∀ k, Kf ≤ k → ∀ q ∈ ts.zip xs, ∀ s, callA E k none f [q.2] s = some (.ret (.bool (p q.1)), false, s) := by
    intro k hk q hq
    obtain ⟨i, hi⟩ := List.mem_iff_getElem?.1 hq
    obtain ⟨h1, h2⟩ := List.getElem?_zip_eq_some.1 hi
    obtain ⟨y, h3, h4⟩ := hR.get h1
    rw [h3] at h2; cases h2
    exact hf q.1 q.2 (List.mem_of_getElem? h1) h4 k hk
  refine FnK.of (h_slices_IndexFunc___api_Term_api_Term_ hE) rfl rfl (K := Kf + ts.length + 2) fun k hk bl tk => ?_
  obtain ⟨fr', h1, h2, h3, h4⟩ := loop_IndexFunc (E := E) (call := callA E k) (k := k) o hR f p hn (hz k (by omega)) ts.length 0 k { env := [(0, .sl o 3 xs), (1, f), (4, .int .i64 0), (7, .int .i64 xs.length), (8, .int .i64 0)], defers := [], rcv := none, recd := false, rnd := false } { bl, tk, ro := bl.length, rt := tk.length } (by omega) (by omega) (by simp [ifHead]) rfl rfl (by simp)
  simp only [F_slices_IndexFunc___api_Term_api_Term_, b_slices_IndexFunc___api_Term_api_Term_, finR, fr0]
  simp [codeA_loop, h1]
  cases hq : ts.findIdx? p with
  | none => simp [h2, h3, Env.get_put]
  | some q => simp [h2, h3, h4 q hq]
end
end Ab.R

/- What 'format.split' answers. No condition but the table. -/
namespace Ab.R
open Go Ab Go.RowKit
set_option maxRecDepth 10000
set_option linter.unusedSimpArgs false

structure Ls where
  op : Bool
  front : List Tm
  rear : List Tm
def splitT (l : List Tm) : Ls := match l.findIdx? (fun t => t.kind == 7) with
  | some i => ⟨true, l.take i, l.drop (i + 1)⟩
  | none => ⟨false, l, []⟩
def RLs (x : Ls) (v : AV) : Prop := ∃ f r, v = .agg [.bool x.op, f, r] ∧ Sl x.front f ∧ Sl x.rear r

def splitX (ts : List Tm) (xs : List AV) : List AV × List AV := match ts.findIdx? (fun t => t.kind == 7) with
  | some i => (xs.take i, xs.drop (i + 1))
  | none => (xs, [])
theorem splitX_front {ts : List Tm} {xs : List AV} (h : Rts ts xs) : Rts (splitT ts).front (splitX ts xs).1 := by
  unfold splitT splitX; split
  · exact h.take _
  · exact h
theorem splitX_rear {ts : List Tm} {xs : List AV} (h : Rts ts xs) : Rts (splitT ts).rear (splitX ts xs).2 := by
  unfold splitT splitX; split
  · exact h.drop _
  · simp [Rts]

section
variable {E : IEnv} (hE : E.fns = Table.fn table)
include hE
theorem fnk_split {o : Own} {ts : List Tm} {xs : List AV} (hn : xs.length ≤ maxLen) (ho : o = .nil → xs = []) (hR : Rts ts xs) : ∃ o1 o2, (o1 = .nil → (splitX ts xs).1 = []) ∧ (o2 = .nil → (splitX ts xs).2 = []) ∧
    FnK (ts.length + 5) E (.fn n_format_split [] []) [.sl o 3 xs] (.agg [.bool (splitT ts).op, .sl o1 3 (splitX ts xs).1, .sl o2 3 (splitX ts xs).2]) := by
  have hK := fn_IndexFunc hE o hR hn (.fn n_format_split_1 [] []) (fun t => t.kind == 7) (fun t x _ h => fn_split_1 hE h)
  have hd := hR.data
  have hl := hR.length
  have hm : maxLen = 9223372036854775807 := rfl
  cases hq : ts.findIdx? (fun t => t.kind == 7) with
  | none =>
    obtain ⟨o', hon, ho'⟩ := untok_sl o 3 xs
    simp only [splitT, splitX, hq]
    refine ⟨o', .nil, fun h => ho (hon h), by simp, FnK.of (h_format_split hE) rfl rfl (K := ts.length + 4) fun k hk bl tk => ?_⟩
    have h1 := hK k (by omega)
    simp only [hq] at h1
    simp [F_format_split, b_format_split, finR, fr0, h1, hd, ho']
  | some i =>
    have hlt : i < ts.length := (List.findIdx?_eq_some_iff_getElem.1 hq).1
    have hno : o ≠ .nil := fun h => by have := ho h; subst this; simp at hl; omega
    have hw : IntKind.wrap .i64 ((i : Int) + 1) = i + 1 := wrapIn (by omega) (by omega)
    have h2 := (hR.take i).data
    have h3 := (hR.drop (i + 1)).data
    obtain ⟨o1, hn1, hs1⟩ := slice_ok o 3 (by simp) xs none (some (.int .i64 i)) (l := 0) (h := i) (by simp [bound]; omega) (by simp [bound])
    obtain ⟨o2, hn2, hs2⟩ := slice_ok o 3 (by simp) xs (some (.int .i64 (i + 1))) none (l := i + 1) (h := xs.length) (by simp [bound]) (by simp [bound]; omega)
    obtain ⟨o1', hm1, hu1⟩ := untok_sl o1 3 (xs.take i)
    obtain ⟨o2', hm2, hu2⟩ := untok_sl o2 3 (xs.drop (i + 1))
    simp only [List.drop_zero] at hs1
    simp only [List.take_length] at hs2
    simp only [splitT, splitX, hq]
    refine ⟨o1', o2', fun h => absurd (hn1 (hm1 h)) hno, fun h => absurd (hn2 (hm2 h)) hno, FnK.of (h_format_split hE) rfl rfl (K := ts.length + 4) fun k hk bl tk => ?_⟩
    have h1 := hK k (by omega)
    simp only [hq] at h1
    have hlt0 : ¬ ((i : Int) < 0) := by omega
    simp [F_format_split, b_format_split, finR, fr0, h1, hlt0, hs1, hs2, hw, h2, h3, hu1, hu2]
theorem fn_split {ts : List Tm} {v : AV} (h : Sl ts v) : ∃ r, Fn E (.fn n_format_split [] []) [v] r ∧ RLs (splitT ts) r := by
  obtain ⟨o, xs, rfl, ⟨hn, ho⟩, hR⟩ := h
  obtain ⟨o1, o2, h1, h2, h3⟩ := fnk_split hE hn ho hR
  have hf := splitX_front hR
  have hr := splitX_rear hR
  have hl1 : (splitX ts xs).1.length ≤ xs.length := by unfold splitX; split <;> simp; omega
  have hl2 : (splitX ts xs).2.length ≤ xs.length := by unfold splitX; split <;> simp
  exact ⟨_, ⟨_, h3⟩, _, _, rfl, ⟨_, _, rfl, ⟨by omega, h1⟩, hf⟩, ⟨_, _, rfl, ⟨by omega, h2⟩, hr⟩⟩
end
end Ab.R

/- What 'format.some' and 'slices.Clone' answer. No condition but the table. -/
namespace Ab.R
open Go Ab Go.RowKit
set_option maxRecDepth 10000
set_option linter.unusedSimpArgs false
section
variable {E : IEnv} (hE : E.fns = Table.fn table)
include hE
theorem fn_some : FnK 1 E (.fn n_format_some [] []) [] (.agg [.int .i64 7, .str [], .sl .nil 3 []]) := by
  refine FnK.of (h_format_some hE) rfl rfl (K := 0) fun k hk bl tk => ?_
  simp [F_format_some, b_format_some, finR, fr0]

end
end Ab.R

/- What 'slices.Clone' answers. No condition but the table. -/
namespace Ab.R
open Go Ab Go.RowKit
set_option maxRecDepth 10000
set_option linter.unusedSimpArgs false
section
variable {E : IEnv} (hE : E.fns = Table.fn table)
include hE
theorem fn_Clone {ts : List Tm} {v : AV} (h : Sl ts v) (hn : ts.length ≤ most) : ∃ r, Fn E (.fn n_slices_Clone___api_Term_api_Term_ [] []) [v] r ∧ Sl ts r := by
  obtain ⟨o, xs, rfl, ⟨_, ho⟩, hR⟩ := h
  have hR' := Rts.untokL hR
  have hd := hR'.data
  have hl := hR'.length
  have hl0 := hR.length
  have hm : maxLen = 9223372036854775807 := rfl
  have hmm : most = 1073741824 := rfl
  by_cases hon : o = .nil
  · subst hon
    have := ho rfl
    subst this
    refine ⟨.sl .nil 3 [], Fn.of (h_slices_Clone___api_Term_api_Term_ hE) rfl rfl ⟨0, fun k hk bl tk => ?_⟩, _, _, rfl, by simp, hR⟩
    simp [F_slices_Clone___api_Term_api_Term_, b_slices_Clone___api_Term_api_Term_, finR, fr0, aeq]
  · have ha : ∀ z, aeq .slice (.sl o 3 xs) (.sl .nil z []) = some false := by
      intro z; cases o <;> first | rfl | exact absurd rfl hon
    cases hx : AV.untokL xs with
    | nil =>
      refine ⟨.sl .full 3 [], Fn.of (h_slices_Clone___api_Term_api_Term_ hE) rfl rfl ⟨0, fun k hk bl tk => ?_⟩, _, _, rfl, by simp, by rw [hx] at hR'; exact hR'⟩
      have hx0 : xs = [] := by cases xs with | nil => rfl | cons _ _ => simp [AV.untokL] at hx
      subst hx0
      simp [F_slices_Clone___api_Term_api_Term_, b_slices_Clone___api_Term_api_Term_, finR, fr0, ha, setElems, repl, appA, ysOf, AV.untokL]
    | cons y r =>
      rw [hx] at hd hl hR'
      refine ⟨.sl .any 3 (y :: r), Fn.of (h_slices_Clone___api_Term_api_Term_ hE) rfl rfl ⟨0, fun k hk bl tk => ?_⟩, _, _, rfl, ⟨by rw [hl]; omega, by simp⟩, hR'⟩
      have hlen : (y :: r).length ≤ most := by omega
      simp only [List.length_cons] at hlen
      simp only [AV.dataL, Bool.and_eq_true] at hd
      simp [F_slices_Clone___api_Term_api_Term_, b_slices_Clone___api_Term_api_Term_, finR, fr0, ha, setElems, repl, appA, ysOf, hx, hlen, hd]
end
end Ab.R

/- What 'format.zip' answers. No condition but the table. -/
namespace Ab.R
open Go Ab Go.RowKit
set_option maxRecDepth 10000
set_option linter.unusedSimpArgs false
set_option linter.unusedVariables false

theorem zip_all {E : IEnv} {f : AV} {p : Tm → Tm → Tm} : ∀ {ts us : List Tm} {xs ys : List AV}, Rts ts xs → Rts us ys →
    (∀ t u x y, t ∈ ts → u ∈ us → Rt t x → Rt u y → ∃ v, Fn E f [x, y] v ∧ Rt (p t u) v) →
    ∃ vs : List AV, Rts (List.zipWith p ts us) vs ∧ ∃ K, ∀ k, K ≤ k → ∀ (i : Nat) x y, xs[i]? = some x → ys[i]? = some y → ∃ a b c, vs[i]? = some (AV.agg [a, b, c]).untok ∧ (∀ s, callA E k none f [x, y] s = some (.ret (.agg [a, b, c]), false, s))
  | [], us, xs, ys, h, h', hf => by
    simp only [Rts] at h; subst h
    exact ⟨[], by simp [Rts], 0, fun k _ i x y h => by simp at h⟩
  | t :: ts, [], xs, ys, h, h', hf => by
    simp only [Rts] at h'; subst h'
    exact ⟨[], by simp [Rts], 0, fun k _ i x y _ h => by simp at h⟩
  | t :: ts, u :: us, xs, ys, h, h', hf => by
    simp only [Rts] at h h'
    obtain ⟨x0, xs, rfl, h1, h2⟩ := h
    obtain ⟨y0, ys, rfl, h1', h2'⟩ := h'
    obtain ⟨v, ⟨K1, hv⟩, hr⟩ := hf t u x0 y0 (List.mem_cons_self ..) (List.mem_cons_self ..) h1 h1'
    obtain ⟨vs, hvs, K2, hK⟩ := zip_all h2 h2' fun t u x y ht hu => hf t u x y (List.mem_cons_of_mem _ ht) (List.mem_cons_of_mem _ hu)
    refine ⟨v.untok :: vs, ?_, K1 + K2, fun k hk i x y hx hy => ?_⟩
    · simp only [List.zipWith_cons_cons, Rts]; exact ⟨_, _, rfl, hr.untok, hvs⟩
    · cases i with
      | zero => simp at hx hy; subst hx; subst hy; obtain ⟨_, _, rfl, _, _⟩ := hr.shape; exact ⟨_, _, _, rfl, hv k (by omega)⟩
      | succ i => simpa using hK k (by omega) i x y hx hy

section
variable {E : IEnv} (hE : E.fns = Table.fn table)
include hE
theorem fn_zip {ts us : List Tm} {v w : AV} (hv : Sl ts v) (hw : Sl us w) (hl : ts.length ≤ us.length) (hm : ts.length ≤ most) (f : AV) (hcm : calm E f = true) (p : Tm → Tm → Tm)
    (hf : ∀ t u x y, t ∈ ts → u ∈ us → Rt t x → Rt u y → ∃ v, Fn E f [x, y] v ∧ Rt (p t u) v) : ∃ r, Fn E (.fn n_format_zip [] []) [v, w, f] r ∧ Sl (List.zipWith p ts us) r := by
  obtain ⟨o1, xs, rfl, _, h1⟩ := hv
  obtain ⟨o2, ys, rfl, _, h2⟩ := hw
  obtain ⟨vs, hvs, K, hK⟩ := zip_all h1 h2 hf
  have hl1 := h1.length
  have hl2 := h2.length
  have hlv := hvs.length
  simp only [List.length_zipWith] at hlv
  have hmm : most = 1073741824 := rfl
  have hmx : maxLen = 9223372036854775807 := rfl
  refine ⟨endV 3 vs, Fn.byW (h_format_zip hE) rfl rfl ⟨K + xs.length + 2, fun k hk bl tk => ?_⟩, Sl.end hvs (by omega)⟩
  simp [F_format_zip, b_format_zip]
  refine wp_loop xs.length (fun i e s => e = [(0, .sl o1 3 xs), (1, .sl o2 3 ys), (2, f), (7, outV 3 tk.length (vs.take i)), (10, .int .i64 xs.length), (11, .int .i64 i)] ∧ s = { bl, tk := outT tk (vs.take i), ro := bl.length, rt := tk.length }) (by omega) (by simp) ?_ ?_
  · rintro i e s hi ⟨rfl, rfl⟩
    obtain ⟨t, ht⟩ : ∃ t, ts[i]? = some t := ⟨_, List.getElem?_eq_getElem (by omega)⟩
    obtain ⟨u, hu⟩ : ∃ t, us[i]? = some t := ⟨_, List.getElem?_eq_getElem (by omega)⟩
    obtain ⟨x, hx, hrx⟩ := h1.get ht
    obtain ⟨y, hy, hry⟩ := h2.get hu
    obtain ⟨a, b, c, hl4, hc⟩ := hK k (by omega) i x y hx hy
    obtain ⟨_, _, rfl, _, _⟩ := hrx.shape
    obtain ⟨_, _, rfl, _, _⟩ := hry.shape
    obtain ⟨hi1, hx1⟩ := List.getElem?_eq_some_iff.1 hx
    obtain ⟨hi2, hy1⟩ := List.getElem?_eq_some_iff.1 hy
    have e1 : idx (.int .i64 i) xs.length = some i := idx_nat hi
    have e2 : idx (.int .i64 i) ys.length = some i := idx_nat hi2
    have hw : IntKind.wrap .i64 ((i : Int) + 1) = i + 1 := wrapIn (by omega) (by omega)
    have ht : vs.take (i + 1) = vs.take i ++ [(AV.agg [a, b, c]).untok] := by
      rw [List.take_add_one, hl4]; rfl
    have hlt : (vs.take i).length < most := by simp; omega
    simp [l0_format_zip, hcm, hi, hi2, e1, e2, hx1, hy1, hc, hw, ht, app_one, hlt, setElems, repl, hasSize, -List.length_take]
  · rintro e s ⟨rfl, rfl⟩
    have : vs.take xs.length = vs := by rw [List.take_of_length_le (by omega)]
    simp [l0_format_zip, outV_untok, outV_data, hvs.data, this]
end
end Ab.R
