/-
The tables are the program's. Conditions: none.
-/
import Derived.Test.YthdkeggdipogoaaGreatDoorGN
import Derived.Test.YthdkeggdipogoaaGreatDoorRows
import Derived.KernelRfl
namespace Go.Proofs.YthdkeggdipogoaaGreatDoor.Tz
open Go.Aug
set_option maxRecDepth 100000
theorem is_augurylaw11_EvalNorm : compFn Tryz.prog Tryz.f8 = some F_augurylaw11_EvalNorm := by kernel_rfl
theorem is_augurylaw08_Great : compFn Tryz.prog Tryz.f11 = some F_augurylaw08_Great := by kernel_rfl
theorem is_norm_Place : compFn Tryz.prog Tryz.f12 = some F_norm_Place := by kernel_rfl
theorem is_norm_Fold : compFn Tryz.prog Tryz.f15 = some F_norm_Fold := by kernel_rfl
theorem is_norm_Norm : compFn Tryz.prog Tryz.f18 = some F_norm_Norm := by kernel_rfl
theorem is_tree_Right : compFn Tryz.prog Tryz.f20 = some F_tree_Right := by kernel_rfl
theorem is_augurylaw11_head : compFn Tryz.prog Tryz.f23 = some F_augurylaw11_head := by kernel_rfl
theorem is_augurylaw05_GreatSchemas : compFn Tryz.prog Tryz.f24 = some F_augurylaw05_GreatSchemas := by kernel_rfl
theorem is_augurylaw11_GreatBound : compFn Tryz.prog Tryz.f25 = some F_augurylaw11_GreatBound := by kernel_rfl
theorem is_auguryref08_Right : compFn Tryz.prog Tryz.f26 = some F_auguryref08_Right := by kernel_rfl
theorem is_eval_All : compFn Tryz.prog Tryz.f27 = some F_eval_All := by kernel_rfl
theorem is_eval_Value : compFn Tryz.prog Tryz.f28 = some F_eval_Value := by kernel_rfl
theorem is_auguryref08_Parse : compFn Tryz.prog Tryz.f30 = some F_auguryref08_Parse := by kernel_rfl
theorem is_augurylaw08_greatExpr : compFn Tryz.prog Tryz.f32 = some F_augurylaw08_greatExpr := by kernel_rfl
theorem is_check_Vars : compFn Tryz.prog Tryz.f33 = some F_check_Vars := by kernel_rfl
theorem is_slices_Max_int : compFn Tryz.prog Tryz.f34 = some F_slices_Max_int := by kernel_rfl
theorem is_value_Add : compFn Tryz.prog Tryz.f36 = some F_value_Add := by kernel_rfl
theorem is_value_Sub : compFn Tryz.prog Tryz.f37 = some F_value_Sub := by kernel_rfl
theorem is_norm_key : compFn Tryz.prog Tryz.f41 = some F_norm_key := by kernel_rfl
theorem is_slices_SortFunc_keyed : compFn Tryz.prog Tryz.f42 = some F_slices_SortFunc_keyed := by kernel_rfl
theorem is_norm_Norm_1 : compFn Tryz.prog Tryz.f43 = some F_norm_Norm_1 := by kernel_rfl
theorem is_cmp_Or_int : compFn Tryz.prog Tryz.f44 = some F_cmp_Or_int := by kernel_rfl
theorem is_cmp_Compare_int : compFn Tryz.prog Tryz.f45 = some F_cmp_Compare_int := by kernel_rfl
theorem is_cmp_Compare_string : compFn Tryz.prog Tryz.f46 = some F_cmp_Compare_string := by kernel_rfl
theorem is_tree_item : compFn Tryz.prog Tryz.f49 = some F_tree_item := by kernel_rfl
theorem is_tree_expression : compFn Tryz.prog Tryz.f50 = some F_tree_expression := by kernel_rfl
theorem is_tree_name : compFn Tryz.prog Tryz.f51 = some F_tree_name := by kernel_rfl
theorem is_augurylaw11_one : compFn Tryz.prog Tryz.f52 = some F_augurylaw11_one := by kernel_rfl
theorem is_eval_Holds : compFn Tryz.prog Tryz.f53 = some F_eval_Holds := by kernel_rfl
theorem is_augurylaw05_GreatEvent : compFn Tryz.prog Tryz.f54 = some F_augurylaw05_GreatEvent := by kernel_rfl
theorem is_auguryref08_rightItem : compFn Tryz.prog Tryz.f55 = some F_auguryref08_rightItem := by kernel_rfl
theorem is_auguryref08_RightExpr : compFn Tryz.prog Tryz.f56 = some F_auguryref08_RightExpr := by kernel_rfl
theorem is_auguryref08_Name : compFn Tryz.prog Tryz.f57 = some F_auguryref08_Name := by kernel_rfl
theorem is_slices_ContainsFunc_Pred : compFn Tryz.prog Tryz.f58 = some F_slices_ContainsFunc_Pred := by kernel_rfl
theorem is_eval_All_1 : compFn Tryz.prog Tryz.f59 = some F_eval_All_1 := by kernel_rfl
theorem is_eval_scope_value : compFn Tryz.prog Tryz.f60 = some F_eval_scope_value := by kernel_rfl
theorem is_auguryref07_Read : compFn Tryz.prog Tryz.f66 = some F_auguryref07_Read := by kernel_rfl
theorem is_auguryref08_reader_query : compFn Tryz.prog Tryz.f67 = some F_auguryref08_reader_query := by kernel_rfl
theorem is_auguryref08_Sign : compFn Tryz.prog Tryz.f69 = some F_auguryref08_Sign := by kernel_rfl
theorem is_auguryref08_pick : compFn Tryz.prog Tryz.f71 = some F_auguryref08_pick := by kernel_rfl
theorem is_check_vars : compFn Tryz.prog Tryz.f72 = some F_check_vars := by kernel_rfl
theorem is_value_reckoned : compFn Tryz.prog Tryz.f74 = some F_value_reckoned := by kernel_rfl
theorem is_slices_pdqsortCmpFunc_keyed : compFn Tryz.prog Tryz.f78 = some F_slices_pdqsortCmpFunc_keyed := by kernel_rfl
theorem is_bits_Len : compFn Tryz.prog Tryz.f79 = some F_bits_Len := by kernel_rfl
theorem is_cmp_isNaN_int : compFn Tryz.prog Tryz.f80 = some F_cmp_isNaN_int := by kernel_rfl
theorem is_cmp_isNaN_string : compFn Tryz.prog Tryz.f81 = some F_cmp_isNaN_string := by kernel_rfl
theorem is_value_Right : compFn Tryz.prog Tryz.f82 = some F_value_Right := by kernel_rfl
theorem is_tree_plain : compFn Tryz.prog Tryz.f83 = some F_tree_plain := by kernel_rfl
theorem is_event_Word : compFn Tryz.prog Tryz.f84 = some F_event_Word := by kernel_rfl
theorem is_lex_Key : compFn Tryz.prog Tryz.f85 = some F_lex_Key := by kernel_rfl
theorem is_value_Compare : compFn Tryz.prog Tryz.f86 = some F_value_Compare := by kernel_rfl
theorem is_auguryref04_Right : compFn Tryz.prog Tryz.f87 = some F_auguryref04_Right := by kernel_rfl
theorem is_auguryref05_Word : compFn Tryz.prog Tryz.f88 = some F_auguryref05_Word := by kernel_rfl
theorem is_auguryref07_Key : compFn Tryz.prog Tryz.f89 = some F_auguryref07_Key := by kernel_rfl
theorem is_slices_IndexFunc_Pred : compFn Tryz.prog Tryz.f90 = some F_slices_IndexFunc_Pred := by kernel_rfl
theorem is_eval_scope_two : compFn Tryz.prog Tryz.f91 = some F_eval_scope_two := by kernel_rfl
theorem is_eval_scope_row : compFn Tryz.prog Tryz.f92 = some F_eval_scope_row := by kernel_rfl
theorem is_eval_scope_field : compFn Tryz.prog Tryz.f93 = some F_eval_scope_field := by kernel_rfl
theorem is_eval_scope_folded : compFn Tryz.prog Tryz.f94 = some F_eval_scope_folded := by kernel_rfl
theorem is_event_Find : compFn Tryz.prog Tryz.f95 = some F_event_Find := by kernel_rfl
theorem is_auguryref07_letter : compFn Tryz.prog Tryz.f104 = some F_auguryref07_letter := by kernel_rfl
theorem is_auguryref07_word : compFn Tryz.prog Tryz.f105 = some F_auguryref07_word := by kernel_rfl
theorem is_auguryref07_digit : compFn Tryz.prog Tryz.f106 = some F_auguryref07_digit := by kernel_rfl
theorem is_auguryref07_number : compFn Tryz.prog Tryz.f107 = some F_auguryref07_number := by kernel_rfl
theorem is_auguryref07_quoted : compFn Tryz.prog Tryz.f108 = some F_auguryref07_quoted := by kernel_rfl
theorem is_auguryref07_sign : compFn Tryz.prog Tryz.f109 = some F_auguryref07_sign := by kernel_rfl
theorem is_auguryref08_reader_must : compFn Tryz.prog Tryz.f110 = some F_auguryref08_reader_must := by kernel_rfl
theorem is_auguryref08_reader_item : compFn Tryz.prog Tryz.f111 = some F_auguryref08_reader_item := by kernel_rfl
theorem is_auguryref08_reader_take : compFn Tryz.prog Tryz.f112 = some F_auguryref08_reader_take := by kernel_rfl
theorem is_auguryref08_reader_pred : compFn Tryz.prog Tryz.f113 = some F_auguryref08_reader_pred := by kernel_rfl
theorem is_auguryref08_reader_number : compFn Tryz.prog Tryz.f114 = some F_auguryref08_reader_number := by kernel_rfl
theorem is_auguryref08_reader_name : compFn Tryz.prog Tryz.f115 = some F_auguryref08_reader_name := by kernel_rfl
theorem is_auguryref08_reader_fail : compFn Tryz.prog Tryz.f116 = some F_auguryref08_reader_fail := by kernel_rfl
theorem is_auguryref08_word : compFn Tryz.prog Tryz.f117 = some F_auguryref08_word := by kernel_rfl
theorem is_check_each : compFn Tryz.prog Tryz.f118 = some F_check_each := by kernel_rfl
theorem is_check_vars_1 : compFn Tryz.prog Tryz.f119 = some F_check_vars_1 := by kernel_rfl
theorem is_check_item : compFn Tryz.prog Tryz.f120 = some F_check_item := by kernel_rfl
theorem is_maps_Keys_int : compFn Tryz.prog Tryz.f122 = some F_maps_Keys_int := by kernel_rfl
end Go.Proofs.YthdkeggdipogoaaGreatDoor.Tz

namespace Go.Proofs.YthdkeggdipogoaaGreatDoor.Tz
open Go.Aug
set_option maxRecDepth 100000
theorem is_value_both : compFn Tryz.prog Tryz.f125 = some F_value_both := by kernel_rfl
theorem is_tree_joined_Item : compFn Tryz.prog Tryz.f127 = some F_tree_joined_Item := by kernel_rfl
theorem is_tree_Print_1 : compFn Tryz.prog Tryz.f128 = some F_tree_Print_1 := by kernel_rfl
theorem is_tree_joined_Pred : compFn Tryz.prog Tryz.f130 = some F_tree_joined_Pred := by kernel_rfl
theorem is_tree_Print_2 : compFn Tryz.prog Tryz.f131 = some F_tree_Print_2 := by kernel_rfl
theorem is_tree_written : compFn Tryz.prog Tryz.f132 = some F_tree_written := by kernel_rfl
theorem is_tree_signs : compFn Tryz.prog Tryz.f133 = some F_tree_signs := by kernel_rfl
theorem is_tree_picks : compFn Tryz.prog Tryz.f135 = some F_tree_picks := by kernel_rfl
theorem is_slices_insertionSortCmpFunc_keyed : compFn Tryz.prog Tryz.f137 = some F_slices_insertionSortCmpFunc_keyed := by kernel_rfl
theorem is_bits_Len64 : compFn Tryz.prog Tryz.f146 = some F_bits_Len64 := by kernel_rfl
theorem is_strings_Compare : compFn Tryz.prog Tryz.f148 = some F_strings_Compare := by kernel_rfl
theorem is_cmp_Compare_int64 : compFn Tryz.prog Tryz.f149 = some F_cmp_Compare_int64 := by kernel_rfl
theorem is_value_signs : compFn Tryz.prog Tryz.f150 = some F_value_signs := by kernel_rfl
theorem is_slices_IndexFunc_Item : compFn Tryz.prog Tryz.f151 = some F_slices_IndexFunc_Item := by kernel_rfl
theorem is_eval_scope_row_1 : compFn Tryz.prog Tryz.f152 = some F_eval_scope_row_1 := by kernel_rfl
theorem is_event_Field : compFn Tryz.prog Tryz.f153 = some F_event_Field := by kernel_rfl
theorem is_eval_folds : compFn Tryz.prog Tryz.f154 = some F_eval_folds := by kernel_rfl
theorem is_eval_scope_numbers : compFn Tryz.prog Tryz.f155 = some F_eval_scope_numbers := by kernel_rfl
theorem is_slices_IndexFunc_Schema : compFn Tryz.prog Tryz.f156 = some F_slices_IndexFunc_Schema := by kernel_rfl
theorem is_event_Find_1 : compFn Tryz.prog Tryz.f157 = some F_event_Find_1 := by kernel_rfl
theorem is_auguryref08_reader_is : compFn Tryz.prog Tryz.f163 = some F_auguryref08_reader_is := by kernel_rfl
theorem is_auguryref08_reader_expr : compFn Tryz.prog Tryz.f164 = some F_auguryref08_reader_expr := by kernel_rfl
theorem is_auguryref08_reader_named : compFn Tryz.prog Tryz.f165 = some F_auguryref08_reader_named := by kernel_rfl
theorem is_check_item_1 : compFn Tryz.prog Tryz.f166 = some F_check_item_1 := by kernel_rfl
theorem is_maps_Keys_int_1 : compFn Tryz.prog Tryz.f168 = some F_maps_Keys_int_1 := by kernel_rfl
theorem is_strconv_FormatBool : compFn Tryz.prog Tryz.f171 = some F_strconv_FormatBool := by kernel_rfl
theorem is_tree_folds : compFn Tryz.prog Tryz.f172 = some F_tree_folds := by kernel_rfl
theorem is_cmp_isNaN_int64 : compFn Tryz.prog Tryz.f181 = some F_cmp_isNaN_int64 := by kernel_rfl
theorem is_slices_IndexFunc_Field : compFn Tryz.prog Tryz.f182 = some F_slices_IndexFunc_Field := by kernel_rfl
theorem is_event_Field_1 : compFn Tryz.prog Tryz.f183 = some F_event_Field_1 := by kernel_rfl
theorem is_eval_folds_1 : compFn Tryz.prog Tryz.f184 = some F_eval_folds_1 := by kernel_rfl
theorem is_eval_folds_1_1 : compFn Tryz.prog Tryz.f185 = some F_eval_folds_1_1 := by kernel_rfl
theorem is_eval_scope_numbers_1 : compFn Tryz.prog Tryz.f186 = some F_eval_scope_numbers_1 := by kernel_rfl
theorem is_auguryref08_reader_term : compFn Tryz.prog Tryz.f188 = some F_auguryref08_reader_term := by kernel_rfl
theorem is_strconv_FormatBool_v2 : compFn Tryz.prog Tryz.f192 = some F_strconv_FormatBool_v2 := by kernel_rfl
theorem is_auguryref08_reader_field : compFn Tryz.prog Tryz.f200 = some F_auguryref08_reader_field := by kernel_rfl
end Go.Proofs.YthdkeggdipogoaaGreatDoor.Tz
