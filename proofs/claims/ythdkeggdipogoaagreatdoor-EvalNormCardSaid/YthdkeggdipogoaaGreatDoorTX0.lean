/-
The table. Conditions: none.
-/
import Derived.Test.YthdkeggdipogoaaGreatDoorTM9
import Derived.Test.YthdkeggdipogoaaGreatDoorGO
import Derived.Test.YthdkeggdipogoaaGreatDoorTO3
import Derived.Test.YthdkeggdipogoaaGreatDoorTOa
import Derived.Test.YthdkeggdipogoaaGreatDoorTPq
import Derived.KernelRfl
namespace Go.Proofs.YthdkeggdipogoaaGreatDoor.Tz
open Go.Aug
set_option maxRecDepth 100000
def frozen (f : Nat) : Bool := cond (Nat.beq f n_maps_Keys_int) false (cond (Nat.beq f n_check_Vars) false (cond (Nat.beq f n_check_vars) false (true)))
def orcHead : List D → Heap → Option (D × Heap)
  | [], H => some (.v (.bool true), H)
  | _, _ => none
def orcs0 (f : Nat) : Option (List D → Heap → Option (D × Heap)) := cond (Nat.beq f n_slices_Sorted_int) (some (orcSorted 1000000 n_maps_Keys_int_1)) (cond (Nat.beq f n_slices_Collect_int) (some (orcSorted 1 n_maps_Keys_int_1)) (cond (Nat.beq f n_bytealg_CompareString) (some orcCmpS) (cond (Nat.beq f n_strings_Contains) (some orcContains) (cond (Nat.beq f n_strings_Join) (some orcJoin) (cond (Nat.beq f n_strconv_FormatInt) (some orcFormat) (cond (Nat.beq f n_tree_Print) (some orcPrint) (none)))))))
def orcs (f : Nat) : Option (List D → Heap → Option (D × Heap)) := cond (Nat.beq f n_augurylaw11_head) (some orcHead) (cond (Nat.beq f n_slices_Sorted_int) (some (orcSorted 1000000 n_maps_Keys_int_1)) (cond (Nat.beq f n_slices_Collect_int) (some (orcSorted 1 n_maps_Keys_int_1)) (cond (Nat.beq f n_bytealg_CompareString) (some orcCmpS) (cond (Nat.beq f n_strings_Contains) (some orcContains) (cond (Nat.beq f n_strings_Join) (some orcJoin) (cond (Nat.beq f n_strconv_FormatInt) (some orcFormat) (cond (Nat.beq f n_tree_Print) (some orcPrint) (none))))))))
def tab0 : Tab := ⟨findF rows, frozen, orcs0⟩
def tab : Tab := ⟨findF rows, frozen, orcs⟩
theorem t_augurylaw11_EvalNorm : tab.fn n_augurylaw11_EvalNorm = some F_augurylaw11_EvalNorm := by kernel_rfl
theorem t_augurylaw08_Great : tab.fn n_augurylaw08_Great = some F_augurylaw08_Great := by kernel_rfl
theorem o_augurylaw08_Great : tab.orc n_augurylaw08_Great = none := by kernel_rfl
theorem t_norm_Place : tab.fn n_norm_Place = some F_norm_Place := by kernel_rfl
theorem o_norm_Place : tab.orc n_norm_Place = none := by kernel_rfl
theorem t_norm_Fold : tab.fn n_norm_Fold = some F_norm_Fold := by kernel_rfl
theorem o_norm_Fold : tab.orc n_norm_Fold = none := by kernel_rfl
theorem t_norm_Norm : tab.fn n_norm_Norm = some F_norm_Norm := by kernel_rfl
theorem t_tree_Right : tab.fn n_tree_Right = some F_tree_Right := by kernel_rfl
theorem o_tree_Right : tab.orc n_tree_Right = none := by kernel_rfl
theorem t_augurylaw05_GreatSchemas : tab.fn n_augurylaw05_GreatSchemas = some F_augurylaw05_GreatSchemas := by kernel_rfl
theorem o_augurylaw05_GreatSchemas : tab.orc n_augurylaw05_GreatSchemas = none := by kernel_rfl
theorem t_augurylaw11_GreatBound : tab.fn n_augurylaw11_GreatBound = some F_augurylaw11_GreatBound := by kernel_rfl
theorem o_augurylaw11_GreatBound : tab.orc n_augurylaw11_GreatBound = none := by kernel_rfl
theorem t_auguryref08_Right : tab.fn n_auguryref08_Right = some F_auguryref08_Right := by kernel_rfl
theorem o_auguryref08_Right : tab.orc n_auguryref08_Right = none := by kernel_rfl
theorem t_eval_All : tab.fn n_eval_All = some F_eval_All := by kernel_rfl
theorem t_eval_Value : tab.fn n_eval_Value = some F_eval_Value := by kernel_rfl
theorem o_eval_Value : tab.orc n_eval_Value = none := by kernel_rfl
theorem t_augurylaw08_greatExpr : tab.fn n_augurylaw08_greatExpr = some F_augurylaw08_greatExpr := by kernel_rfl
theorem o_augurylaw08_greatExpr : tab.orc n_augurylaw08_greatExpr = none := by kernel_rfl
theorem t_check_Vars : tab.fn n_check_Vars = some F_check_Vars := by kernel_rfl
theorem o_check_Vars : tab.orc n_check_Vars = none := by kernel_rfl
theorem t_slices_Max_int : tab.fn n_slices_Max_int = some F_slices_Max_int := by kernel_rfl
theorem o_slices_Max_int : tab.orc n_slices_Max_int = none := by kernel_rfl
theorem t_value_Add : tab.fn n_value_Add = some F_value_Add := by kernel_rfl
theorem o_value_Add : tab.orc n_value_Add = none := by kernel_rfl
theorem t_value_Sub : tab.fn n_value_Sub = some F_value_Sub := by kernel_rfl
theorem o_value_Sub : tab.orc n_value_Sub = none := by kernel_rfl
theorem t_norm_key : tab.fn n_norm_key = some F_norm_key := by kernel_rfl
theorem t_tree_item : tab.fn n_tree_item = some F_tree_item := by kernel_rfl
theorem o_tree_item : tab.orc n_tree_item = none := by kernel_rfl
theorem t_tree_expression : tab.fn n_tree_expression = some F_tree_expression := by kernel_rfl
theorem o_tree_expression : tab.orc n_tree_expression = none := by kernel_rfl
theorem t_tree_name : tab.fn n_tree_name = some F_tree_name := by kernel_rfl
theorem o_tree_name : tab.orc n_tree_name = none := by kernel_rfl
theorem t_eval_Holds : tab.fn n_eval_Holds = some F_eval_Holds := by kernel_rfl
theorem o_eval_Holds : tab.orc n_eval_Holds = none := by kernel_rfl
theorem t_augurylaw05_GreatEvent : tab.fn n_augurylaw05_GreatEvent = some F_augurylaw05_GreatEvent := by kernel_rfl
theorem o_augurylaw05_GreatEvent : tab.orc n_augurylaw05_GreatEvent = none := by kernel_rfl
theorem t_auguryref08_rightItem : tab.fn n_auguryref08_rightItem = some F_auguryref08_rightItem := by kernel_rfl
theorem o_auguryref08_rightItem : tab.orc n_auguryref08_rightItem = none := by kernel_rfl
theorem t_auguryref08_RightExpr : tab.fn n_auguryref08_RightExpr = some F_auguryref08_RightExpr := by kernel_rfl
theorem o_auguryref08_RightExpr : tab.orc n_auguryref08_RightExpr = none := by kernel_rfl
theorem t_auguryref08_Name : tab.fn n_auguryref08_Name = some F_auguryref08_Name := by kernel_rfl
theorem o_auguryref08_Name : tab.orc n_auguryref08_Name = none := by kernel_rfl
theorem t_slices_ContainsFunc_Pred : tab.fn n_slices_ContainsFunc_Pred = some F_slices_ContainsFunc_Pred := by kernel_rfl
theorem t_eval_All_1 : tab.fn n_eval_All_1 = some F_eval_All_1 := by kernel_rfl
theorem t_eval_scope_value : tab.fn n_eval_scope_value = some F_eval_scope_value := by kernel_rfl
theorem o_eval_scope_value : tab.orc n_eval_scope_value = none := by kernel_rfl
theorem t_check_vars : tab.fn n_check_vars = some F_check_vars := by kernel_rfl
theorem o_check_vars : tab.orc n_check_vars = none := by kernel_rfl
theorem t_value_reckoned : tab.fn n_value_reckoned = some F_value_reckoned := by kernel_rfl
theorem o_value_reckoned : tab.orc n_value_reckoned = none := by kernel_rfl
theorem t_value_Right : tab.fn n_value_Right = some F_value_Right := by kernel_rfl
theorem o_value_Right : tab.orc n_value_Right = none := by kernel_rfl
theorem t_tree_plain : tab.fn n_tree_plain = some F_tree_plain := by kernel_rfl
theorem o_tree_plain : tab.orc n_tree_plain = none := by kernel_rfl
theorem t_event_Word : tab.fn n_event_Word = some F_event_Word := by kernel_rfl
theorem o_event_Word : tab.orc n_event_Word = none := by kernel_rfl
theorem t_lex_Key : tab.fn n_lex_Key = some F_lex_Key := by kernel_rfl
theorem o_lex_Key : tab.orc n_lex_Key = none := by kernel_rfl
theorem t_value_Compare : tab.fn n_value_Compare = some F_value_Compare := by kernel_rfl
theorem o_value_Compare : tab.orc n_value_Compare = none := by kernel_rfl
theorem t_auguryref04_Right : tab.fn n_auguryref04_Right = some F_auguryref04_Right := by kernel_rfl
theorem o_auguryref04_Right : tab.orc n_auguryref04_Right = none := by kernel_rfl
theorem t_auguryref05_Word : tab.fn n_auguryref05_Word = some F_auguryref05_Word := by kernel_rfl
theorem o_auguryref05_Word : tab.orc n_auguryref05_Word = none := by kernel_rfl
theorem t_auguryref07_Key : tab.fn n_auguryref07_Key = some F_auguryref07_Key := by kernel_rfl
theorem o_auguryref07_Key : tab.orc n_auguryref07_Key = none := by kernel_rfl
theorem t_slices_IndexFunc_Pred : tab.fn n_slices_IndexFunc_Pred = some F_slices_IndexFunc_Pred := by kernel_rfl
theorem t_eval_scope_two : tab.fn n_eval_scope_two = some F_eval_scope_two := by kernel_rfl
theorem o_eval_scope_two : tab.orc n_eval_scope_two = none := by kernel_rfl
theorem t_eval_scope_row : tab.fn n_eval_scope_row = some F_eval_scope_row := by kernel_rfl
theorem o_eval_scope_row : tab.orc n_eval_scope_row = none := by kernel_rfl
theorem t_eval_scope_field : tab.fn n_eval_scope_field = some F_eval_scope_field := by kernel_rfl
theorem o_eval_scope_field : tab.orc n_eval_scope_field = none := by kernel_rfl
theorem t_eval_scope_folded : tab.fn n_eval_scope_folded = some F_eval_scope_folded := by kernel_rfl
theorem o_eval_scope_folded : tab.orc n_eval_scope_folded = none := by kernel_rfl
theorem t_event_Find : tab.fn n_event_Find = some F_event_Find := by kernel_rfl
theorem o_event_Find : tab.orc n_event_Find = none := by kernel_rfl
theorem t_check_each : tab.fn n_check_each = some F_check_each := by kernel_rfl
theorem o_check_each : tab.orc n_check_each = none := by kernel_rfl
theorem t_check_vars_1 : tab.fn n_check_vars_1 = some F_check_vars_1 := by kernel_rfl
theorem o_check_vars_1 : tab.orc n_check_vars_1 = none := by kernel_rfl
theorem t_check_item : tab.fn n_check_item = some F_check_item := by kernel_rfl
theorem o_check_item : tab.orc n_check_item = none := by kernel_rfl
theorem o_slices_Sorted_int : tab.orc n_slices_Sorted_int = some (orcSorted 1000000 n_maps_Keys_int_1) := by kernel_rfl
theorem t_maps_Keys_int : tab.fn n_maps_Keys_int = some F_maps_Keys_int := by kernel_rfl
theorem o_maps_Keys_int : tab.orc n_maps_Keys_int = none := by kernel_rfl
theorem t_value_both : tab.fn n_value_both = some F_value_both := by kernel_rfl
theorem o_value_both : tab.orc n_value_both = none := by kernel_rfl
theorem t_tree_joined_Item : tab.fn n_tree_joined_Item = some F_tree_joined_Item := by kernel_rfl
theorem o_tree_joined_Item : tab.orc n_tree_joined_Item = none := by kernel_rfl
theorem t_tree_Print_1 : tab.fn n_tree_Print_1 = some F_tree_Print_1 := by kernel_rfl
theorem o_tree_Print_1 : tab.orc n_tree_Print_1 = none := by kernel_rfl
theorem o_strings_Join : tab.orc n_strings_Join = some orcJoin := by kernel_rfl
theorem t_tree_joined_Pred : tab.fn n_tree_joined_Pred = some F_tree_joined_Pred := by kernel_rfl
theorem o_tree_joined_Pred : tab.orc n_tree_joined_Pred = none := by kernel_rfl
theorem t_tree_Print_2 : tab.fn n_tree_Print_2 = some F_tree_Print_2 := by kernel_rfl
theorem o_tree_Print_2 : tab.orc n_tree_Print_2 = none := by kernel_rfl
theorem t_tree_written : tab.fn n_tree_written = some F_tree_written := by kernel_rfl
theorem o_tree_written : tab.orc n_tree_written = none := by kernel_rfl
theorem t_tree_signs : tab.fn n_tree_signs = some F_tree_signs := by kernel_rfl
theorem o_tree_signs : tab.orc n_tree_signs = none := by kernel_rfl
theorem o_strconv_FormatInt : tab.orc n_strconv_FormatInt = some orcFormat := by kernel_rfl
theorem o_strings_Contains : tab.orc n_strings_Contains = some orcContains := by kernel_rfl
theorem t_strings_Compare : tab.fn n_strings_Compare = some F_strings_Compare := by kernel_rfl
theorem o_strings_Compare : tab.orc n_strings_Compare = none := by kernel_rfl
theorem t_cmp_Compare_int64 : tab.fn n_cmp_Compare_int64 = some F_cmp_Compare_int64 := by kernel_rfl
theorem o_cmp_Compare_int64 : tab.orc n_cmp_Compare_int64 = none := by kernel_rfl
theorem t_value_signs : tab.fn n_value_signs = some F_value_signs := by kernel_rfl
theorem o_value_signs : tab.orc n_value_signs = none := by kernel_rfl
theorem t_slices_IndexFunc_Item : tab.fn n_slices_IndexFunc_Item = some F_slices_IndexFunc_Item := by kernel_rfl
theorem o_slices_IndexFunc_Item : tab.orc n_slices_IndexFunc_Item = none := by kernel_rfl
theorem t_eval_scope_row_1 : tab.fn n_eval_scope_row_1 = some F_eval_scope_row_1 := by kernel_rfl
theorem o_eval_scope_row_1 : tab.orc n_eval_scope_row_1 = none := by kernel_rfl
theorem t_event_Field : tab.fn n_event_Field = some F_event_Field := by kernel_rfl
theorem o_event_Field : tab.orc n_event_Field = none := by kernel_rfl
theorem t_eval_folds : tab.fn n_eval_folds = some F_eval_folds := by kernel_rfl
theorem o_eval_folds : tab.orc n_eval_folds = none := by kernel_rfl
theorem t_eval_scope_numbers : tab.fn n_eval_scope_numbers = some F_eval_scope_numbers := by kernel_rfl
theorem o_eval_scope_numbers : tab.orc n_eval_scope_numbers = none := by kernel_rfl
theorem t_slices_IndexFunc_Schema : tab.fn n_slices_IndexFunc_Schema = some F_slices_IndexFunc_Schema := by kernel_rfl
theorem o_slices_IndexFunc_Schema : tab.orc n_slices_IndexFunc_Schema = none := by kernel_rfl
theorem t_event_Find_1 : tab.fn n_event_Find_1 = some F_event_Find_1 := by kernel_rfl
theorem o_event_Find_1 : tab.orc n_event_Find_1 = none := by kernel_rfl
theorem t_check_item_1 : tab.fn n_check_item_1 = some F_check_item_1 := by kernel_rfl
theorem o_check_item_1 : tab.orc n_check_item_1 = none := by kernel_rfl
theorem t_strconv_FormatBool : tab.fn n_strconv_FormatBool = some F_strconv_FormatBool := by kernel_rfl
theorem o_strconv_FormatBool : tab.orc n_strconv_FormatBool = none := by kernel_rfl
theorem t_tree_folds : tab.fn n_tree_folds = some F_tree_folds := by kernel_rfl
theorem o_tree_folds : tab.orc n_tree_folds = none := by kernel_rfl
theorem o_bytealg_CompareString : tab.orc n_bytealg_CompareString = some orcCmpS := by kernel_rfl
theorem t_cmp_isNaN_int64 : tab.fn n_cmp_isNaN_int64 = some F_cmp_isNaN_int64 := by kernel_rfl
theorem o_cmp_isNaN_int64 : tab.orc n_cmp_isNaN_int64 = none := by kernel_rfl
theorem t_slices_IndexFunc_Field : tab.fn n_slices_IndexFunc_Field = some F_slices_IndexFunc_Field := by kernel_rfl
theorem o_slices_IndexFunc_Field : tab.orc n_slices_IndexFunc_Field = none := by kernel_rfl
theorem t_event_Field_1 : tab.fn n_event_Field_1 = some F_event_Field_1 := by kernel_rfl
theorem o_event_Field_1 : tab.orc n_event_Field_1 = none := by kernel_rfl
theorem t_eval_folds_1 : tab.fn n_eval_folds_1 = some F_eval_folds_1 := by kernel_rfl
theorem o_eval_folds_1 : tab.orc n_eval_folds_1 = none := by kernel_rfl
theorem t_eval_folds_1_1 : tab.fn n_eval_folds_1_1 = some F_eval_folds_1_1 := by kernel_rfl
theorem o_eval_folds_1_1 : tab.orc n_eval_folds_1_1 = none := by kernel_rfl
theorem t_eval_scope_numbers_1 : tab.fn n_eval_scope_numbers_1 = some F_eval_scope_numbers_1 := by kernel_rfl
theorem o_eval_scope_numbers_1 : tab.orc n_eval_scope_numbers_1 = none := by kernel_rfl
theorem t_strconv_FormatBool_v2 : tab.fn n_strconv_FormatBool_v2 = some F_strconv_FormatBool_v2 := by kernel_rfl
theorem o_strconv_FormatBool_v2 : tab.orc n_strconv_FormatBool_v2 = none := by kernel_rfl
theorem z_norm_Fold : tab.fz n_norm_Fold = true := by kernel_rfl
theorem z_check_Vars : tab.fz n_check_Vars = false := by kernel_rfl
theorem z_check_vars : tab.fz n_check_vars = false := by kernel_rfl
theorem z_check_each : tab.fz n_check_each = true := by kernel_rfl
theorem z_eval_scope_numbers : tab.fz n_eval_scope_numbers = true := by kernel_rfl
theorem z_eval_folds_1 : tab.fz n_eval_folds_1 = true := by kernel_rfl
end Go.Proofs.YthdkeggdipogoaaGreatDoor.Tz
