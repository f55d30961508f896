/-
The table. Conditions: none.
-/
import Derived.Test.YthdkeggdipogoaaGreatDoorTM9
import Derived.Test.YthdkeggdipogoaaGreatDoorGO
import Derived.Test.YthdkeggdipogoaaGreatDoorTO3
import Derived.Test.YthdkeggdipogoaaGreatDoorTOa
import Derived.Test.YthdkeggdipogoaaGreatDoorTPq
import Derived.KernelRfl
namespace Go.Proofs.YthdkeggdipogoaaGreatDoor.Tz
open Go.Aug
set_option maxRecDepth 100000
def frozen (f : Nat) : Bool := cond (Nat.beq f n_maps_Keys_int) false (cond (Nat.beq f n_check_Vars) false (cond (Nat.beq f n_check_vars) false (true)))
def orcHead : List D → Heap → Option (D × Heap)
  | [], H => some (.v (.bool true), H)
  | _, _ => none
def orcs0 (f : Nat) : Option (List D → Heap → Option (D × Heap)) := cond (Nat.beq f n_slices_Sorted_int) (some (orcSorted 1000000 n_maps_Keys_int_1)) (cond (Nat.beq f n_slices_Collect_int) (some (orcSorted 1 n_maps_Keys_int_1)) (cond (Nat.beq f n_bytealg_CompareString) (some orcCmpS) (cond (Nat.beq f n_strings_Contains) (some orcContains) (cond (Nat.beq f n_strings_Join) (some orcJoin) (cond (Nat.beq f n_strconv_FormatInt) (some orcFormat) (cond (Nat.beq f n_tree_Print) (some orcPrint) (none)))))))
def orcs (f : Nat) : Option (List D → Heap → Option (D × Heap)) := cond (Nat.beq f n_augurylaw10_head) (some orcHead) (cond (Nat.beq f n_slices_Sorted_int) (some (orcSorted 1000000 n_maps_Keys_int_1)) (cond (Nat.beq f n_slices_Collect_int) (some (orcSorted 1 n_maps_Keys_int_1)) (cond (Nat.beq f n_bytealg_CompareString) (some orcCmpS) (cond (Nat.beq f n_strings_Contains) (some orcContains) (cond (Nat.beq f n_strings_Join) (some orcJoin) (cond (Nat.beq f n_strconv_FormatInt) (some orcFormat) (cond (Nat.beq f n_tree_Print) (some orcPrint) (none))))))))
def tab0 : Tab := ⟨findF rows, frozen, orcs0⟩
def tab : Tab := ⟨findF rows, frozen, orcs⟩
theorem t_augurylaw10_NormOrder : tab.fn n_augurylaw10_NormOrder = some F_augurylaw10_NormOrder := by kernel_rfl
theorem t_augurylaw08_Great : tab.fn n_augurylaw08_Great = some F_augurylaw08_Great := by kernel_rfl
theorem o_augurylaw08_Great : tab.orc n_augurylaw08_Great = none := by kernel_rfl
theorem t_norm_Place : tab.fn n_norm_Place = some F_norm_Place := by kernel_rfl
theorem o_norm_Place : tab.orc n_norm_Place = none := by kernel_rfl
theorem t_auguryref08_SameExpr : tab.fn n_auguryref08_SameExpr = some F_auguryref08_SameExpr := by kernel_rfl
theorem o_auguryref08_SameExpr : tab.orc n_auguryref08_SameExpr = none := by kernel_rfl
theorem t_norm_Fold : tab.fn n_norm_Fold = some F_norm_Fold := by kernel_rfl
theorem o_norm_Fold : tab.orc n_norm_Fold = none := by kernel_rfl
theorem t_auguryref08_Same : tab.fn n_auguryref08_Same = some F_auguryref08_Same := by kernel_rfl
theorem o_auguryref08_Same : tab.orc n_auguryref08_Same = none := by kernel_rfl
theorem t_norm_Norm : tab.fn n_norm_Norm = some F_norm_Norm := by kernel_rfl
theorem t_tree_Right : tab.fn n_tree_Right = some F_tree_Right := by kernel_rfl
theorem o_tree_Right : tab.orc n_tree_Right = none := by kernel_rfl
theorem t_auguryref08_SamePred : tab.fn n_auguryref08_SamePred = some F_auguryref08_SamePred := by kernel_rfl
theorem o_auguryref08_SamePred : tab.orc n_auguryref08_SamePred = none := by kernel_rfl
theorem t_augurylaw08_greatExpr : tab.fn n_augurylaw08_greatExpr = some F_augurylaw08_greatExpr := by kernel_rfl
theorem o_augurylaw08_greatExpr : tab.orc n_augurylaw08_greatExpr = none := by kernel_rfl
theorem t_check_Vars : tab.fn n_check_Vars = some F_check_Vars := by kernel_rfl
theorem o_check_Vars : tab.orc n_check_Vars = none := by kernel_rfl
theorem t_slices_Max_int : tab.fn n_slices_Max_int = some F_slices_Max_int := by kernel_rfl
theorem o_slices_Max_int : tab.orc n_slices_Max_int = none := by kernel_rfl
theorem t_value_Add : tab.fn n_value_Add = some F_value_Add := by kernel_rfl
theorem o_value_Add : tab.orc n_value_Add = none := by kernel_rfl
theorem t_value_Sub : tab.fn n_value_Sub = some F_value_Sub := by kernel_rfl
theorem o_value_Sub : tab.orc n_value_Sub = none := by kernel_rfl
theorem t_auguryref08_SameItem : tab.fn n_auguryref08_SameItem = some F_auguryref08_SameItem := by kernel_rfl
theorem o_auguryref08_SameItem : tab.orc n_auguryref08_SameItem = none := by kernel_rfl
theorem t_norm_key : tab.fn n_norm_key = some F_norm_key := by kernel_rfl
theorem t_tree_item : tab.fn n_tree_item = some F_tree_item := by kernel_rfl
theorem o_tree_item : tab.orc n_tree_item = none := by kernel_rfl
theorem t_tree_expression : tab.fn n_tree_expression = some F_tree_expression := by kernel_rfl
theorem o_tree_expression : tab.orc n_tree_expression = none := by kernel_rfl
theorem t_tree_name : tab.fn n_tree_name = some F_tree_name := by kernel_rfl
theorem o_tree_name : tab.orc n_tree_name = none := by kernel_rfl
theorem t_check_vars : tab.fn n_check_vars = some F_check_vars := by kernel_rfl
theorem o_check_vars : tab.orc n_check_vars = none := by kernel_rfl
theorem t_value_reckoned : tab.fn n_value_reckoned = some F_value_reckoned := by kernel_rfl
theorem o_value_reckoned : tab.orc n_value_reckoned = none := by kernel_rfl
theorem t_value_Right : tab.fn n_value_Right = some F_value_Right := by kernel_rfl
theorem o_value_Right : tab.orc n_value_Right = none := by kernel_rfl
theorem t_tree_plain : tab.fn n_tree_plain = some F_tree_plain := by kernel_rfl
theorem o_tree_plain : tab.orc n_tree_plain = none := by kernel_rfl
theorem t_event_Word : tab.fn n_event_Word = some F_event_Word := by kernel_rfl
theorem o_event_Word : tab.orc n_event_Word = none := by kernel_rfl
theorem t_lex_Key : tab.fn n_lex_Key = some F_lex_Key := by kernel_rfl
theorem o_lex_Key : tab.orc n_lex_Key = none := by kernel_rfl
theorem t_check_each : tab.fn n_check_each = some F_check_each := by kernel_rfl
theorem o_check_each : tab.orc n_check_each = none := by kernel_rfl
theorem t_check_vars_1 : tab.fn n_check_vars_1 = some F_check_vars_1 := by kernel_rfl
theorem o_check_vars_1 : tab.orc n_check_vars_1 = none := by kernel_rfl
theorem t_check_item : tab.fn n_check_item = some F_check_item := by kernel_rfl
theorem o_check_item : tab.orc n_check_item = none := by kernel_rfl
theorem o_slices_Sorted_int : tab.orc n_slices_Sorted_int = some (orcSorted 1000000 n_maps_Keys_int_1) := by kernel_rfl
theorem t_maps_Keys_int : tab.fn n_maps_Keys_int = some F_maps_Keys_int := by kernel_rfl
theorem o_maps_Keys_int : tab.orc n_maps_Keys_int = none := by kernel_rfl
theorem t_value_both : tab.fn n_value_both = some F_value_both := by kernel_rfl
theorem o_value_both : tab.orc n_value_both = none := by kernel_rfl
theorem t_tree_joined_Item : tab.fn n_tree_joined_Item = some F_tree_joined_Item := by kernel_rfl
theorem o_tree_joined_Item : tab.orc n_tree_joined_Item = none := by kernel_rfl
theorem t_tree_Print_1 : tab.fn n_tree_Print_1 = some F_tree_Print_1 := by kernel_rfl
theorem o_tree_Print_1 : tab.orc n_tree_Print_1 = none := by kernel_rfl
theorem o_strings_Join : tab.orc n_strings_Join = some orcJoin := by kernel_rfl
theorem t_tree_joined_Pred : tab.fn n_tree_joined_Pred = some F_tree_joined_Pred := by kernel_rfl
theorem o_tree_joined_Pred : tab.orc n_tree_joined_Pred = none := by kernel_rfl
theorem t_tree_Print_2 : tab.fn n_tree_Print_2 = some F_tree_Print_2 := by kernel_rfl
theorem o_tree_Print_2 : tab.orc n_tree_Print_2 = none := by kernel_rfl
theorem t_tree_written : tab.fn n_tree_written = some F_tree_written := by kernel_rfl
theorem o_tree_written : tab.orc n_tree_written = none := by kernel_rfl
theorem t_tree_signs : tab.fn n_tree_signs = some F_tree_signs := by kernel_rfl
theorem o_tree_signs : tab.orc n_tree_signs = none := by kernel_rfl
theorem o_strconv_FormatInt : tab.orc n_strconv_FormatInt = some orcFormat := by kernel_rfl
theorem o_strings_Contains : tab.orc n_strings_Contains = some orcContains := by kernel_rfl
theorem t_slices_IndexFunc_Item : tab.fn n_slices_IndexFunc_Item = some F_slices_IndexFunc_Item := by kernel_rfl
theorem o_slices_IndexFunc_Item : tab.orc n_slices_IndexFunc_Item = none := by kernel_rfl
theorem t_check_item_1 : tab.fn n_check_item_1 = some F_check_item_1 := by kernel_rfl
theorem o_check_item_1 : tab.orc n_check_item_1 = none := by kernel_rfl
theorem t_strconv_FormatBool : tab.fn n_strconv_FormatBool = some F_strconv_FormatBool := by kernel_rfl
theorem o_strconv_FormatBool : tab.orc n_strconv_FormatBool = none := by kernel_rfl
theorem t_tree_folds : tab.fn n_tree_folds = some F_tree_folds := by kernel_rfl
theorem o_tree_folds : tab.orc n_tree_folds = none := by kernel_rfl
theorem t_strconv_FormatBool_v2 : tab.fn n_strconv_FormatBool_v2 = some F_strconv_FormatBool_v2 := by kernel_rfl
theorem o_strconv_FormatBool_v2 : tab.orc n_strconv_FormatBool_v2 = none := by kernel_rfl
theorem z_norm_Fold : tab.fz n_norm_Fold = true := by kernel_rfl
theorem z_check_Vars : tab.fz n_check_Vars = false := by kernel_rfl
theorem z_check_vars : tab.fz n_check_vars = false := by kernel_rfl
theorem z_check_each : tab.fz n_check_each = true := by kernel_rfl
end Go.Proofs.YthdkeggdipogoaaGreatDoor.Tz
