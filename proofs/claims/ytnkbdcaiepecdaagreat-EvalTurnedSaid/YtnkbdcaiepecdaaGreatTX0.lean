/-
The table. Conditions: none.
-/
import Derived.Test.YtnkbdcaiepecdaaGreatTM9
import Derived.Test.YtnkbdcaiepecdaaGreatGO
import Derived.Test.YtnkbdcaiepecdaaGreatTO3
import Derived.KernelRfl
namespace Go.Proofs.YtnkbdcaiepecdaaGreat.Tz
open Go.Aug
set_option maxRecDepth 100000

def frozen (f : Nat) : Bool := cond (Nat.beq f n_check_Vars) false (cond (Nat.beq f n_check_vars) false (cond (Nat.beq f n_maps_Keys_int) false (true)))
/-- The live question's answer. -/
def orcHead : List D → Heap → Option (D × Heap)
  | [], H => some (.v (.bool true), H)
  | _, _ => none
def orcs0 (f : Nat) : Option (List D → Heap → Option (D × Heap)) := cond (Nat.beq f n_slices_Sorted_int) (some (orcSorted n_maps_Keys_int_1)) (cond (Nat.beq f n_bytealg_CompareString) (some orcCmpS) (none))
def orcs (f : Nat) : Option (List D → Heap → Option (D × Heap)) := cond (Nat.beq f n_augurylaw11_head) (some orcHead) (cond (Nat.beq f n_slices_Sorted_int) (some (orcSorted n_maps_Keys_int_1)) (cond (Nat.beq f n_bytealg_CompareString) (some orcCmpS) (none)))
def tab0 : Tab := ⟨findF rows, frozen, orcs0⟩
def tab : Tab := ⟨findF rows, frozen, orcs⟩

theorem t_gosem_cut_init : tab.fn n_gosem_cut_init = some F_gosem_cut_init := by kernel_rfl
theorem o_gosem_cut_init : tab.orc n_gosem_cut_init = none := by kernel_rfl
theorem t_augurylaw11_EvalOther : tab.fn n_augurylaw11_EvalOther = some F_augurylaw11_EvalOther := by kernel_rfl
theorem o_augurylaw11_EvalOther : tab.orc n_augurylaw11_EvalOther = none := by kernel_rfl
theorem t_augurylaw11_EvalFolds : tab.fn n_augurylaw11_EvalFolds = some F_augurylaw11_EvalFolds := by kernel_rfl
theorem o_augurylaw11_EvalFolds : tab.orc n_augurylaw11_EvalFolds = none := by kernel_rfl
theorem t_augurylaw11_EvalTurned : tab.fn n_augurylaw11_EvalTurned = some F_augurylaw11_EvalTurned := by kernel_rfl
theorem o_augurylaw11_EvalTurned : tab.orc n_augurylaw11_EvalTurned = none := by kernel_rfl
theorem t_augurylaw11_EvalNothing : tab.fn n_augurylaw11_EvalNothing = some F_augurylaw11_EvalNothing := by kernel_rfl
theorem o_augurylaw11_EvalNothing : tab.orc n_augurylaw11_EvalNothing = none := by kernel_rfl
theorem o_augurylaw11_head : tab.orc n_augurylaw11_head = some orcHead := by kernel_rfl
theorem t_augurylaw05_GreatSchemas : tab.fn n_augurylaw05_GreatSchemas = some F_augurylaw05_GreatSchemas := by kernel_rfl
theorem o_augurylaw05_GreatSchemas : tab.orc n_augurylaw05_GreatSchemas = none := by kernel_rfl
theorem t_augurylaw08_Great : tab.fn n_augurylaw08_Great = some F_augurylaw08_Great := by kernel_rfl
theorem o_augurylaw08_Great : tab.orc n_augurylaw08_Great = none := by kernel_rfl
theorem t_augurylaw11_GreatBound : tab.fn n_augurylaw11_GreatBound = some F_augurylaw11_GreatBound := by kernel_rfl
theorem o_augurylaw11_GreatBound : tab.orc n_augurylaw11_GreatBound = none := by kernel_rfl
theorem t_augurylaw11_names : tab.fn n_augurylaw11_names = some F_augurylaw11_names := by kernel_rfl
theorem o_augurylaw11_names : tab.orc n_augurylaw11_names = none := by kernel_rfl
theorem t_eval_Value : tab.fn n_eval_Value = some F_eval_Value := by kernel_rfl
theorem o_eval_Value : tab.orc n_eval_Value = none := by kernel_rfl
theorem t_augurylaw11_one : tab.fn n_augurylaw11_one = some F_augurylaw11_one := by kernel_rfl
theorem o_augurylaw11_one : tab.orc n_augurylaw11_one = none := by kernel_rfl
theorem t_eval_Holds : tab.fn n_eval_Holds = some F_eval_Holds := by kernel_rfl
theorem o_eval_Holds : tab.orc n_eval_Holds = none := by kernel_rfl
theorem t_auguryref04_Right : tab.fn n_auguryref04_Right = some F_auguryref04_Right := by kernel_rfl
theorem o_auguryref04_Right : tab.orc n_auguryref04_Right = none := by kernel_rfl
theorem t_auguryref08_Right : tab.fn n_auguryref08_Right = some F_auguryref08_Right := by kernel_rfl
theorem o_auguryref08_Right : tab.orc n_auguryref08_Right = none := by kernel_rfl
theorem t_auguryref08_Parse : tab.fn n_auguryref08_Parse = some F_auguryref08_Parse := by kernel_rfl
theorem o_auguryref08_Parse : tab.orc n_auguryref08_Parse = none := by kernel_rfl
theorem t_eval_All : tab.fn n_eval_All = some F_eval_All := by kernel_rfl
theorem o_eval_All : tab.orc n_eval_All = none := by kernel_rfl
theorem t_augurylaw08_greatExpr : tab.fn n_augurylaw08_greatExpr = some F_augurylaw08_greatExpr := by kernel_rfl
theorem o_augurylaw08_greatExpr : tab.orc n_augurylaw08_greatExpr = none := by kernel_rfl
theorem t_augurylaw05_GreatEvent : tab.fn n_augurylaw05_GreatEvent = some F_augurylaw05_GreatEvent := by kernel_rfl
theorem o_augurylaw05_GreatEvent : tab.orc n_augurylaw05_GreatEvent = none := by kernel_rfl
theorem t_eval_scope_value : tab.fn n_eval_scope_value = some F_eval_scope_value := by kernel_rfl
theorem o_eval_scope_value : tab.orc n_eval_scope_value = none := by kernel_rfl
theorem t_value_Compare : tab.fn n_value_Compare = some F_value_Compare := by kernel_rfl
theorem o_value_Compare : tab.orc n_value_Compare = none := by kernel_rfl
theorem t_auguryref08_rightItem : tab.fn n_auguryref08_rightItem = some F_auguryref08_rightItem := by kernel_rfl
theorem o_auguryref08_rightItem : tab.orc n_auguryref08_rightItem = none := by kernel_rfl
theorem t_auguryref08_RightExpr : tab.fn n_auguryref08_RightExpr = some F_auguryref08_RightExpr := by kernel_rfl
theorem o_auguryref08_RightExpr : tab.orc n_auguryref08_RightExpr = none := by kernel_rfl
theorem t_auguryref08_Name : tab.fn n_auguryref08_Name = some F_auguryref08_Name := by kernel_rfl
theorem o_auguryref08_Name : tab.orc n_auguryref08_Name = none := by kernel_rfl
theorem t_auguryref07_Read : tab.fn n_auguryref07_Read = some F_auguryref07_Read := by kernel_rfl
theorem o_auguryref07_Read : tab.orc n_auguryref07_Read = none := by kernel_rfl
theorem t_auguryref08_reader_query : tab.fn n_auguryref08_reader_query = some F_auguryref08_reader_query := by kernel_rfl
theorem o_auguryref08_reader_query : tab.orc n_auguryref08_reader_query = none := by kernel_rfl
theorem t_slices_ContainsFunc_Pred : tab.fn n_slices_ContainsFunc_Pred = some F_slices_ContainsFunc_Pred := by kernel_rfl
theorem o_slices_ContainsFunc_Pred : tab.orc n_slices_ContainsFunc_Pred = none := by kernel_rfl
theorem t_eval_All_1 : tab.fn n_eval_All_1 = some F_eval_All_1 := by kernel_rfl
theorem o_eval_All_1 : tab.orc n_eval_All_1 = none := by kernel_rfl
theorem t_norm_Place : tab.fn n_norm_Place = some F_norm_Place := by kernel_rfl
theorem o_norm_Place : tab.orc n_norm_Place = none := by kernel_rfl
theorem t_value_Right : tab.fn n_value_Right = some F_value_Right := by kernel_rfl
theorem o_value_Right : tab.orc n_value_Right = none := by kernel_rfl
theorem t_eval_scope_two : tab.fn n_eval_scope_two = some F_eval_scope_two := by kernel_rfl
theorem o_eval_scope_two : tab.orc n_eval_scope_two = none := by kernel_rfl
theorem t_value_Add : tab.fn n_value_Add = some F_value_Add := by kernel_rfl
theorem o_value_Add : tab.orc n_value_Add = none := by kernel_rfl
theorem t_value_Sub : tab.fn n_value_Sub = some F_value_Sub := by kernel_rfl
theorem o_value_Sub : tab.orc n_value_Sub = none := by kernel_rfl
theorem t_eval_scope_row : tab.fn n_eval_scope_row = some F_eval_scope_row := by kernel_rfl
theorem o_eval_scope_row : tab.orc n_eval_scope_row = none := by kernel_rfl
theorem t_eval_scope_field : tab.fn n_eval_scope_field = some F_eval_scope_field := by kernel_rfl
theorem o_eval_scope_field : tab.orc n_eval_scope_field = none := by kernel_rfl
theorem t_eval_scope_folded : tab.fn n_eval_scope_folded = some F_eval_scope_folded := by kernel_rfl
theorem o_eval_scope_folded : tab.orc n_eval_scope_folded = none := by kernel_rfl
theorem t_strings_Compare : tab.fn n_strings_Compare = some F_strings_Compare := by kernel_rfl
theorem o_strings_Compare : tab.orc n_strings_Compare = none := by kernel_rfl
theorem t_cmp_Compare_int64 : tab.fn n_cmp_Compare_int64 = some F_cmp_Compare_int64 := by kernel_rfl
theorem o_cmp_Compare_int64 : tab.orc n_cmp_Compare_int64 = none := by kernel_rfl
theorem t_value_signs : tab.fn n_value_signs = some F_value_signs := by kernel_rfl
theorem o_value_signs : tab.orc n_value_signs = none := by kernel_rfl
theorem t_auguryref05_Word : tab.fn n_auguryref05_Word = some F_auguryref05_Word := by kernel_rfl
theorem o_auguryref05_Word : tab.orc n_auguryref05_Word = none := by kernel_rfl
theorem t_auguryref07_Key : tab.fn n_auguryref07_Key = some F_auguryref07_Key := by kernel_rfl
theorem o_auguryref07_Key : tab.orc n_auguryref07_Key = none := by kernel_rfl
theorem t_auguryref07_letter : tab.fn n_auguryref07_letter = some F_auguryref07_letter := by kernel_rfl
theorem o_auguryref07_letter : tab.orc n_auguryref07_letter = none := by kernel_rfl
theorem t_auguryref07_word : tab.fn n_auguryref07_word = some F_auguryref07_word := by kernel_rfl
theorem o_auguryref07_word : tab.orc n_auguryref07_word = none := by kernel_rfl
theorem t_auguryref07_digit : tab.fn n_auguryref07_digit = some F_auguryref07_digit := by kernel_rfl
theorem o_auguryref07_digit : tab.orc n_auguryref07_digit = none := by kernel_rfl
theorem t_auguryref07_number : tab.fn n_auguryref07_number = some F_auguryref07_number := by kernel_rfl
theorem o_auguryref07_number : tab.orc n_auguryref07_number = none := by kernel_rfl
theorem t_auguryref07_quoted : tab.fn n_auguryref07_quoted = some F_auguryref07_quoted := by kernel_rfl
theorem o_auguryref07_quoted : tab.orc n_auguryref07_quoted = none := by kernel_rfl
theorem t_auguryref07_sign : tab.fn n_auguryref07_sign = some F_auguryref07_sign := by kernel_rfl
theorem o_auguryref07_sign : tab.orc n_auguryref07_sign = none := by kernel_rfl
theorem t_auguryref08_reader_must : tab.fn n_auguryref08_reader_must = some F_auguryref08_reader_must := by kernel_rfl
theorem o_auguryref08_reader_must : tab.orc n_auguryref08_reader_must = none := by kernel_rfl
theorem t_auguryref08_reader_item : tab.fn n_auguryref08_reader_item = some F_auguryref08_reader_item := by kernel_rfl
theorem o_auguryref08_reader_item : tab.orc n_auguryref08_reader_item = none := by kernel_rfl
theorem t_auguryref08_reader_take : tab.fn n_auguryref08_reader_take = some F_auguryref08_reader_take := by kernel_rfl
theorem o_auguryref08_reader_take : tab.orc n_auguryref08_reader_take = none := by kernel_rfl
theorem t_auguryref08_reader_pred : tab.fn n_auguryref08_reader_pred = some F_auguryref08_reader_pred := by kernel_rfl
theorem o_auguryref08_reader_pred : tab.orc n_auguryref08_reader_pred = none := by kernel_rfl
theorem t_auguryref08_reader_number : tab.fn n_auguryref08_reader_number = some F_auguryref08_reader_number := by kernel_rfl
theorem o_auguryref08_reader_number : tab.orc n_auguryref08_reader_number = none := by kernel_rfl
theorem t_auguryref08_reader_name : tab.fn n_auguryref08_reader_name = some F_auguryref08_reader_name := by kernel_rfl
theorem o_auguryref08_reader_name : tab.orc n_auguryref08_reader_name = none := by kernel_rfl
theorem t_auguryref08_pick : tab.fn n_auguryref08_pick = some F_auguryref08_pick := by kernel_rfl
theorem o_auguryref08_pick : tab.orc n_auguryref08_pick = none := by kernel_rfl
theorem t_auguryref08_reader_fail : tab.fn n_auguryref08_reader_fail = some F_auguryref08_reader_fail := by kernel_rfl
theorem o_auguryref08_reader_fail : tab.orc n_auguryref08_reader_fail = none := by kernel_rfl
theorem t_slices_IndexFunc_Pred : tab.fn n_slices_IndexFunc_Pred = some F_slices_IndexFunc_Pred := by kernel_rfl
theorem o_slices_IndexFunc_Pred : tab.orc n_slices_IndexFunc_Pred = none := by kernel_rfl
theorem t_check_Vars : tab.fn n_check_Vars = some F_check_Vars := by kernel_rfl
theorem o_check_Vars : tab.orc n_check_Vars = none := by kernel_rfl
theorem t_slices_Max_int : tab.fn n_slices_Max_int = some F_slices_Max_int := by kernel_rfl
theorem o_slices_Max_int : tab.orc n_slices_Max_int = none := by kernel_rfl
theorem t_value_reckoned : tab.fn n_value_reckoned = some F_value_reckoned := by kernel_rfl
theorem o_value_reckoned : tab.orc n_value_reckoned = none := by kernel_rfl
theorem t_slices_IndexFunc_Item : tab.fn n_slices_IndexFunc_Item = some F_slices_IndexFunc_Item := by kernel_rfl
theorem o_slices_IndexFunc_Item : tab.orc n_slices_IndexFunc_Item = none := by kernel_rfl
theorem t_eval_scope_row_1 : tab.fn n_eval_scope_row_1 = some F_eval_scope_row_1 := by kernel_rfl
theorem o_eval_scope_row_1 : tab.orc n_eval_scope_row_1 = none := by kernel_rfl
theorem t_event_Find : tab.fn n_event_Find = some F_event_Find := by kernel_rfl
theorem o_event_Find : tab.orc n_event_Find = none := by kernel_rfl
theorem t_event_Field : tab.fn n_event_Field = some F_event_Field := by kernel_rfl
theorem o_event_Field : tab.orc n_event_Field = none := by kernel_rfl
theorem t_eval_folds : tab.fn n_eval_folds = some F_eval_folds := by kernel_rfl
theorem o_eval_folds : tab.orc n_eval_folds = none := by kernel_rfl
theorem t_eval_scope_numbers : tab.fn n_eval_scope_numbers = some F_eval_scope_numbers := by kernel_rfl
theorem o_eval_scope_numbers : tab.orc n_eval_scope_numbers = none := by kernel_rfl
theorem o_bytealg_CompareString : tab.orc n_bytealg_CompareString = some orcCmpS := by kernel_rfl
theorem t_cmp_isNaN_int64 : tab.fn n_cmp_isNaN_int64 = some F_cmp_isNaN_int64 := by kernel_rfl
theorem o_cmp_isNaN_int64 : tab.orc n_cmp_isNaN_int64 = none := by kernel_rfl
theorem t_auguryref08_reader_is : tab.fn n_auguryref08_reader_is = some F_auguryref08_reader_is := by kernel_rfl
theorem o_auguryref08_reader_is : tab.orc n_auguryref08_reader_is = none := by kernel_rfl
theorem t_auguryref08_reader_expr : tab.fn n_auguryref08_reader_expr = some F_auguryref08_reader_expr := by kernel_rfl
theorem o_auguryref08_reader_expr : tab.orc n_auguryref08_reader_expr = none := by kernel_rfl
theorem t_auguryref08_Sign : tab.fn n_auguryref08_Sign = some F_auguryref08_Sign := by kernel_rfl
theorem o_auguryref08_Sign : tab.orc n_auguryref08_Sign = none := by kernel_rfl
theorem t_auguryref08_reader_named : tab.fn n_auguryref08_reader_named = some F_auguryref08_reader_named := by kernel_rfl
theorem o_auguryref08_reader_named : tab.orc n_auguryref08_reader_named = none := by kernel_rfl
theorem t_check_vars : tab.fn n_check_vars = some F_check_vars := by kernel_rfl
theorem o_check_vars : tab.orc n_check_vars = none := by kernel_rfl
theorem t_value_both : tab.fn n_value_both = some F_value_both := by kernel_rfl
theorem o_value_both : tab.orc n_value_both = none := by kernel_rfl
theorem t_slices_IndexFunc_Schema : tab.fn n_slices_IndexFunc_Schema = some F_slices_IndexFunc_Schema := by kernel_rfl
theorem o_slices_IndexFunc_Schema : tab.orc n_slices_IndexFunc_Schema = none := by kernel_rfl
theorem t_event_Find_1 : tab.fn n_event_Find_1 = some F_event_Find_1 := by kernel_rfl
theorem o_event_Find_1 : tab.orc n_event_Find_1 = none := by kernel_rfl
theorem t_slices_IndexFunc_Field : tab.fn n_slices_IndexFunc_Field = some F_slices_IndexFunc_Field := by kernel_rfl
theorem o_slices_IndexFunc_Field : tab.orc n_slices_IndexFunc_Field = none := by kernel_rfl
theorem t_event_Field_1 : tab.fn n_event_Field_1 = some F_event_Field_1 := by kernel_rfl
theorem o_event_Field_1 : tab.orc n_event_Field_1 = none := by kernel_rfl
theorem t_eval_folds_1 : tab.fn n_eval_folds_1 = some F_eval_folds_1 := by kernel_rfl
theorem o_eval_folds_1 : tab.orc n_eval_folds_1 = none := by kernel_rfl
theorem t_eval_folds_1_1 : tab.fn n_eval_folds_1_1 = some F_eval_folds_1_1 := by kernel_rfl
theorem o_eval_folds_1_1 : tab.orc n_eval_folds_1_1 = none := by kernel_rfl
theorem t_eval_scope_numbers_1 : tab.fn n_eval_scope_numbers_1 = some F_eval_scope_numbers_1 := by kernel_rfl
theorem o_eval_scope_numbers_1 : tab.orc n_eval_scope_numbers_1 = none := by kernel_rfl
theorem t_auguryref08_reader_term : tab.fn n_auguryref08_reader_term = some F_auguryref08_reader_term := by kernel_rfl
theorem o_auguryref08_reader_term : tab.orc n_auguryref08_reader_term = none := by kernel_rfl
theorem t_check_each : tab.fn n_check_each = some F_check_each := by kernel_rfl
theorem o_check_each : tab.orc n_check_each = none := by kernel_rfl
theorem t_check_vars_1 : tab.fn n_check_vars_1 = some F_check_vars_1 := by kernel_rfl
theorem o_check_vars_1 : tab.orc n_check_vars_1 = none := by kernel_rfl
theorem t_check_item : tab.fn n_check_item = some F_check_item := by kernel_rfl
theorem o_check_item : tab.orc n_check_item = none := by kernel_rfl
theorem o_slices_Sorted_int : tab.orc n_slices_Sorted_int = some (orcSorted n_maps_Keys_int_1) := by kernel_rfl
theorem t_maps_Keys_int : tab.fn n_maps_Keys_int = some F_maps_Keys_int := by kernel_rfl
theorem o_maps_Keys_int : tab.orc n_maps_Keys_int = none := by kernel_rfl
theorem t_auguryref08_word : tab.fn n_auguryref08_word = some F_auguryref08_word := by kernel_rfl
theorem o_auguryref08_word : tab.orc n_auguryref08_word = none := by kernel_rfl
theorem t_auguryref08_reader_field : tab.fn n_auguryref08_reader_field = some F_auguryref08_reader_field := by kernel_rfl
theorem o_auguryref08_reader_field : tab.orc n_auguryref08_reader_field = none := by kernel_rfl
theorem t_check_item_1 : tab.fn n_check_item_1 = some F_check_item_1 := by kernel_rfl
theorem o_check_item_1 : tab.orc n_check_item_1 = none := by kernel_rfl
theorem t_slices_Collect_int : tab.fn n_slices_Collect_int = some F_slices_Collect_int := by kernel_rfl
theorem o_slices_Collect_int : tab.orc n_slices_Collect_int = none := by kernel_rfl
theorem t_slices_Sort_int : tab.fn n_slices_Sort_int = some F_slices_Sort_int := by kernel_rfl
theorem o_slices_Sort_int : tab.orc n_slices_Sort_int = none := by kernel_rfl
theorem t_maps_Keys_int_1 : tab.fn n_maps_Keys_int_1 = some F_maps_Keys_int_1 := by kernel_rfl
theorem o_maps_Keys_int_1 : tab.orc n_maps_Keys_int_1 = none := by kernel_rfl
theorem t_slices_AppendSeq_int : tab.fn n_slices_AppendSeq_int = some F_slices_AppendSeq_int := by kernel_rfl
theorem o_slices_AppendSeq_int : tab.orc n_slices_AppendSeq_int = none := by kernel_rfl
theorem t_slices_pdqsortOrdered_int : tab.fn n_slices_pdqsortOrdered_int = some F_slices_pdqsortOrdered_int := by kernel_rfl
theorem o_slices_pdqsortOrdered_int : tab.orc n_slices_pdqsortOrdered_int = none := by kernel_rfl
theorem t_bits_Len : tab.fn n_bits_Len = some F_bits_Len := by kernel_rfl
theorem o_bits_Len : tab.orc n_bits_Len = none := by kernel_rfl
theorem t_slices_insertionSortOrdered_int : tab.fn n_slices_insertionSortOrdered_int = some F_slices_insertionSortOrdered_int := by kernel_rfl
theorem o_slices_insertionSortOrdered_int : tab.orc n_slices_insertionSortOrdered_int = none := by kernel_rfl
theorem t_slices_heapSortOrdered_int : tab.fn n_slices_heapSortOrdered_int = some F_slices_heapSortOrdered_int := by kernel_rfl
theorem o_slices_heapSortOrdered_int : tab.orc n_slices_heapSortOrdered_int = none := by kernel_rfl
theorem t_slices_breakPatternsOrdered_int : tab.fn n_slices_breakPatternsOrdered_int = some F_slices_breakPatternsOrdered_int := by kernel_rfl
theorem o_slices_breakPatternsOrdered_int : tab.orc n_slices_breakPatternsOrdered_int = none := by kernel_rfl
theorem t_slices_choosePivotOrdered_int : tab.fn n_slices_choosePivotOrdered_int = some F_slices_choosePivotOrdered_int := by kernel_rfl
theorem o_slices_choosePivotOrdered_int : tab.orc n_slices_choosePivotOrdered_int = none := by kernel_rfl
theorem t_slices_reverseRangeOrdered_int : tab.fn n_slices_reverseRangeOrdered_int = some F_slices_reverseRangeOrdered_int := by kernel_rfl
theorem o_slices_reverseRangeOrdered_int : tab.orc n_slices_reverseRangeOrdered_int = none := by kernel_rfl
theorem t_slices_partialInsertionSortOrdered_int : tab.fn n_slices_partialInsertionSortOrdered_int = some F_slices_partialInsertionSortOrdered_int := by kernel_rfl
theorem o_slices_partialInsertionSortOrdered_int : tab.orc n_slices_partialInsertionSortOrdered_int = none := by kernel_rfl
theorem t_cmp_Less_int : tab.fn n_cmp_Less_int = some F_cmp_Less_int := by kernel_rfl
theorem o_cmp_Less_int : tab.orc n_cmp_Less_int = none := by kernel_rfl
theorem t_slices_partitionEqualOrdered_int : tab.fn n_slices_partitionEqualOrdered_int = some F_slices_partitionEqualOrdered_int := by kernel_rfl
theorem o_slices_partitionEqualOrdered_int : tab.orc n_slices_partitionEqualOrdered_int = none := by kernel_rfl
theorem t_slices_partitionOrdered_int : tab.fn n_slices_partitionOrdered_int = some F_slices_partitionOrdered_int := by kernel_rfl
theorem o_slices_partitionOrdered_int : tab.orc n_slices_partitionOrdered_int = none := by kernel_rfl
theorem t_bits_Len32 : tab.fn n_bits_Len32 = some F_bits_Len32 := by kernel_rfl
theorem o_bits_Len32 : tab.orc n_bits_Len32 = none := by kernel_rfl
theorem t_bits_Len64 : tab.fn n_bits_Len64 = some F_bits_Len64 := by kernel_rfl
theorem o_bits_Len64 : tab.orc n_bits_Len64 = none := by kernel_rfl
theorem t_slices_siftDownOrdered_int : tab.fn n_slices_siftDownOrdered_int = some F_slices_siftDownOrdered_int := by kernel_rfl
theorem o_slices_siftDownOrdered_int : tab.orc n_slices_siftDownOrdered_int = none := by kernel_rfl
theorem t_slices_nextPowerOfTwo : tab.fn n_slices_nextPowerOfTwo = some F_slices_nextPowerOfTwo := by kernel_rfl
theorem o_slices_nextPowerOfTwo : tab.orc n_slices_nextPowerOfTwo = none := by kernel_rfl
theorem t_slices_xorshift_Next : tab.fn n_slices_xorshift_Next = some F_slices_xorshift_Next := by kernel_rfl
theorem o_slices_xorshift_Next : tab.orc n_slices_xorshift_Next = none := by kernel_rfl
theorem t_slices_medianAdjacentOrdered_int : tab.fn n_slices_medianAdjacentOrdered_int = some F_slices_medianAdjacentOrdered_int := by kernel_rfl
theorem o_slices_medianAdjacentOrdered_int : tab.orc n_slices_medianAdjacentOrdered_int = none := by kernel_rfl
theorem t_slices_medianOrdered_int : tab.fn n_slices_medianOrdered_int = some F_slices_medianOrdered_int := by kernel_rfl
theorem o_slices_medianOrdered_int : tab.orc n_slices_medianOrdered_int = none := by kernel_rfl
theorem t_cmp_isNaN_int : tab.fn n_cmp_isNaN_int = some F_cmp_isNaN_int := by kernel_rfl
theorem o_cmp_isNaN_int : tab.orc n_cmp_isNaN_int = none := by kernel_rfl
theorem t_slices_order2Ordered_int : tab.fn n_slices_order2Ordered_int = some F_slices_order2Ordered_int := by kernel_rfl
theorem o_slices_order2Ordered_int : tab.orc n_slices_order2Ordered_int = none := by kernel_rfl
theorem z_gosem_cut_init : tab.fz n_gosem_cut_init = true := by kernel_rfl
theorem z_augurylaw11_EvalOther : tab.fz n_augurylaw11_EvalOther = true := by kernel_rfl
theorem z_augurylaw11_EvalFolds : tab.fz n_augurylaw11_EvalFolds = true := by kernel_rfl
theorem z_augurylaw11_EvalTurned : tab.fz n_augurylaw11_EvalTurned = true := by kernel_rfl
theorem z_augurylaw11_EvalNothing : tab.fz n_augurylaw11_EvalNothing = true := by kernel_rfl
theorem z_augurylaw11_head : tab.fz n_augurylaw11_head = true := by kernel_rfl
theorem z_augurylaw05_GreatSchemas : tab.fz n_augurylaw05_GreatSchemas = true := by kernel_rfl
theorem z_augurylaw08_Great : tab.fz n_augurylaw08_Great = true := by kernel_rfl
theorem z_augurylaw11_GreatBound : tab.fz n_augurylaw11_GreatBound = true := by kernel_rfl
theorem z_augurylaw11_names : tab.fz n_augurylaw11_names = true := by kernel_rfl
theorem z_eval_Value : tab.fz n_eval_Value = true := by kernel_rfl
theorem z_augurylaw11_one : tab.fz n_augurylaw11_one = true := by kernel_rfl
theorem z_eval_Holds : tab.fz n_eval_Holds = true := by kernel_rfl
theorem z_auguryref04_Right : tab.fz n_auguryref04_Right = true := by kernel_rfl
theorem z_auguryref08_Right : tab.fz n_auguryref08_Right = true := by kernel_rfl
theorem z_auguryref08_Parse : tab.fz n_auguryref08_Parse = true := by kernel_rfl
theorem z_eval_All : tab.fz n_eval_All = true := by kernel_rfl
theorem z_augurylaw08_greatExpr : tab.fz n_augurylaw08_greatExpr = true := by kernel_rfl
theorem z_augurylaw05_GreatEvent : tab.fz n_augurylaw05_GreatEvent = true := by kernel_rfl
theorem z_eval_scope_value : tab.fz n_eval_scope_value = true := by kernel_rfl
theorem z_value_Compare : tab.fz n_value_Compare = true := by kernel_rfl
theorem z_auguryref08_rightItem : tab.fz n_auguryref08_rightItem = true := by kernel_rfl
theorem z_auguryref08_RightExpr : tab.fz n_auguryref08_RightExpr = true := by kernel_rfl
theorem z_auguryref08_Name : tab.fz n_auguryref08_Name = true := by kernel_rfl
theorem z_auguryref07_Read : tab.fz n_auguryref07_Read = true := by kernel_rfl
theorem z_auguryref08_reader_query : tab.fz n_auguryref08_reader_query = true := by kernel_rfl
theorem z_slices_ContainsFunc_Pred : tab.fz n_slices_ContainsFunc_Pred = true := by kernel_rfl
theorem z_eval_All_1 : tab.fz n_eval_All_1 = true := by kernel_rfl
theorem z_norm_Place : tab.fz n_norm_Place = true := by kernel_rfl
theorem z_value_Right : tab.fz n_value_Right = true := by kernel_rfl
theorem z_eval_scope_two : tab.fz n_eval_scope_two = true := by kernel_rfl
theorem z_value_Add : tab.fz n_value_Add = true := by kernel_rfl
theorem z_value_Sub : tab.fz n_value_Sub = true := by kernel_rfl
theorem z_eval_scope_row : tab.fz n_eval_scope_row = true := by kernel_rfl
theorem z_eval_scope_field : tab.fz n_eval_scope_field = true := by kernel_rfl
theorem z_eval_scope_folded : tab.fz n_eval_scope_folded = true := by kernel_rfl
theorem z_strings_Compare : tab.fz n_strings_Compare = true := by kernel_rfl
theorem z_cmp_Compare_int64 : tab.fz n_cmp_Compare_int64 = true := by kernel_rfl
theorem z_value_signs : tab.fz n_value_signs = true := by kernel_rfl
theorem z_auguryref05_Word : tab.fz n_auguryref05_Word = true := by kernel_rfl
theorem z_auguryref07_Key : tab.fz n_auguryref07_Key = true := by kernel_rfl
theorem z_auguryref07_letter : tab.fz n_auguryref07_letter = true := by kernel_rfl
theorem z_auguryref07_word : tab.fz n_auguryref07_word = true := by kernel_rfl
theorem z_auguryref07_digit : tab.fz n_auguryref07_digit = true := by kernel_rfl
theorem z_auguryref07_number : tab.fz n_auguryref07_number = true := by kernel_rfl
theorem z_auguryref07_quoted : tab.fz n_auguryref07_quoted = true := by kernel_rfl
theorem z_auguryref07_sign : tab.fz n_auguryref07_sign = true := by kernel_rfl
theorem z_auguryref08_reader_must : tab.fz n_auguryref08_reader_must = true := by kernel_rfl
theorem z_auguryref08_reader_item : tab.fz n_auguryref08_reader_item = true := by kernel_rfl
theorem z_auguryref08_reader_take : tab.fz n_auguryref08_reader_take = true := by kernel_rfl
theorem z_auguryref08_reader_pred : tab.fz n_auguryref08_reader_pred = true := by kernel_rfl
theorem z_auguryref08_reader_number : tab.fz n_auguryref08_reader_number = true := by kernel_rfl
theorem z_auguryref08_reader_name : tab.fz n_auguryref08_reader_name = true := by kernel_rfl
theorem z_auguryref08_pick : tab.fz n_auguryref08_pick = true := by kernel_rfl
theorem z_auguryref08_reader_fail : tab.fz n_auguryref08_reader_fail = true := by kernel_rfl
theorem z_slices_IndexFunc_Pred : tab.fz n_slices_IndexFunc_Pred = true := by kernel_rfl
theorem z_check_Vars : tab.fz n_check_Vars = false := by kernel_rfl
theorem z_slices_Max_int : tab.fz n_slices_Max_int = true := by kernel_rfl
theorem z_value_reckoned : tab.fz n_value_reckoned = true := by kernel_rfl
theorem z_slices_IndexFunc_Item : tab.fz n_slices_IndexFunc_Item = true := by kernel_rfl
theorem z_eval_scope_row_1 : tab.fz n_eval_scope_row_1 = true := by kernel_rfl
theorem z_event_Find : tab.fz n_event_Find = true := by kernel_rfl
theorem z_event_Field : tab.fz n_event_Field = true := by kernel_rfl
theorem z_eval_folds : tab.fz n_eval_folds = true := by kernel_rfl
theorem z_eval_scope_numbers : tab.fz n_eval_scope_numbers = true := by kernel_rfl
theorem z_bytealg_CompareString : tab.fz n_bytealg_CompareString = true := by kernel_rfl
theorem z_cmp_isNaN_int64 : tab.fz n_cmp_isNaN_int64 = true := by kernel_rfl
theorem z_auguryref08_reader_is : tab.fz n_auguryref08_reader_is = true := by kernel_rfl
theorem z_auguryref08_reader_expr : tab.fz n_auguryref08_reader_expr = true := by kernel_rfl
theorem z_auguryref08_Sign : tab.fz n_auguryref08_Sign = true := by kernel_rfl
theorem z_auguryref08_reader_named : tab.fz n_auguryref08_reader_named = true := by kernel_rfl
theorem z_check_vars : tab.fz n_check_vars = false := by kernel_rfl
theorem z_value_both : tab.fz n_value_both = true := by kernel_rfl
theorem z_slices_IndexFunc_Schema : tab.fz n_slices_IndexFunc_Schema = true := by kernel_rfl
theorem z_event_Find_1 : tab.fz n_event_Find_1 = true := by kernel_rfl
theorem z_slices_IndexFunc_Field : tab.fz n_slices_IndexFunc_Field = true := by kernel_rfl
theorem z_event_Field_1 : tab.fz n_event_Field_1 = true := by kernel_rfl
theorem z_eval_folds_1 : tab.fz n_eval_folds_1 = true := by kernel_rfl
theorem z_eval_folds_1_1 : tab.fz n_eval_folds_1_1 = true := by kernel_rfl
theorem z_eval_scope_numbers_1 : tab.fz n_eval_scope_numbers_1 = true := by kernel_rfl
theorem z_auguryref08_reader_term : tab.fz n_auguryref08_reader_term = true := by kernel_rfl
theorem z_check_each : tab.fz n_check_each = true := by kernel_rfl
theorem z_check_vars_1 : tab.fz n_check_vars_1 = true := by kernel_rfl
theorem z_check_item : tab.fz n_check_item = true := by kernel_rfl
theorem z_slices_Sorted_int : tab.fz n_slices_Sorted_int = true := by kernel_rfl
theorem z_maps_Keys_int : tab.fz n_maps_Keys_int = false := by kernel_rfl
theorem z_auguryref08_word : tab.fz n_auguryref08_word = true := by kernel_rfl
theorem z_auguryref08_reader_field : tab.fz n_auguryref08_reader_field = true := by kernel_rfl
theorem z_check_item_1 : tab.fz n_check_item_1 = true := by kernel_rfl
theorem z_slices_Collect_int : tab.fz n_slices_Collect_int = true := by kernel_rfl
theorem z_slices_Sort_int : tab.fz n_slices_Sort_int = true := by kernel_rfl
theorem z_maps_Keys_int_1 : tab.fz n_maps_Keys_int_1 = true := by kernel_rfl
theorem z_slices_AppendSeq_int : tab.fz n_slices_AppendSeq_int = true := by kernel_rfl
theorem z_slices_pdqsortOrdered_int : tab.fz n_slices_pdqsortOrdered_int = true := by kernel_rfl
theorem z_bits_Len : tab.fz n_bits_Len = true := by kernel_rfl
theorem z_slices_insertionSortOrdered_int : tab.fz n_slices_insertionSortOrdered_int = true := by kernel_rfl
theorem z_slices_heapSortOrdered_int : tab.fz n_slices_heapSortOrdered_int = true := by kernel_rfl
theorem z_slices_breakPatternsOrdered_int : tab.fz n_slices_breakPatternsOrdered_int = true := by kernel_rfl
theorem z_slices_choosePivotOrdered_int : tab.fz n_slices_choosePivotOrdered_int = true := by kernel_rfl
theorem z_slices_reverseRangeOrdered_int : tab.fz n_slices_reverseRangeOrdered_int = true := by kernel_rfl
theorem z_slices_partialInsertionSortOrdered_int : tab.fz n_slices_partialInsertionSortOrdered_int = true := by kernel_rfl
theorem z_cmp_Less_int : tab.fz n_cmp_Less_int = true := by kernel_rfl
theorem z_slices_partitionEqualOrdered_int : tab.fz n_slices_partitionEqualOrdered_int = true := by kernel_rfl
theorem z_slices_partitionOrdered_int : tab.fz n_slices_partitionOrdered_int = true := by kernel_rfl
theorem z_bits_Len32 : tab.fz n_bits_Len32 = true := by kernel_rfl
theorem z_bits_Len64 : tab.fz n_bits_Len64 = true := by kernel_rfl
theorem z_slices_siftDownOrdered_int : tab.fz n_slices_siftDownOrdered_int = true := by kernel_rfl
theorem z_slices_nextPowerOfTwo : tab.fz n_slices_nextPowerOfTwo = true := by kernel_rfl
theorem z_slices_xorshift_Next : tab.fz n_slices_xorshift_Next = true := by kernel_rfl
theorem z_slices_medianAdjacentOrdered_int : tab.fz n_slices_medianAdjacentOrdered_int = true := by kernel_rfl
theorem z_slices_medianOrdered_int : tab.fz n_slices_medianOrdered_int = true := by kernel_rfl
theorem z_cmp_isNaN_int : tab.fz n_cmp_isNaN_int = true := by kernel_rfl
theorem z_slices_order2Ordered_int : tab.fz n_slices_order2Ordered_int = true := by kernel_rfl

end Go.Proofs.YtnkbdcaiepecdaaGreat.Tz
