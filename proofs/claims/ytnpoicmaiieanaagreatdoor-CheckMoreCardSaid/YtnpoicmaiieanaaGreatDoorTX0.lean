/-
The table. Conditions: none.
-/
import Derived.Test.YtnpoicmaiieanaaGreatDoorTM9
import Derived.Test.YtnpoicmaiieanaaGreatDoorGO
import Derived.Test.YtnpoicmaiieanaaGreatDoorTO3
import Derived.Test.YtnpoicmaiieanaaGreatDoorTO8
import Derived.KernelRfl
namespace Go.Proofs.YtnpoicmaiieanaaGreatDoor.Tz
open Go.Aug
set_option maxRecDepth 100000

def frozen (f : Nat) : Bool := cond (Nat.beq f n_maps_Keys_int) false (true)
/-- The live question's answer. -/
def orcHead : List D → Heap → Option (D × Heap)
  | [], H => some (.v (.bool true), H)
  | _, _ => none
def orcs0 (f : Nat) : Option (List D → Heap → Option (D × Heap)) := cond (Nat.beq f n_slices_Sorted_int) (some (orcSorted 1000000 n_maps_Keys_int_1)) (cond (Nat.beq f n_slices_Collect_int) (some (orcSorted 1 n_maps_Keys_int_1)) (cond (Nat.beq f n_errors_As) (some (orcAs 60 64 65 30)) (cond (Nat.beq f n_strings_Contains) (some orcContains) (none))))
def orcs (f : Nat) : Option (List D → Heap → Option (D × Heap)) := cond (Nat.beq f n_augurylaw09_head) (some orcHead) (cond (Nat.beq f n_slices_Sorted_int) (some (orcSorted 1000000 n_maps_Keys_int_1)) (cond (Nat.beq f n_slices_Collect_int) (some (orcSorted 1 n_maps_Keys_int_1)) (cond (Nat.beq f n_errors_As) (some (orcAs 60 64 65 30)) (cond (Nat.beq f n_strings_Contains) (some orcContains) (none)))))
def tab0 : Tab := ⟨findF rows, frozen, orcs0⟩
def tab : Tab := ⟨findF rows, frozen, orcs⟩

theorem t_gosem_cut_init : tab.fn n_gosem_cut_init = some F_gosem_cut_init := by kernel_rfl
theorem o_gosem_cut_init : tab.orc n_gosem_cut_init = none := by kernel_rfl
theorem t_augurylaw09_CheckMore : tab.fn n_augurylaw09_CheckMore = some F_augurylaw09_CheckMore := by kernel_rfl
theorem o_augurylaw09_CheckMore : tab.orc n_augurylaw09_CheckMore = none := by kernel_rfl
theorem t_augurylaw09_CheckKinds : tab.fn n_augurylaw09_CheckKinds = some F_augurylaw09_CheckKinds := by kernel_rfl
theorem o_augurylaw09_CheckKinds : tab.orc n_augurylaw09_CheckKinds = none := by kernel_rfl
theorem t_augurylaw09_CheckVars : tab.fn n_augurylaw09_CheckVars = some F_augurylaw09_CheckVars := by kernel_rfl
theorem o_augurylaw09_CheckVars : tab.orc n_augurylaw09_CheckVars = none := by kernel_rfl
theorem t_augurylaw09_CheckFirst : tab.fn n_augurylaw09_CheckFirst = some F_augurylaw09_CheckFirst := by kernel_rfl
theorem o_augurylaw09_CheckFirst : tab.orc n_augurylaw09_CheckFirst = none := by kernel_rfl
theorem o_augurylaw09_head : tab.orc n_augurylaw09_head = some orcHead := by kernel_rfl
theorem t_augurylaw05_GreatSchemas : tab.fn n_augurylaw05_GreatSchemas = some F_augurylaw05_GreatSchemas := by kernel_rfl
theorem o_augurylaw05_GreatSchemas : tab.orc n_augurylaw05_GreatSchemas = none := by kernel_rfl
theorem t_augurylaw08_Great : tab.fn n_augurylaw08_Great = some F_augurylaw08_Great := by kernel_rfl
theorem o_augurylaw08_Great : tab.orc n_augurylaw08_Great = none := by kernel_rfl
theorem t_check_Check : tab.fn n_check_Check = some F_check_Check := by kernel_rfl
theorem o_check_Check : tab.orc n_check_Check = none := by kernel_rfl
theorem t_check_Kind : tab.fn n_check_Kind = some F_check_Kind := by kernel_rfl
theorem o_check_Kind : tab.orc n_check_Kind = none := by kernel_rfl
theorem t_check_Vars : tab.fn n_check_Vars = some F_check_Vars := by kernel_rfl
theorem o_check_Vars : tab.orc n_check_Vars = none := by kernel_rfl
theorem t_augurylaw09_has : tab.fn n_augurylaw09_has = some F_augurylaw09_has := by kernel_rfl
theorem o_augurylaw09_has : tab.orc n_augurylaw09_has = none := by kernel_rfl
theorem t_auguryref08_Right : tab.fn n_auguryref08_Right = some F_auguryref08_Right := by kernel_rfl
theorem o_auguryref08_Right : tab.orc n_auguryref08_Right = none := by kernel_rfl
theorem t_augurylaw09_parsed : tab.fn n_augurylaw09_parsed = some F_augurylaw09_parsed := by kernel_rfl
theorem o_augurylaw09_parsed : tab.orc n_augurylaw09_parsed = none := by kernel_rfl
theorem t_augurylaw08_greatExpr : tab.fn n_augurylaw08_greatExpr = some F_augurylaw08_greatExpr := by kernel_rfl
theorem o_augurylaw08_greatExpr : tab.orc n_augurylaw08_greatExpr = none := by kernel_rfl
theorem t_tree_Right : tab.fn n_tree_Right = some F_tree_Right := by kernel_rfl
theorem o_tree_Right : tab.orc n_tree_Right = none := by kernel_rfl
theorem t_check_names : tab.fn n_check_names = some F_check_names := by kernel_rfl
theorem o_check_names : tab.orc n_check_names = none := by kernel_rfl
theorem t_check_by : tab.fn n_check_by = some F_check_by := by kernel_rfl
theorem o_check_by : tab.orc n_check_by = none := by kernel_rfl
theorem t_check_kinds : tab.fn n_check_kinds = some F_check_kinds := by kernel_rfl
theorem o_check_kinds : tab.orc n_check_kinds = none := by kernel_rfl
theorem t_check_nots : tab.fn n_check_nots = some F_check_nots := by kernel_rfl
theorem o_check_nots : tab.orc n_check_nots = none := by kernel_rfl
theorem o_errors_As : tab.orc n_errors_As = some (orcAs 60 64 65 30) := by kernel_rfl
theorem t_check_item : tab.fn n_check_item = some F_check_item := by kernel_rfl
theorem o_check_item : tab.orc n_check_item = none := by kernel_rfl
theorem t_check_field : tab.fn n_check_field = some F_check_field := by kernel_rfl
theorem o_check_field : tab.orc n_check_field = none := by kernel_rfl
theorem t_check_vars : tab.fn n_check_vars = some F_check_vars := by kernel_rfl
theorem o_check_vars : tab.orc n_check_vars = none := by kernel_rfl
theorem t_auguryref08_rightItem : tab.fn n_auguryref08_rightItem = some F_auguryref08_rightItem := by kernel_rfl
theorem o_auguryref08_rightItem : tab.orc n_auguryref08_rightItem = none := by kernel_rfl
theorem t_auguryref08_RightExpr : tab.fn n_auguryref08_RightExpr = some F_auguryref08_RightExpr := by kernel_rfl
theorem o_auguryref08_RightExpr : tab.orc n_auguryref08_RightExpr = none := by kernel_rfl
theorem t_auguryref08_Name : tab.fn n_auguryref08_Name = some F_auguryref08_Name := by kernel_rfl
theorem o_auguryref08_Name : tab.orc n_auguryref08_Name = none := by kernel_rfl
theorem t_auguryref08_Parse : tab.fn n_auguryref08_Parse = some F_auguryref08_Parse := by kernel_rfl
theorem o_auguryref08_Parse : tab.orc n_auguryref08_Parse = none := by kernel_rfl
theorem t_tree_item : tab.fn n_tree_item = some F_tree_item := by kernel_rfl
theorem o_tree_item : tab.orc n_tree_item = none := by kernel_rfl
theorem t_tree_expression : tab.fn n_tree_expression = some F_tree_expression := by kernel_rfl
theorem o_tree_expression : tab.orc n_tree_expression = none := by kernel_rfl
theorem t_tree_name : tab.fn n_tree_name = some F_tree_name := by kernel_rfl
theorem o_tree_name : tab.orc n_tree_name = none := by kernel_rfl
theorem t_event_Find : tab.fn n_event_Find = some F_event_Find := by kernel_rfl
theorem o_event_Find : tab.orc n_event_Find = none := by kernel_rfl
theorem t_slices_ContainsFunc_int : tab.fn n_slices_ContainsFunc_int = some F_slices_ContainsFunc_int := by kernel_rfl
theorem o_slices_ContainsFunc_int : tab.orc n_slices_ContainsFunc_int = none := by kernel_rfl
theorem t_check_nots_1 : tab.fn n_check_nots_1 = some F_check_nots_1 := by kernel_rfl
theorem o_check_nots_1 : tab.orc n_check_nots_1 = none := by kernel_rfl
theorem t_errors_as : tab.fn n_errors_as = some F_errors_as := by kernel_rfl
theorem o_errors_as : tab.orc n_errors_as = none := by kernel_rfl
theorem t_slices_IndexFunc_Item : tab.fn n_slices_IndexFunc_Item = some F_slices_IndexFunc_Item := by kernel_rfl
theorem o_slices_IndexFunc_Item : tab.orc n_slices_IndexFunc_Item = none := by kernel_rfl
theorem t_check_item_1 : tab.fn n_check_item_1 = some F_check_item_1 := by kernel_rfl
theorem o_check_item_1 : tab.orc n_check_item_1 = none := by kernel_rfl
theorem t_event_Field : tab.fn n_event_Field = some F_event_Field := by kernel_rfl
theorem o_event_Field : tab.orc n_event_Field = none := by kernel_rfl
theorem t_slices_Max_int : tab.fn n_slices_Max_int = some F_slices_Max_int := by kernel_rfl
theorem o_slices_Max_int : tab.orc n_slices_Max_int = none := by kernel_rfl
theorem o_slices_Collect_int : tab.orc n_slices_Collect_int = some (orcSorted 1 n_maps_Keys_int_1) := by kernel_rfl
theorem t_maps_Keys_int : tab.fn n_maps_Keys_int = some F_maps_Keys_int := by kernel_rfl
theorem o_maps_Keys_int : tab.orc n_maps_Keys_int = none := by kernel_rfl
theorem t_check_each : tab.fn n_check_each = some F_check_each := by kernel_rfl
theorem o_check_each : tab.orc n_check_each = none := by kernel_rfl
theorem t_check_vars_1 : tab.fn n_check_vars_1 = some F_check_vars_1 := by kernel_rfl
theorem o_check_vars_1 : tab.orc n_check_vars_1 = none := by kernel_rfl
theorem o_slices_Sorted_int : tab.orc n_slices_Sorted_int = some (orcSorted 1000000 n_maps_Keys_int_1) := by kernel_rfl
theorem t_auguryref04_Right : tab.fn n_auguryref04_Right = some F_auguryref04_Right := by kernel_rfl
theorem o_auguryref04_Right : tab.orc n_auguryref04_Right = none := by kernel_rfl
theorem t_auguryref05_Word : tab.fn n_auguryref05_Word = some F_auguryref05_Word := by kernel_rfl
theorem o_auguryref05_Word : tab.orc n_auguryref05_Word = none := by kernel_rfl
theorem t_auguryref07_Key : tab.fn n_auguryref07_Key = some F_auguryref07_Key := by kernel_rfl
theorem o_auguryref07_Key : tab.orc n_auguryref07_Key = none := by kernel_rfl
theorem t_auguryref07_Read : tab.fn n_auguryref07_Read = some F_auguryref07_Read := by kernel_rfl
theorem o_auguryref07_Read : tab.orc n_auguryref07_Read = none := by kernel_rfl
theorem t_auguryref08_reader_query : tab.fn n_auguryref08_reader_query = some F_auguryref08_reader_query := by kernel_rfl
theorem o_auguryref08_reader_query : tab.orc n_auguryref08_reader_query = none := by kernel_rfl
theorem t_value_Right : tab.fn n_value_Right = some F_value_Right := by kernel_rfl
theorem o_value_Right : tab.orc n_value_Right = none := by kernel_rfl
theorem t_tree_plain : tab.fn n_tree_plain = some F_tree_plain := by kernel_rfl
theorem o_tree_plain : tab.orc n_tree_plain = none := by kernel_rfl
theorem t_event_Word : tab.fn n_event_Word = some F_event_Word := by kernel_rfl
theorem o_event_Word : tab.orc n_event_Word = none := by kernel_rfl
theorem t_lex_Key : tab.fn n_lex_Key = some F_lex_Key := by kernel_rfl
theorem o_lex_Key : tab.orc n_lex_Key = none := by kernel_rfl
theorem t_slices_IndexFunc_Schema : tab.fn n_slices_IndexFunc_Schema = some F_slices_IndexFunc_Schema := by kernel_rfl
theorem o_slices_IndexFunc_Schema : tab.orc n_slices_IndexFunc_Schema = none := by kernel_rfl
theorem t_event_Find_1 : tab.fn n_event_Find_1 = some F_event_Find_1 := by kernel_rfl
theorem o_event_Find_1 : tab.orc n_event_Find_1 = none := by kernel_rfl
theorem t_slices_IndexFunc_int : tab.fn n_slices_IndexFunc_int = some F_slices_IndexFunc_int := by kernel_rfl
theorem o_slices_IndexFunc_int : tab.orc n_slices_IndexFunc_int = none := by kernel_rfl
theorem t_slices_IndexFunc_Field : tab.fn n_slices_IndexFunc_Field = some F_slices_IndexFunc_Field := by kernel_rfl
theorem o_slices_IndexFunc_Field : tab.orc n_slices_IndexFunc_Field = none := by kernel_rfl
theorem t_event_Field_1 : tab.fn n_event_Field_1 = some F_event_Field_1 := by kernel_rfl
theorem o_event_Field_1 : tab.orc n_event_Field_1 = none := by kernel_rfl
theorem t_slices_AppendSeq_int : tab.fn n_slices_AppendSeq_int = some F_slices_AppendSeq_int := by kernel_rfl
theorem o_slices_AppendSeq_int : tab.orc n_slices_AppendSeq_int = none := by kernel_rfl
theorem t_maps_Keys_int_1 : tab.fn n_maps_Keys_int_1 = some F_maps_Keys_int_1 := by kernel_rfl
theorem o_maps_Keys_int_1 : tab.orc n_maps_Keys_int_1 = none := by kernel_rfl
theorem t_slices_Sort_int : tab.fn n_slices_Sort_int = some F_slices_Sort_int := by kernel_rfl
theorem o_slices_Sort_int : tab.orc n_slices_Sort_int = none := by kernel_rfl
theorem t_auguryref07_letter : tab.fn n_auguryref07_letter = some F_auguryref07_letter := by kernel_rfl
theorem o_auguryref07_letter : tab.orc n_auguryref07_letter = none := by kernel_rfl
theorem t_auguryref07_word : tab.fn n_auguryref07_word = some F_auguryref07_word := by kernel_rfl
theorem o_auguryref07_word : tab.orc n_auguryref07_word = none := by kernel_rfl
theorem t_auguryref07_digit : tab.fn n_auguryref07_digit = some F_auguryref07_digit := by kernel_rfl
theorem o_auguryref07_digit : tab.orc n_auguryref07_digit = none := by kernel_rfl
theorem t_auguryref07_number : tab.fn n_auguryref07_number = some F_auguryref07_number := by kernel_rfl
theorem o_auguryref07_number : tab.orc n_auguryref07_number = none := by kernel_rfl
theorem t_auguryref07_quoted : tab.fn n_auguryref07_quoted = some F_auguryref07_quoted := by kernel_rfl
theorem o_auguryref07_quoted : tab.orc n_auguryref07_quoted = none := by kernel_rfl
theorem t_auguryref07_sign : tab.fn n_auguryref07_sign = some F_auguryref07_sign := by kernel_rfl
theorem o_auguryref07_sign : tab.orc n_auguryref07_sign = none := by kernel_rfl
theorem t_auguryref08_reader_must : tab.fn n_auguryref08_reader_must = some F_auguryref08_reader_must := by kernel_rfl
theorem o_auguryref08_reader_must : tab.orc n_auguryref08_reader_must = none := by kernel_rfl
theorem t_auguryref08_reader_item : tab.fn n_auguryref08_reader_item = some F_auguryref08_reader_item := by kernel_rfl
theorem o_auguryref08_reader_item : tab.orc n_auguryref08_reader_item = none := by kernel_rfl
theorem t_auguryref08_reader_take : tab.fn n_auguryref08_reader_take = some F_auguryref08_reader_take := by kernel_rfl
theorem o_auguryref08_reader_take : tab.orc n_auguryref08_reader_take = none := by kernel_rfl
theorem t_auguryref08_reader_pred : tab.fn n_auguryref08_reader_pred = some F_auguryref08_reader_pred := by kernel_rfl
theorem o_auguryref08_reader_pred : tab.orc n_auguryref08_reader_pred = none := by kernel_rfl
theorem t_auguryref08_reader_number : tab.fn n_auguryref08_reader_number = some F_auguryref08_reader_number := by kernel_rfl
theorem o_auguryref08_reader_number : tab.orc n_auguryref08_reader_number = none := by kernel_rfl
theorem t_auguryref08_reader_name : tab.fn n_auguryref08_reader_name = some F_auguryref08_reader_name := by kernel_rfl
theorem o_auguryref08_reader_name : tab.orc n_auguryref08_reader_name = none := by kernel_rfl
theorem t_auguryref08_pick : tab.fn n_auguryref08_pick = some F_auguryref08_pick := by kernel_rfl
theorem o_auguryref08_pick : tab.orc n_auguryref08_pick = none := by kernel_rfl
theorem t_auguryref08_reader_fail : tab.fn n_auguryref08_reader_fail = some F_auguryref08_reader_fail := by kernel_rfl
theorem o_auguryref08_reader_fail : tab.orc n_auguryref08_reader_fail = none := by kernel_rfl
theorem o_strings_Contains : tab.orc n_strings_Contains = some orcContains := by kernel_rfl
theorem t_slices_pdqsortOrdered_int : tab.fn n_slices_pdqsortOrdered_int = some F_slices_pdqsortOrdered_int := by kernel_rfl
theorem o_slices_pdqsortOrdered_int : tab.orc n_slices_pdqsortOrdered_int = none := by kernel_rfl
theorem t_bits_Len : tab.fn n_bits_Len = some F_bits_Len := by kernel_rfl
theorem o_bits_Len : tab.orc n_bits_Len = none := by kernel_rfl
theorem t_auguryref08_reader_is : tab.fn n_auguryref08_reader_is = some F_auguryref08_reader_is := by kernel_rfl
theorem o_auguryref08_reader_is : tab.orc n_auguryref08_reader_is = none := by kernel_rfl
theorem t_auguryref08_reader_expr : tab.fn n_auguryref08_reader_expr = some F_auguryref08_reader_expr := by kernel_rfl
theorem o_auguryref08_reader_expr : tab.orc n_auguryref08_reader_expr = none := by kernel_rfl
theorem t_auguryref08_Sign : tab.fn n_auguryref08_Sign = some F_auguryref08_Sign := by kernel_rfl
theorem o_auguryref08_Sign : tab.orc n_auguryref08_Sign = none := by kernel_rfl
theorem t_auguryref08_reader_named : tab.fn n_auguryref08_reader_named = some F_auguryref08_reader_named := by kernel_rfl
theorem o_auguryref08_reader_named : tab.orc n_auguryref08_reader_named = none := by kernel_rfl
theorem t_strings_Index : tab.fn n_strings_Index = some F_strings_Index := by kernel_rfl
theorem o_strings_Index : tab.orc n_strings_Index = none := by kernel_rfl
theorem t_slices_insertionSortOrdered_int : tab.fn n_slices_insertionSortOrdered_int = some F_slices_insertionSortOrdered_int := by kernel_rfl
theorem o_slices_insertionSortOrdered_int : tab.orc n_slices_insertionSortOrdered_int = none := by kernel_rfl
theorem t_slices_heapSortOrdered_int : tab.fn n_slices_heapSortOrdered_int = some F_slices_heapSortOrdered_int := by kernel_rfl
theorem o_slices_heapSortOrdered_int : tab.orc n_slices_heapSortOrdered_int = none := by kernel_rfl
theorem t_slices_breakPatternsOrdered_int : tab.fn n_slices_breakPatternsOrdered_int = some F_slices_breakPatternsOrdered_int := by kernel_rfl
theorem o_slices_breakPatternsOrdered_int : tab.orc n_slices_breakPatternsOrdered_int = none := by kernel_rfl
theorem t_slices_choosePivotOrdered_int : tab.fn n_slices_choosePivotOrdered_int = some F_slices_choosePivotOrdered_int := by kernel_rfl
theorem o_slices_choosePivotOrdered_int : tab.orc n_slices_choosePivotOrdered_int = none := by kernel_rfl
theorem t_slices_reverseRangeOrdered_int : tab.fn n_slices_reverseRangeOrdered_int = some F_slices_reverseRangeOrdered_int := by kernel_rfl
theorem o_slices_reverseRangeOrdered_int : tab.orc n_slices_reverseRangeOrdered_int = none := by kernel_rfl
theorem t_slices_partialInsertionSortOrdered_int : tab.fn n_slices_partialInsertionSortOrdered_int = some F_slices_partialInsertionSortOrdered_int := by kernel_rfl
theorem o_slices_partialInsertionSortOrdered_int : tab.orc n_slices_partialInsertionSortOrdered_int = none := by kernel_rfl
theorem t_cmp_Less_int : tab.fn n_cmp_Less_int = some F_cmp_Less_int := by kernel_rfl
theorem o_cmp_Less_int : tab.orc n_cmp_Less_int = none := by kernel_rfl
theorem t_slices_partitionEqualOrdered_int : tab.fn n_slices_partitionEqualOrdered_int = some F_slices_partitionEqualOrdered_int := by kernel_rfl
theorem o_slices_partitionEqualOrdered_int : tab.orc n_slices_partitionEqualOrdered_int = none := by kernel_rfl
theorem t_slices_partitionOrdered_int : tab.fn n_slices_partitionOrdered_int = some F_slices_partitionOrdered_int := by kernel_rfl
theorem o_slices_partitionOrdered_int : tab.orc n_slices_partitionOrdered_int = none := by kernel_rfl
theorem t_bits_Len32 : tab.fn n_bits_Len32 = some F_bits_Len32 := by kernel_rfl
theorem o_bits_Len32 : tab.orc n_bits_Len32 = none := by kernel_rfl
theorem t_bits_Len64 : tab.fn n_bits_Len64 = some F_bits_Len64 := by kernel_rfl
theorem o_bits_Len64 : tab.orc n_bits_Len64 = none := by kernel_rfl
theorem t_auguryref08_reader_term : tab.fn n_auguryref08_reader_term = some F_auguryref08_reader_term := by kernel_rfl
theorem o_auguryref08_reader_term : tab.orc n_auguryref08_reader_term = none := by kernel_rfl
theorem t_stringslite_Index : tab.fn n_stringslite_Index = some F_stringslite_Index := by kernel_rfl
theorem o_stringslite_Index : tab.orc n_stringslite_Index = none := by kernel_rfl
theorem t_slices_siftDownOrdered_int : tab.fn n_slices_siftDownOrdered_int = some F_slices_siftDownOrdered_int := by kernel_rfl
theorem o_slices_siftDownOrdered_int : tab.orc n_slices_siftDownOrdered_int = none := by kernel_rfl
theorem t_slices_nextPowerOfTwo : tab.fn n_slices_nextPowerOfTwo = some F_slices_nextPowerOfTwo := by kernel_rfl
theorem o_slices_nextPowerOfTwo : tab.orc n_slices_nextPowerOfTwo = none := by kernel_rfl
theorem t_slices_xorshift_Next : tab.fn n_slices_xorshift_Next = some F_slices_xorshift_Next := by kernel_rfl
theorem o_slices_xorshift_Next : tab.orc n_slices_xorshift_Next = none := by kernel_rfl
theorem t_slices_medianAdjacentOrdered_int : tab.fn n_slices_medianAdjacentOrdered_int = some F_slices_medianAdjacentOrdered_int := by kernel_rfl
theorem o_slices_medianAdjacentOrdered_int : tab.orc n_slices_medianAdjacentOrdered_int = none := by kernel_rfl
theorem t_slices_medianOrdered_int : tab.fn n_slices_medianOrdered_int = some F_slices_medianOrdered_int := by kernel_rfl
theorem o_slices_medianOrdered_int : tab.orc n_slices_medianOrdered_int = none := by kernel_rfl
theorem t_cmp_isNaN_int : tab.fn n_cmp_isNaN_int = some F_cmp_isNaN_int := by kernel_rfl
theorem o_cmp_isNaN_int : tab.orc n_cmp_isNaN_int = none := by kernel_rfl
theorem t_auguryref08_word : tab.fn n_auguryref08_word = some F_auguryref08_word := by kernel_rfl
theorem o_auguryref08_word : tab.orc n_auguryref08_word = none := by kernel_rfl
theorem t_auguryref08_reader_field : tab.fn n_auguryref08_reader_field = some F_auguryref08_reader_field := by kernel_rfl
theorem o_auguryref08_reader_field : tab.orc n_auguryref08_reader_field = none := by kernel_rfl
theorem t_stringslite_IndexByte : tab.fn n_stringslite_IndexByte = some F_stringslite_IndexByte := by kernel_rfl
theorem o_stringslite_IndexByte : tab.orc n_stringslite_IndexByte = none := by kernel_rfl
theorem t_bytealg_Cutover : tab.fn n_bytealg_Cutover = some F_bytealg_Cutover := by kernel_rfl
theorem o_bytealg_Cutover : tab.orc n_bytealg_Cutover = none := by kernel_rfl
theorem t_bytealg_IndexRabinKarp_string : tab.fn n_bytealg_IndexRabinKarp_string = some F_bytealg_IndexRabinKarp_string := by kernel_rfl
theorem o_bytealg_IndexRabinKarp_string : tab.orc n_bytealg_IndexRabinKarp_string = none := by kernel_rfl
theorem t_slices_order2Ordered_int : tab.fn n_slices_order2Ordered_int = some F_slices_order2Ordered_int := by kernel_rfl
theorem o_slices_order2Ordered_int : tab.orc n_slices_order2Ordered_int = none := by kernel_rfl
theorem t_bytealg_hashStr_string : tab.fn n_bytealg_hashStr_string = some F_bytealg_hashStr_string := by kernel_rfl
theorem o_bytealg_hashStr_string : tab.orc n_bytealg_hashStr_string = none := by kernel_rfl
theorem t_check_wrong_Unwrap : tab.fn n_check_wrong_Unwrap = some F_check_wrong_Unwrap := by kernel_rfl
theorem o_check_wrong_Unwrap : tab.orc n_check_wrong_Unwrap = none := by kernel_rfl
theorem t_gosem_cut_vars : tab.fn n_gosem_cut_vars = some F_gosem_cut_vars := by kernel_rfl
theorem o_gosem_cut_vars : tab.orc n_gosem_cut_vars = none := by kernel_rfl
theorem z_gosem_cut_init : tab.fz n_gosem_cut_init = true := by kernel_rfl
theorem z_augurylaw09_CheckMore : tab.fz n_augurylaw09_CheckMore = true := by kernel_rfl
theorem z_augurylaw09_CheckKinds : tab.fz n_augurylaw09_CheckKinds = true := by kernel_rfl
theorem z_augurylaw09_CheckVars : tab.fz n_augurylaw09_CheckVars = true := by kernel_rfl
theorem z_augurylaw09_CheckFirst : tab.fz n_augurylaw09_CheckFirst = true := by kernel_rfl
theorem z_augurylaw09_head : tab.fz n_augurylaw09_head = true := by kernel_rfl
theorem z_augurylaw05_GreatSchemas : tab.fz n_augurylaw05_GreatSchemas = true := by kernel_rfl
theorem z_augurylaw08_Great : tab.fz n_augurylaw08_Great = true := by kernel_rfl
theorem z_check_Check : tab.fz n_check_Check = true := by kernel_rfl
theorem z_check_Kind : tab.fz n_check_Kind = true := by kernel_rfl
theorem z_check_Vars : tab.fz n_check_Vars = true := by kernel_rfl
theorem z_augurylaw09_has : tab.fz n_augurylaw09_has = true := by kernel_rfl
theorem z_auguryref08_Right : tab.fz n_auguryref08_Right = true := by kernel_rfl
theorem z_augurylaw09_parsed : tab.fz n_augurylaw09_parsed = true := by kernel_rfl
theorem z_augurylaw08_greatExpr : tab.fz n_augurylaw08_greatExpr = true := by kernel_rfl
theorem z_tree_Right : tab.fz n_tree_Right = true := by kernel_rfl
theorem z_check_names : tab.fz n_check_names = true := by kernel_rfl
theorem z_check_by : tab.fz n_check_by = true := by kernel_rfl
theorem z_check_kinds : tab.fz n_check_kinds = true := by kernel_rfl
theorem z_check_nots : tab.fz n_check_nots = true := by kernel_rfl
theorem z_errors_As : tab.fz n_errors_As = true := by kernel_rfl
theorem z_check_item : tab.fz n_check_item = true := by kernel_rfl
theorem z_check_field : tab.fz n_check_field = true := by kernel_rfl
theorem z_check_vars : tab.fz n_check_vars = true := by kernel_rfl
theorem z_auguryref08_rightItem : tab.fz n_auguryref08_rightItem = true := by kernel_rfl
theorem z_auguryref08_RightExpr : tab.fz n_auguryref08_RightExpr = true := by kernel_rfl
theorem z_auguryref08_Name : tab.fz n_auguryref08_Name = true := by kernel_rfl
theorem z_auguryref08_Parse : tab.fz n_auguryref08_Parse = true := by kernel_rfl
theorem z_tree_item : tab.fz n_tree_item = true := by kernel_rfl
theorem z_tree_expression : tab.fz n_tree_expression = true := by kernel_rfl
theorem z_tree_name : tab.fz n_tree_name = true := by kernel_rfl
theorem z_event_Find : tab.fz n_event_Find = true := by kernel_rfl
theorem z_slices_ContainsFunc_int : tab.fz n_slices_ContainsFunc_int = true := by kernel_rfl
theorem z_check_nots_1 : tab.fz n_check_nots_1 = true := by kernel_rfl
theorem z_errors_as : tab.fz n_errors_as = true := by kernel_rfl
theorem z_slices_IndexFunc_Item : tab.fz n_slices_IndexFunc_Item = true := by kernel_rfl
theorem z_check_item_1 : tab.fz n_check_item_1 = true := by kernel_rfl
theorem z_event_Field : tab.fz n_event_Field = true := by kernel_rfl
theorem z_slices_Max_int : tab.fz n_slices_Max_int = true := by kernel_rfl
theorem z_slices_Collect_int : tab.fz n_slices_Collect_int = true := by kernel_rfl
theorem z_maps_Keys_int : tab.fz n_maps_Keys_int = false := by kernel_rfl
theorem z_check_each : tab.fz n_check_each = true := by kernel_rfl
theorem z_check_vars_1 : tab.fz n_check_vars_1 = true := by kernel_rfl
theorem z_slices_Sorted_int : tab.fz n_slices_Sorted_int = true := by kernel_rfl
theorem z_auguryref04_Right : tab.fz n_auguryref04_Right = true := by kernel_rfl
theorem z_auguryref05_Word : tab.fz n_auguryref05_Word = true := by kernel_rfl
theorem z_auguryref07_Key : tab.fz n_auguryref07_Key = true := by kernel_rfl
theorem z_auguryref07_Read : tab.fz n_auguryref07_Read = true := by kernel_rfl
theorem z_auguryref08_reader_query : tab.fz n_auguryref08_reader_query = true := by kernel_rfl
theorem z_value_Right : tab.fz n_value_Right = true := by kernel_rfl
theorem z_tree_plain : tab.fz n_tree_plain = true := by kernel_rfl
theorem z_event_Word : tab.fz n_event_Word = true := by kernel_rfl
theorem z_lex_Key : tab.fz n_lex_Key = true := by kernel_rfl
theorem z_slices_IndexFunc_Schema : tab.fz n_slices_IndexFunc_Schema = true := by kernel_rfl
theorem z_event_Find_1 : tab.fz n_event_Find_1 = true := by kernel_rfl
theorem z_slices_IndexFunc_int : tab.fz n_slices_IndexFunc_int = true := by kernel_rfl
theorem z_slices_IndexFunc_Field : tab.fz n_slices_IndexFunc_Field = true := by kernel_rfl
theorem z_event_Field_1 : tab.fz n_event_Field_1 = true := by kernel_rfl
theorem z_slices_AppendSeq_int : tab.fz n_slices_AppendSeq_int = true := by kernel_rfl
theorem z_maps_Keys_int_1 : tab.fz n_maps_Keys_int_1 = true := by kernel_rfl
theorem z_slices_Sort_int : tab.fz n_slices_Sort_int = true := by kernel_rfl
theorem z_auguryref07_letter : tab.fz n_auguryref07_letter = true := by kernel_rfl
theorem z_auguryref07_word : tab.fz n_auguryref07_word = true := by kernel_rfl
theorem z_auguryref07_digit : tab.fz n_auguryref07_digit = true := by kernel_rfl
theorem z_auguryref07_number : tab.fz n_auguryref07_number = true := by kernel_rfl
theorem z_auguryref07_quoted : tab.fz n_auguryref07_quoted = true := by kernel_rfl
theorem z_auguryref07_sign : tab.fz n_auguryref07_sign = true := by kernel_rfl
theorem z_auguryref08_reader_must : tab.fz n_auguryref08_reader_must = true := by kernel_rfl
theorem z_auguryref08_reader_item : tab.fz n_auguryref08_reader_item = true := by kernel_rfl
theorem z_auguryref08_reader_take : tab.fz n_auguryref08_reader_take = true := by kernel_rfl
theorem z_auguryref08_reader_pred : tab.fz n_auguryref08_reader_pred = true := by kernel_rfl
theorem z_auguryref08_reader_number : tab.fz n_auguryref08_reader_number = true := by kernel_rfl
theorem z_auguryref08_reader_name : tab.fz n_auguryref08_reader_name = true := by kernel_rfl
theorem z_auguryref08_pick : tab.fz n_auguryref08_pick = true := by kernel_rfl
theorem z_auguryref08_reader_fail : tab.fz n_auguryref08_reader_fail = true := by kernel_rfl
theorem z_strings_Contains : tab.fz n_strings_Contains = true := by kernel_rfl
theorem z_slices_pdqsortOrdered_int : tab.fz n_slices_pdqsortOrdered_int = true := by kernel_rfl
theorem z_bits_Len : tab.fz n_bits_Len = true := by kernel_rfl
theorem z_auguryref08_reader_is : tab.fz n_auguryref08_reader_is = true := by kernel_rfl
theorem z_auguryref08_reader_expr : tab.fz n_auguryref08_reader_expr = true := by kernel_rfl
theorem z_auguryref08_Sign : tab.fz n_auguryref08_Sign = true := by kernel_rfl
theorem z_auguryref08_reader_named : tab.fz n_auguryref08_reader_named = true := by kernel_rfl
theorem z_strings_Index : tab.fz n_strings_Index = true := by kernel_rfl
theorem z_slices_insertionSortOrdered_int : tab.fz n_slices_insertionSortOrdered_int = true := by kernel_rfl
theorem z_slices_heapSortOrdered_int : tab.fz n_slices_heapSortOrdered_int = true := by kernel_rfl
theorem z_slices_breakPatternsOrdered_int : tab.fz n_slices_breakPatternsOrdered_int = true := by kernel_rfl
theorem z_slices_choosePivotOrdered_int : tab.fz n_slices_choosePivotOrdered_int = true := by kernel_rfl
theorem z_slices_reverseRangeOrdered_int : tab.fz n_slices_reverseRangeOrdered_int = true := by kernel_rfl
theorem z_slices_partialInsertionSortOrdered_int : tab.fz n_slices_partialInsertionSortOrdered_int = true := by kernel_rfl
theorem z_cmp_Less_int : tab.fz n_cmp_Less_int = true := by kernel_rfl
theorem z_slices_partitionEqualOrdered_int : tab.fz n_slices_partitionEqualOrdered_int = true := by kernel_rfl
theorem z_slices_partitionOrdered_int : tab.fz n_slices_partitionOrdered_int = true := by kernel_rfl
theorem z_bits_Len32 : tab.fz n_bits_Len32 = true := by kernel_rfl
theorem z_bits_Len64 : tab.fz n_bits_Len64 = true := by kernel_rfl
theorem z_auguryref08_reader_term : tab.fz n_auguryref08_reader_term = true := by kernel_rfl
theorem z_stringslite_Index : tab.fz n_stringslite_Index = true := by kernel_rfl
theorem z_slices_siftDownOrdered_int : tab.fz n_slices_siftDownOrdered_int = true := by kernel_rfl
theorem z_slices_nextPowerOfTwo : tab.fz n_slices_nextPowerOfTwo = true := by kernel_rfl
theorem z_slices_xorshift_Next : tab.fz n_slices_xorshift_Next = true := by kernel_rfl
theorem z_slices_medianAdjacentOrdered_int : tab.fz n_slices_medianAdjacentOrdered_int = true := by kernel_rfl
theorem z_slices_medianOrdered_int : tab.fz n_slices_medianOrdered_int = true := by kernel_rfl
theorem z_cmp_isNaN_int : tab.fz n_cmp_isNaN_int = true := by kernel_rfl
theorem z_auguryref08_word : tab.fz n_auguryref08_word = true := by kernel_rfl
theorem z_auguryref08_reader_field : tab.fz n_auguryref08_reader_field = true := by kernel_rfl
theorem z_stringslite_IndexByte : tab.fz n_stringslite_IndexByte = true := by kernel_rfl
theorem z_bytealg_Cutover : tab.fz n_bytealg_Cutover = true := by kernel_rfl
theorem z_bytealg_IndexRabinKarp_string : tab.fz n_bytealg_IndexRabinKarp_string = true := by kernel_rfl
theorem z_slices_order2Ordered_int : tab.fz n_slices_order2Ordered_int = true := by kernel_rfl
theorem z_bytealg_hashStr_string : tab.fz n_bytealg_hashStr_string = true := by kernel_rfl
theorem z_check_wrong_Unwrap : tab.fz n_check_wrong_Unwrap = true := by kernel_rfl
theorem z_gosem_cut_vars : tab.fz n_gosem_cut_vars = true := by kernel_rfl

end Go.Proofs.YtnpoicmaiieanaaGreatDoor.Tz
