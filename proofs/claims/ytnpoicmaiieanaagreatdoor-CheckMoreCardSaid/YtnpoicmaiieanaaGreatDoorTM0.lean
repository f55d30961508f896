/-
The tables are the program's. Conditions: none.
-/
import Derived.Test.YtnpoicmaiieanaaGreatDoorGN
import Derived.Test.YtnpoicmaiieanaaGreatDoorRows
import Derived.KernelRfl
namespace Go.Proofs.YtnpoicmaiieanaaGreatDoor.Tz
open Go.Aug
set_option maxRecDepth 100000

theorem is_gosem_cut_init : compFn Tryz.prog Tryz.f2 = some F_gosem_cut_init := by kernel_rfl
theorem is_augurylaw09_CheckMore : compFn Tryz.prog Tryz.f3 = some F_augurylaw09_CheckMore := by kernel_rfl
theorem is_augurylaw09_CheckKinds : compFn Tryz.prog Tryz.f4 = some F_augurylaw09_CheckKinds := by kernel_rfl
theorem is_augurylaw09_CheckVars : compFn Tryz.prog Tryz.f5 = some F_augurylaw09_CheckVars := by kernel_rfl
theorem is_augurylaw09_CheckFirst : compFn Tryz.prog Tryz.f6 = some F_augurylaw09_CheckFirst := by kernel_rfl
theorem is_augurylaw09_head : compFn Tryz.prog Tryz.f7 = some F_augurylaw09_head := by kernel_rfl
theorem is_augurylaw05_GreatSchemas : compFn Tryz.prog Tryz.f8 = some F_augurylaw05_GreatSchemas := by kernel_rfl
theorem is_augurylaw08_Great : compFn Tryz.prog Tryz.f9 = some F_augurylaw08_Great := by kernel_rfl
theorem is_check_Check : compFn Tryz.prog Tryz.f10 = some F_check_Check := by kernel_rfl
theorem is_check_Kind : compFn Tryz.prog Tryz.f11 = some F_check_Kind := by kernel_rfl
theorem is_check_Vars : compFn Tryz.prog Tryz.f12 = some F_check_Vars := by kernel_rfl
theorem is_augurylaw09_has : compFn Tryz.prog Tryz.f13 = some F_augurylaw09_has := by kernel_rfl
theorem is_auguryref08_Right : compFn Tryz.prog Tryz.f14 = some F_auguryref08_Right := by kernel_rfl
theorem is_augurylaw09_parsed : compFn Tryz.prog Tryz.f15 = some F_augurylaw09_parsed := by kernel_rfl
theorem is_augurylaw08_greatExpr : compFn Tryz.prog Tryz.f16 = some F_augurylaw08_greatExpr := by kernel_rfl
theorem is_tree_Right : compFn Tryz.prog Tryz.f17 = some F_tree_Right := by kernel_rfl
theorem is_check_names : compFn Tryz.prog Tryz.f18 = some F_check_names := by kernel_rfl
theorem is_check_by : compFn Tryz.prog Tryz.f19 = some F_check_by := by kernel_rfl
theorem is_check_kinds : compFn Tryz.prog Tryz.f20 = some F_check_kinds := by kernel_rfl
theorem is_check_nots : compFn Tryz.prog Tryz.f21 = some F_check_nots := by kernel_rfl
theorem is_errors_As : compFn Tryz.prog Tryz.f22 = some F_errors_As := by kernel_rfl
theorem is_check_item : compFn Tryz.prog Tryz.f23 = some F_check_item := by kernel_rfl
theorem is_check_field : compFn Tryz.prog Tryz.f24 = some F_check_field := by kernel_rfl
theorem is_check_vars : compFn Tryz.prog Tryz.f25 = some F_check_vars := by kernel_rfl
theorem is_auguryref08_rightItem : compFn Tryz.prog Tryz.f26 = some F_auguryref08_rightItem := by kernel_rfl
theorem is_auguryref08_RightExpr : compFn Tryz.prog Tryz.f27 = some F_auguryref08_RightExpr := by kernel_rfl
theorem is_auguryref08_Name : compFn Tryz.prog Tryz.f28 = some F_auguryref08_Name := by kernel_rfl
theorem is_auguryref08_Parse : compFn Tryz.prog Tryz.f29 = some F_auguryref08_Parse := by kernel_rfl
theorem is_tree_item : compFn Tryz.prog Tryz.f30 = some F_tree_item := by kernel_rfl
theorem is_tree_expression : compFn Tryz.prog Tryz.f31 = some F_tree_expression := by kernel_rfl
theorem is_tree_name : compFn Tryz.prog Tryz.f32 = some F_tree_name := by kernel_rfl
theorem is_event_Find : compFn Tryz.prog Tryz.f33 = some F_event_Find := by kernel_rfl
theorem is_slices_ContainsFunc_int : compFn Tryz.prog Tryz.f34 = some F_slices_ContainsFunc_int := by kernel_rfl
theorem is_check_nots_1 : compFn Tryz.prog Tryz.f35 = some F_check_nots_1 := by kernel_rfl
theorem is_errors_as : compFn Tryz.prog Tryz.f39 = some F_errors_as := by kernel_rfl
theorem is_slices_IndexFunc_Item : compFn Tryz.prog Tryz.f40 = some F_slices_IndexFunc_Item := by kernel_rfl
theorem is_check_item_1 : compFn Tryz.prog Tryz.f41 = some F_check_item_1 := by kernel_rfl
theorem is_event_Field : compFn Tryz.prog Tryz.f42 = some F_event_Field := by kernel_rfl
theorem is_slices_Max_int : compFn Tryz.prog Tryz.f43 = some F_slices_Max_int := by kernel_rfl
theorem is_slices_Collect_int : compFn Tryz.prog Tryz.f44 = some F_slices_Collect_int := by kernel_rfl
theorem is_maps_Keys_int : compFn Tryz.prog Tryz.f45 = some F_maps_Keys_int := by kernel_rfl
theorem is_check_each : compFn Tryz.prog Tryz.f46 = some F_check_each := by kernel_rfl
theorem is_check_vars_1 : compFn Tryz.prog Tryz.f47 = some F_check_vars_1 := by kernel_rfl
theorem is_slices_Sorted_int : compFn Tryz.prog Tryz.f48 = some F_slices_Sorted_int := by kernel_rfl
theorem is_auguryref04_Right : compFn Tryz.prog Tryz.f49 = some F_auguryref04_Right := by kernel_rfl
theorem is_auguryref05_Word : compFn Tryz.prog Tryz.f50 = some F_auguryref05_Word := by kernel_rfl
theorem is_auguryref07_Key : compFn Tryz.prog Tryz.f51 = some F_auguryref07_Key := by kernel_rfl
theorem is_auguryref07_Read : compFn Tryz.prog Tryz.f52 = some F_auguryref07_Read := by kernel_rfl
theorem is_auguryref08_reader_query : compFn Tryz.prog Tryz.f53 = some F_auguryref08_reader_query := by kernel_rfl
theorem is_value_Right : compFn Tryz.prog Tryz.f54 = some F_value_Right := by kernel_rfl
theorem is_tree_plain : compFn Tryz.prog Tryz.f55 = some F_tree_plain := by kernel_rfl
theorem is_event_Word : compFn Tryz.prog Tryz.f56 = some F_event_Word := by kernel_rfl
theorem is_lex_Key : compFn Tryz.prog Tryz.f57 = some F_lex_Key := by kernel_rfl
theorem is_slices_IndexFunc_Schema : compFn Tryz.prog Tryz.f58 = some F_slices_IndexFunc_Schema := by kernel_rfl
theorem is_event_Find_1 : compFn Tryz.prog Tryz.f59 = some F_event_Find_1 := by kernel_rfl
theorem is_slices_IndexFunc_int : compFn Tryz.prog Tryz.f60 = some F_slices_IndexFunc_int := by kernel_rfl
theorem is_slices_IndexFunc_Field : compFn Tryz.prog Tryz.f64 = some F_slices_IndexFunc_Field := by kernel_rfl
theorem is_event_Field_1 : compFn Tryz.prog Tryz.f65 = some F_event_Field_1 := by kernel_rfl
theorem is_slices_AppendSeq_int : compFn Tryz.prog Tryz.f66 = some F_slices_AppendSeq_int := by kernel_rfl
theorem is_maps_Keys_int_1 : compFn Tryz.prog Tryz.f67 = some F_maps_Keys_int_1 := by kernel_rfl
theorem is_slices_Sort_int : compFn Tryz.prog Tryz.f68 = some F_slices_Sort_int := by kernel_rfl
theorem is_auguryref07_letter : compFn Tryz.prog Tryz.f69 = some F_auguryref07_letter := by kernel_rfl
theorem is_auguryref07_word : compFn Tryz.prog Tryz.f70 = some F_auguryref07_word := by kernel_rfl
theorem is_auguryref07_digit : compFn Tryz.prog Tryz.f71 = some F_auguryref07_digit := by kernel_rfl
theorem is_auguryref07_number : compFn Tryz.prog Tryz.f72 = some F_auguryref07_number := by kernel_rfl
theorem is_auguryref07_quoted : compFn Tryz.prog Tryz.f73 = some F_auguryref07_quoted := by kernel_rfl
theorem is_auguryref07_sign : compFn Tryz.prog Tryz.f74 = some F_auguryref07_sign := by kernel_rfl
theorem is_auguryref08_reader_must : compFn Tryz.prog Tryz.f75 = some F_auguryref08_reader_must := by kernel_rfl
theorem is_auguryref08_reader_item : compFn Tryz.prog Tryz.f76 = some F_auguryref08_reader_item := by kernel_rfl
theorem is_auguryref08_reader_take : compFn Tryz.prog Tryz.f77 = some F_auguryref08_reader_take := by kernel_rfl
theorem is_auguryref08_reader_pred : compFn Tryz.prog Tryz.f78 = some F_auguryref08_reader_pred := by kernel_rfl
theorem is_auguryref08_reader_number : compFn Tryz.prog Tryz.f79 = some F_auguryref08_reader_number := by kernel_rfl
theorem is_auguryref08_reader_name : compFn Tryz.prog Tryz.f80 = some F_auguryref08_reader_name := by kernel_rfl
theorem is_auguryref08_pick : compFn Tryz.prog Tryz.f81 = some F_auguryref08_pick := by kernel_rfl
theorem is_auguryref08_reader_fail : compFn Tryz.prog Tryz.f82 = some F_auguryref08_reader_fail := by kernel_rfl
theorem is_strings_Contains : compFn Tryz.prog Tryz.f83 = some F_strings_Contains := by kernel_rfl
theorem is_slices_pdqsortOrdered_int : compFn Tryz.prog Tryz.f84 = some F_slices_pdqsortOrdered_int := by kernel_rfl
theorem is_bits_Len : compFn Tryz.prog Tryz.f85 = some F_bits_Len := by kernel_rfl
theorem is_auguryref08_reader_is : compFn Tryz.prog Tryz.f86 = some F_auguryref08_reader_is := by kernel_rfl
theorem is_auguryref08_reader_expr : compFn Tryz.prog Tryz.f87 = some F_auguryref08_reader_expr := by kernel_rfl
theorem is_auguryref08_Sign : compFn Tryz.prog Tryz.f88 = some F_auguryref08_Sign := by kernel_rfl
theorem is_auguryref08_reader_named : compFn Tryz.prog Tryz.f89 = some F_auguryref08_reader_named := by kernel_rfl
theorem is_strings_Index : compFn Tryz.prog Tryz.f90 = some F_strings_Index := by kernel_rfl
theorem is_slices_insertionSortOrdered_int : compFn Tryz.prog Tryz.f91 = some F_slices_insertionSortOrdered_int := by kernel_rfl
theorem is_slices_heapSortOrdered_int : compFn Tryz.prog Tryz.f92 = some F_slices_heapSortOrdered_int := by kernel_rfl
theorem is_slices_breakPatternsOrdered_int : compFn Tryz.prog Tryz.f93 = some F_slices_breakPatternsOrdered_int := by kernel_rfl
theorem is_slices_choosePivotOrdered_int : compFn Tryz.prog Tryz.f94 = some F_slices_choosePivotOrdered_int := by kernel_rfl
theorem is_slices_reverseRangeOrdered_int : compFn Tryz.prog Tryz.f95 = some F_slices_reverseRangeOrdered_int := by kernel_rfl
theorem is_slices_partialInsertionSortOrdered_int : compFn Tryz.prog Tryz.f96 = some F_slices_partialInsertionSortOrdered_int := by kernel_rfl
theorem is_cmp_Less_int : compFn Tryz.prog Tryz.f97 = some F_cmp_Less_int := by kernel_rfl
theorem is_slices_partitionEqualOrdered_int : compFn Tryz.prog Tryz.f98 = some F_slices_partitionEqualOrdered_int := by kernel_rfl
theorem is_slices_partitionOrdered_int : compFn Tryz.prog Tryz.f99 = some F_slices_partitionOrdered_int := by kernel_rfl
theorem is_bits_Len32 : compFn Tryz.prog Tryz.f100 = some F_bits_Len32 := by kernel_rfl
theorem is_bits_Len64 : compFn Tryz.prog Tryz.f101 = some F_bits_Len64 := by kernel_rfl
theorem is_auguryref08_reader_term : compFn Tryz.prog Tryz.f102 = some F_auguryref08_reader_term := by kernel_rfl
theorem is_stringslite_Index : compFn Tryz.prog Tryz.f103 = some F_stringslite_Index := by kernel_rfl
theorem is_slices_siftDownOrdered_int : compFn Tryz.prog Tryz.f104 = some F_slices_siftDownOrdered_int := by kernel_rfl
theorem is_slices_nextPowerOfTwo : compFn Tryz.prog Tryz.f105 = some F_slices_nextPowerOfTwo := by kernel_rfl
theorem is_slices_xorshift_Next : compFn Tryz.prog Tryz.f106 = some F_slices_xorshift_Next := by kernel_rfl
theorem is_slices_medianAdjacentOrdered_int : compFn Tryz.prog Tryz.f107 = some F_slices_medianAdjacentOrdered_int := by kernel_rfl
theorem is_slices_medianOrdered_int : compFn Tryz.prog Tryz.f108 = some F_slices_medianOrdered_int := by kernel_rfl
theorem is_cmp_isNaN_int : compFn Tryz.prog Tryz.f109 = some F_cmp_isNaN_int := by kernel_rfl
theorem is_auguryref08_word : compFn Tryz.prog Tryz.f110 = some F_auguryref08_word := by kernel_rfl
theorem is_auguryref08_reader_field : compFn Tryz.prog Tryz.f111 = some F_auguryref08_reader_field := by kernel_rfl
theorem is_stringslite_IndexByte : compFn Tryz.prog Tryz.f112 = some F_stringslite_IndexByte := by kernel_rfl
theorem is_bytealg_Cutover : compFn Tryz.prog Tryz.f114 = some F_bytealg_Cutover := by kernel_rfl
theorem is_bytealg_IndexRabinKarp_string : compFn Tryz.prog Tryz.f115 = some F_bytealg_IndexRabinKarp_string := by kernel_rfl
theorem is_slices_order2Ordered_int : compFn Tryz.prog Tryz.f116 = some F_slices_order2Ordered_int := by kernel_rfl
theorem is_bytealg_hashStr_string : compFn Tryz.prog Tryz.f118 = some F_bytealg_hashStr_string := by kernel_rfl
theorem is_check_wrong_Unwrap : compFn Tryz.prog Tryz.f138 = some F_check_wrong_Unwrap := by kernel_rfl
theorem is_gosem_cut_vars : compFn Tryz.prog Tryz.f157 = some F_gosem_cut_vars := by kernel_rfl

end Go.Proofs.YtnpoicmaiieanaaGreatDoor.Tz
