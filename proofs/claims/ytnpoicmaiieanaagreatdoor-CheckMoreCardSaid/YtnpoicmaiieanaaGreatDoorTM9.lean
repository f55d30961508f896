/-
All rows of the table are the program's. Conditions: none.
-/
import Derived.Test.YtnpoicmaiieanaaGreatDoorTM0
import Derived.Test.YtnpoicmaiieanaaGreatDoorGF
import Derived.Test.YtnpoicmaiieanaaGreatDoorGE
namespace Go.Proofs.YtnpoicmaiieanaaGreatDoor.Tz
open Go.Aug
set_option maxRecDepth 100000

def rows : List (Nat × FI) := [(n_gosem_cut_init, F_gosem_cut_init), (n_augurylaw09_CheckMore, F_augurylaw09_CheckMore), (n_augurylaw09_CheckKinds, F_augurylaw09_CheckKinds), (n_augurylaw09_CheckVars, F_augurylaw09_CheckVars), (n_augurylaw09_CheckFirst, F_augurylaw09_CheckFirst), (n_augurylaw09_head, F_augurylaw09_head), (n_augurylaw05_GreatSchemas, F_augurylaw05_GreatSchemas), (n_augurylaw08_Great, F_augurylaw08_Great), (n_check_Check, F_check_Check), (n_check_Kind, F_check_Kind), (n_check_Vars, F_check_Vars), (n_augurylaw09_has, F_augurylaw09_has), (n_auguryref08_Right, F_auguryref08_Right), (n_augurylaw09_parsed, F_augurylaw09_parsed), (n_augurylaw08_greatExpr, F_augurylaw08_greatExpr), (n_tree_Right, F_tree_Right), (n_check_names, F_check_names), (n_check_by, F_check_by), (n_check_kinds, F_check_kinds), (n_check_nots, F_check_nots), (n_errors_As, F_errors_As), (n_check_item, F_check_item), (n_check_field, F_check_field), (n_check_vars, F_check_vars), (n_auguryref08_rightItem, F_auguryref08_rightItem), (n_auguryref08_RightExpr, F_auguryref08_RightExpr), (n_auguryref08_Name, F_auguryref08_Name), (n_auguryref08_Parse, F_auguryref08_Parse), (n_tree_item, F_tree_item), (n_tree_expression, F_tree_expression), (n_tree_name, F_tree_name), (n_event_Find, F_event_Find), (n_slices_ContainsFunc_int, F_slices_ContainsFunc_int), (n_check_nots_1, F_check_nots_1), (n_errors_as, F_errors_as), (n_slices_IndexFunc_Item, F_slices_IndexFunc_Item), (n_check_item_1, F_check_item_1), (n_event_Field, F_event_Field), (n_slices_Max_int, F_slices_Max_int), (n_slices_Collect_int, F_slices_Collect_int), (n_maps_Keys_int, F_maps_Keys_int), (n_check_each, F_check_each), (n_check_vars_1, F_check_vars_1), (n_slices_Sorted_int, F_slices_Sorted_int), (n_auguryref04_Right, F_auguryref04_Right), (n_auguryref05_Word, F_auguryref05_Word), (n_auguryref07_Key, F_auguryref07_Key), (n_auguryref07_Read, F_auguryref07_Read), (n_auguryref08_reader_query, F_auguryref08_reader_query), (n_value_Right, F_value_Right), (n_tree_plain, F_tree_plain), (n_event_Word, F_event_Word), (n_lex_Key, F_lex_Key), (n_slices_IndexFunc_Schema, F_slices_IndexFunc_Schema), (n_event_Find_1, F_event_Find_1), (n_slices_IndexFunc_int, F_slices_IndexFunc_int), (n_slices_IndexFunc_Field, F_slices_IndexFunc_Field), (n_event_Field_1, F_event_Field_1), (n_slices_AppendSeq_int, F_slices_AppendSeq_int), (n_maps_Keys_int_1, F_maps_Keys_int_1), (n_slices_Sort_int, F_slices_Sort_int), (n_auguryref07_letter, F_auguryref07_letter), (n_auguryref07_word, F_auguryref07_word), (n_auguryref07_digit, F_auguryref07_digit), (n_auguryref07_number, F_auguryref07_number), (n_auguryref07_quoted, F_auguryref07_quoted), (n_auguryref07_sign, F_auguryref07_sign), (n_auguryref08_reader_must, F_auguryref08_reader_must), (n_auguryref08_reader_item, F_auguryref08_reader_item), (n_auguryref08_reader_take, F_auguryref08_reader_take), (n_auguryref08_reader_pred, F_auguryref08_reader_pred), (n_auguryref08_reader_number, F_auguryref08_reader_number), (n_auguryref08_reader_name, F_auguryref08_reader_name), (n_auguryref08_pick, F_auguryref08_pick), (n_auguryref08_reader_fail, F_auguryref08_reader_fail), (n_strings_Contains, F_strings_Contains), (n_slices_pdqsortOrdered_int, F_slices_pdqsortOrdered_int), (n_bits_Len, F_bits_Len), (n_auguryref08_reader_is, F_auguryref08_reader_is), (n_auguryref08_reader_expr, F_auguryref08_reader_expr), (n_auguryref08_Sign, F_auguryref08_Sign), (n_auguryref08_reader_named, F_auguryref08_reader_named), (n_strings_Index, F_strings_Index), (n_slices_insertionSortOrdered_int, F_slices_insertionSortOrdered_int), (n_slices_heapSortOrdered_int, F_slices_heapSortOrdered_int), (n_slices_breakPatternsOrdered_int, F_slices_breakPatternsOrdered_int), (n_slices_choosePivotOrdered_int, F_slices_choosePivotOrdered_int), (n_slices_reverseRangeOrdered_int, F_slices_reverseRangeOrdered_int), (n_slices_partialInsertionSortOrdered_int, F_slices_partialInsertionSortOrdered_int), (n_cmp_Less_int, F_cmp_Less_int), (n_slices_partitionEqualOrdered_int, F_slices_partitionEqualOrdered_int), (n_slices_partitionOrdered_int, F_slices_partitionOrdered_int), (n_bits_Len32, F_bits_Len32), (n_bits_Len64, F_bits_Len64), (n_auguryref08_reader_term, F_auguryref08_reader_term), (n_stringslite_Index, F_stringslite_Index), (n_slices_siftDownOrdered_int, F_slices_siftDownOrdered_int), (n_slices_nextPowerOfTwo, F_slices_nextPowerOfTwo), (n_slices_xorshift_Next, F_slices_xorshift_Next), (n_slices_medianAdjacentOrdered_int, F_slices_medianAdjacentOrdered_int), (n_slices_medianOrdered_int, F_slices_medianOrdered_int), (n_cmp_isNaN_int, F_cmp_isNaN_int), (n_auguryref08_word, F_auguryref08_word), (n_auguryref08_reader_field, F_auguryref08_reader_field), (n_stringslite_IndexByte, F_stringslite_IndexByte), (n_bytealg_Cutover, F_bytealg_Cutover), (n_bytealg_IndexRabinKarp_string, F_bytealg_IndexRabinKarp_string), (n_slices_order2Ordered_int, F_slices_order2Ordered_int), (n_bytealg_hashStr_string, F_bytealg_hashStr_string), (n_check_wrong_Unwrap, F_check_wrong_Unwrap), (n_gosem_cut_vars, F_gosem_cut_vars)]

def findF : List (Nat × FI) → Nat → Option FI
  | [], _ => none
  | (k, f) :: l, n => cond (Nat.beq n k) (some f) (findF l n)

theorem findF_mem : ∀ (l : List (Nat × FI)) (n : Nat) (f : FI), findF l n = some f → (n, f) ∈ l
  | [], n, f, h => by simp [findF] at h
  | (k, g) :: l, n, f, h => by
    simp only [findF] at h
    cases hk : Nat.beq n k with
    | true =>
      rw [hk] at h
      simp only [cond_true, Option.some.injEq] at h
      rw [h, Nat.eq_of_beq_eq_true hk]
      exact List.mem_cons_self ..
    | false =>
      rw [hk] at h
      exact List.mem_cons_of_mem _ (findF_mem l n f h)

def OkRow (p : Nat × FI) : Prop := ∃ fn, Tryz.prog.funcs[p.1]? = some fn ∧ compFn Tryz.prog fn = some p.2

theorem rows_ok : ∀ p ∈ rows, OkRow p :=
  List.forall_mem_cons.2 ⟨⟨_, Tryz.func2, is_gosem_cut_init⟩,
  List.forall_mem_cons.2 ⟨⟨_, Tryz.func3, is_augurylaw09_CheckMore⟩,
  List.forall_mem_cons.2 ⟨⟨_, Tryz.func4, is_augurylaw09_CheckKinds⟩,
  List.forall_mem_cons.2 ⟨⟨_, Tryz.func5, is_augurylaw09_CheckVars⟩,
  List.forall_mem_cons.2 ⟨⟨_, Tryz.func6, is_augurylaw09_CheckFirst⟩,
  List.forall_mem_cons.2 ⟨⟨_, Tryz.func7, is_augurylaw09_head⟩,
  List.forall_mem_cons.2 ⟨⟨_, Tryz.func8, is_augurylaw05_GreatSchemas⟩,
  List.forall_mem_cons.2 ⟨⟨_, Tryz.func9, is_augurylaw08_Great⟩,
  List.forall_mem_cons.2 ⟨⟨_, Tryz.func10, is_check_Check⟩,
  List.forall_mem_cons.2 ⟨⟨_, Tryz.func11, is_check_Kind⟩,
  List.forall_mem_cons.2 ⟨⟨_, Tryz.func12, is_check_Vars⟩,
  List.forall_mem_cons.2 ⟨⟨_, Tryz.func13, is_augurylaw09_has⟩,
  List.forall_mem_cons.2 ⟨⟨_, Tryz.func14, is_auguryref08_Right⟩,
  List.forall_mem_cons.2 ⟨⟨_, Tryz.func15, is_augurylaw09_parsed⟩,
  List.forall_mem_cons.2 ⟨⟨_, Tryz.func16, is_augurylaw08_greatExpr⟩,
  List.forall_mem_cons.2 ⟨⟨_, Tryz.func17, is_tree_Right⟩,
  List.forall_mem_cons.2 ⟨⟨_, Tryz.func18, is_check_names⟩,
  List.forall_mem_cons.2 ⟨⟨_, Tryz.func19, is_check_by⟩,
  List.forall_mem_cons.2 ⟨⟨_, Tryz.func20, is_check_kinds⟩,
  List.forall_mem_cons.2 ⟨⟨_, Tryz.func21, is_check_nots⟩,
  List.forall_mem_cons.2 ⟨⟨_, Tryz.func22, is_errors_As⟩,
  List.forall_mem_cons.2 ⟨⟨_, Tryz.func23, is_check_item⟩,
  List.forall_mem_cons.2 ⟨⟨_, Tryz.func24, is_check_field⟩,
  List.forall_mem_cons.2 ⟨⟨_, Tryz.func25, is_check_vars⟩,
  List.forall_mem_cons.2 ⟨⟨_, Tryz.func26, is_auguryref08_rightItem⟩,
  List.forall_mem_cons.2 ⟨⟨_, Tryz.func27, is_auguryref08_RightExpr⟩,
  List.forall_mem_cons.2 ⟨⟨_, Tryz.func28, is_auguryref08_Name⟩,
  List.forall_mem_cons.2 ⟨⟨_, Tryz.func29, is_auguryref08_Parse⟩,
  List.forall_mem_cons.2 ⟨⟨_, Tryz.func30, is_tree_item⟩,
  List.forall_mem_cons.2 ⟨⟨_, Tryz.func31, is_tree_expression⟩,
  List.forall_mem_cons.2 ⟨⟨_, Tryz.func32, is_tree_name⟩,
  List.forall_mem_cons.2 ⟨⟨_, Tryz.func33, is_event_Find⟩,
  List.forall_mem_cons.2 ⟨⟨_, Tryz.func34, is_slices_ContainsFunc_int⟩,
  List.forall_mem_cons.2 ⟨⟨_, Tryz.func35, is_check_nots_1⟩,
  List.forall_mem_cons.2 ⟨⟨_, Tryz.func39, is_errors_as⟩,
  List.forall_mem_cons.2 ⟨⟨_, Tryz.func40, is_slices_IndexFunc_Item⟩,
  List.forall_mem_cons.2 ⟨⟨_, Tryz.func41, is_check_item_1⟩,
  List.forall_mem_cons.2 ⟨⟨_, Tryz.func42, is_event_Field⟩,
  List.forall_mem_cons.2 ⟨⟨_, Tryz.func43, is_slices_Max_int⟩,
  List.forall_mem_cons.2 ⟨⟨_, Tryz.func44, is_slices_Collect_int⟩,
  List.forall_mem_cons.2 ⟨⟨_, Tryz.func45, is_maps_Keys_int⟩,
  List.forall_mem_cons.2 ⟨⟨_, Tryz.func46, is_check_each⟩,
  List.forall_mem_cons.2 ⟨⟨_, Tryz.func47, is_check_vars_1⟩,
  List.forall_mem_cons.2 ⟨⟨_, Tryz.func48, is_slices_Sorted_int⟩,
  List.forall_mem_cons.2 ⟨⟨_, Tryz.func49, is_auguryref04_Right⟩,
  List.forall_mem_cons.2 ⟨⟨_, Tryz.func50, is_auguryref05_Word⟩,
  List.forall_mem_cons.2 ⟨⟨_, Tryz.func51, is_auguryref07_Key⟩,
  List.forall_mem_cons.2 ⟨⟨_, Tryz.func52, is_auguryref07_Read⟩,
  List.forall_mem_cons.2 ⟨⟨_, Tryz.func53, is_auguryref08_reader_query⟩,
  List.forall_mem_cons.2 ⟨⟨_, Tryz.func54, is_value_Right⟩,
  List.forall_mem_cons.2 ⟨⟨_, Tryz.func55, is_tree_plain⟩,
  List.forall_mem_cons.2 ⟨⟨_, Tryz.func56, is_event_Word⟩,
  List.forall_mem_cons.2 ⟨⟨_, Tryz.func57, is_lex_Key⟩,
  List.forall_mem_cons.2 ⟨⟨_, Tryz.func58, is_slices_IndexFunc_Schema⟩,
  List.forall_mem_cons.2 ⟨⟨_, Tryz.func59, is_event_Find_1⟩,
  List.forall_mem_cons.2 ⟨⟨_, Tryz.func60, is_slices_IndexFunc_int⟩,
  List.forall_mem_cons.2 ⟨⟨_, Tryz.func64, is_slices_IndexFunc_Field⟩,
  List.forall_mem_cons.2 ⟨⟨_, Tryz.func65, is_event_Field_1⟩,
  List.forall_mem_cons.2 ⟨⟨_, Tryz.func66, is_slices_AppendSeq_int⟩,
  List.forall_mem_cons.2 ⟨⟨_, Tryz.func67, is_maps_Keys_int_1⟩,
  List.forall_mem_cons.2 ⟨⟨_, Tryz.func68, is_slices_Sort_int⟩,
  List.forall_mem_cons.2 ⟨⟨_, Tryz.func69, is_auguryref07_letter⟩,
  List.forall_mem_cons.2 ⟨⟨_, Tryz.func70, is_auguryref07_word⟩,
  List.forall_mem_cons.2 ⟨⟨_, Tryz.func71, is_auguryref07_digit⟩,
  List.forall_mem_cons.2 ⟨⟨_, Tryz.func72, is_auguryref07_number⟩,
  List.forall_mem_cons.2 ⟨⟨_, Tryz.func73, is_auguryref07_quoted⟩,
  List.forall_mem_cons.2 ⟨⟨_, Tryz.func74, is_auguryref07_sign⟩,
  List.forall_mem_cons.2 ⟨⟨_, Tryz.func75, is_auguryref08_reader_must⟩,
  List.forall_mem_cons.2 ⟨⟨_, Tryz.func76, is_auguryref08_reader_item⟩,
  List.forall_mem_cons.2 ⟨⟨_, Tryz.func77, is_auguryref08_reader_take⟩,
  List.forall_mem_cons.2 ⟨⟨_, Tryz.func78, is_auguryref08_reader_pred⟩,
  List.forall_mem_cons.2 ⟨⟨_, Tryz.func79, is_auguryref08_reader_number⟩,
  List.forall_mem_cons.2 ⟨⟨_, Tryz.func80, is_auguryref08_reader_name⟩,
  List.forall_mem_cons.2 ⟨⟨_, Tryz.func81, is_auguryref08_pick⟩,
  List.forall_mem_cons.2 ⟨⟨_, Tryz.func82, is_auguryref08_reader_fail⟩,
  List.forall_mem_cons.2 ⟨⟨_, Tryz.func83, is_strings_Contains⟩,
  List.forall_mem_cons.2 ⟨⟨_, Tryz.func84, is_slices_pdqsortOrdered_int⟩,
  List.forall_mem_cons.2 ⟨⟨_, Tryz.func85, is_bits_Len⟩,
  List.forall_mem_cons.2 ⟨⟨_, Tryz.func86, is_auguryref08_reader_is⟩,
  List.forall_mem_cons.2 ⟨⟨_, Tryz.func87, is_auguryref08_reader_expr⟩,
  List.forall_mem_cons.2 ⟨⟨_, Tryz.func88, is_auguryref08_Sign⟩,
  List.forall_mem_cons.2 ⟨⟨_, Tryz.func89, is_auguryref08_reader_named⟩,
  List.forall_mem_cons.2 ⟨⟨_, Tryz.func90, is_strings_Index⟩,
  List.forall_mem_cons.2 ⟨⟨_, Tryz.func91, is_slices_insertionSortOrdered_int⟩,
  List.forall_mem_cons.2 ⟨⟨_, Tryz.func92, is_slices_heapSortOrdered_int⟩,
  List.forall_mem_cons.2 ⟨⟨_, Tryz.func93, is_slices_breakPatternsOrdered_int⟩,
  List.forall_mem_cons.2 ⟨⟨_, Tryz.func94, is_slices_choosePivotOrdered_int⟩,
  List.forall_mem_cons.2 ⟨⟨_, Tryz.func95, is_slices_reverseRangeOrdered_int⟩,
  List.forall_mem_cons.2 ⟨⟨_, Tryz.func96, is_slices_partialInsertionSortOrdered_int⟩,
  List.forall_mem_cons.2 ⟨⟨_, Tryz.func97, is_cmp_Less_int⟩,
  List.forall_mem_cons.2 ⟨⟨_, Tryz.func98, is_slices_partitionEqualOrdered_int⟩,
  List.forall_mem_cons.2 ⟨⟨_, Tryz.func99, is_slices_partitionOrdered_int⟩,
  List.forall_mem_cons.2 ⟨⟨_, Tryz.func100, is_bits_Len32⟩,
  List.forall_mem_cons.2 ⟨⟨_, Tryz.func101, is_bits_Len64⟩,
  List.forall_mem_cons.2 ⟨⟨_, Tryz.func102, is_auguryref08_reader_term⟩,
  List.forall_mem_cons.2 ⟨⟨_, Tryz.func103, is_stringslite_Index⟩,
  List.forall_mem_cons.2 ⟨⟨_, Tryz.func104, is_slices_siftDownOrdered_int⟩,
  List.forall_mem_cons.2 ⟨⟨_, Tryz.func105, is_slices_nextPowerOfTwo⟩,
  List.forall_mem_cons.2 ⟨⟨_, Tryz.func106, is_slices_xorshift_Next⟩,
  List.forall_mem_cons.2 ⟨⟨_, Tryz.func107, is_slices_medianAdjacentOrdered_int⟩,
  List.forall_mem_cons.2 ⟨⟨_, Tryz.func108, is_slices_medianOrdered_int⟩,
  List.forall_mem_cons.2 ⟨⟨_, Tryz.func109, is_cmp_isNaN_int⟩,
  List.forall_mem_cons.2 ⟨⟨_, Tryz.func110, is_auguryref08_word⟩,
  List.forall_mem_cons.2 ⟨⟨_, Tryz.func111, is_auguryref08_reader_field⟩,
  List.forall_mem_cons.2 ⟨⟨_, Tryz.func112, is_stringslite_IndexByte⟩,
  List.forall_mem_cons.2 ⟨⟨_, Tryz.func114, is_bytealg_Cutover⟩,
  List.forall_mem_cons.2 ⟨⟨_, Tryz.func115, is_bytealg_IndexRabinKarp_string⟩,
  List.forall_mem_cons.2 ⟨⟨_, Tryz.func116, is_slices_order2Ordered_int⟩,
  List.forall_mem_cons.2 ⟨⟨_, Tryz.func118, is_bytealg_hashStr_string⟩,
  List.forall_mem_cons.2 ⟨⟨_, Tryz.func138, is_check_wrong_Unwrap⟩,
  List.forall_mem_cons.2 ⟨⟨_, Tryz.func157, is_gosem_cut_vars⟩,
  fun _ h => nomatch h⟩⟩⟩⟩⟩⟩⟩⟩⟩⟩⟩⟩⟩⟩⟩⟩⟩⟩⟩⟩⟩⟩⟩⟩⟩⟩⟩⟩⟩⟩⟩⟩⟩⟩⟩⟩⟩⟩⟩⟩⟩⟩⟩⟩⟩⟩⟩⟩⟩⟩⟩⟩⟩⟩⟩⟩⟩⟩⟩⟩⟩⟩⟩⟩⟩⟩⟩⟩⟩⟩⟩⟩⟩⟩⟩⟩⟩⟩⟩⟩⟩⟩⟩⟩⟩⟩⟩⟩⟩⟩⟩⟩⟩⟩⟩⟩⟩⟩⟩⟩⟩⟩⟩⟩⟩⟩⟩⟩⟩⟩⟩

end Go.Proofs.YtnpoicmaiieanaaGreatDoor.Tz
