/-
All rows of the table are the program's. Conditions: none.
-/
import Derived.Test.YtnkbdcaiepecdaaGreatTM0
import Derived.Test.YtnkbdcaiepecdaaGreatGF
import Derived.Test.YtnkbdcaiepecdaaGreatGE
namespace Go.Proofs.YtnkbdcaiepecdaaGreat.Tz
open Go.Aug
set_option maxRecDepth 100000

def rows : List (Nat × FI) := [(n_gosem_cut_init, F_gosem_cut_init), (n_augurylaw11_EvalOther, F_augurylaw11_EvalOther), (n_augurylaw11_EvalFolds, F_augurylaw11_EvalFolds), (n_augurylaw11_EvalTurned, F_augurylaw11_EvalTurned), (n_augurylaw11_EvalNothing, F_augurylaw11_EvalNothing), (n_augurylaw11_head, F_augurylaw11_head), (n_augurylaw05_GreatSchemas, F_augurylaw05_GreatSchemas), (n_augurylaw08_Great, F_augurylaw08_Great), (n_augurylaw11_GreatBound, F_augurylaw11_GreatBound), (n_augurylaw11_names, F_augurylaw11_names), (n_eval_Value, F_eval_Value), (n_augurylaw11_one, F_augurylaw11_one), (n_eval_Holds, F_eval_Holds), (n_auguryref04_Right, F_auguryref04_Right), (n_auguryref08_Right, F_auguryref08_Right), (n_auguryref08_Parse, F_auguryref08_Parse), (n_eval_All, F_eval_All), (n_augurylaw08_greatExpr, F_augurylaw08_greatExpr), (n_augurylaw05_GreatEvent, F_augurylaw05_GreatEvent), (n_eval_scope_value, F_eval_scope_value), (n_value_Compare, F_value_Compare), (n_auguryref08_rightItem, F_auguryref08_rightItem), (n_auguryref08_RightExpr, F_auguryref08_RightExpr), (n_auguryref08_Name, F_auguryref08_Name), (n_auguryref07_Read, F_auguryref07_Read), (n_auguryref08_reader_query, F_auguryref08_reader_query), (n_slices_ContainsFunc_Pred, F_slices_ContainsFunc_Pred), (n_eval_All_1, F_eval_All_1), (n_norm_Place, F_norm_Place), (n_value_Right, F_value_Right), (n_eval_scope_two, F_eval_scope_two), (n_value_Add, F_value_Add), (n_value_Sub, F_value_Sub), (n_eval_scope_row, F_eval_scope_row), (n_eval_scope_field, F_eval_scope_field), (n_eval_scope_folded, F_eval_scope_folded), (n_strings_Compare, F_strings_Compare), (n_cmp_Compare_int64, F_cmp_Compare_int64), (n_value_signs, F_value_signs), (n_auguryref05_Word, F_auguryref05_Word), (n_auguryref07_Key, F_auguryref07_Key), (n_auguryref07_letter, F_auguryref07_letter), (n_auguryref07_word, F_auguryref07_word), (n_auguryref07_digit, F_auguryref07_digit), (n_auguryref07_number, F_auguryref07_number), (n_auguryref07_quoted, F_auguryref07_quoted), (n_auguryref07_sign, F_auguryref07_sign), (n_auguryref08_reader_must, F_auguryref08_reader_must), (n_auguryref08_reader_item, F_auguryref08_reader_item), (n_auguryref08_reader_take, F_auguryref08_reader_take), (n_auguryref08_reader_pred, F_auguryref08_reader_pred), (n_auguryref08_reader_number, F_auguryref08_reader_number), (n_auguryref08_reader_name, F_auguryref08_reader_name), (n_auguryref08_pick, F_auguryref08_pick), (n_auguryref08_reader_fail, F_auguryref08_reader_fail), (n_slices_IndexFunc_Pred, F_slices_IndexFunc_Pred), (n_check_Vars, F_check_Vars), (n_slices_Max_int, F_slices_Max_int), (n_value_reckoned, F_value_reckoned), (n_slices_IndexFunc_Item, F_slices_IndexFunc_Item), (n_eval_scope_row_1, F_eval_scope_row_1), (n_event_Find, F_event_Find), (n_event_Field, F_event_Field), (n_eval_folds, F_eval_folds), (n_eval_scope_numbers, F_eval_scope_numbers), (n_bytealg_CompareString, F_bytealg_CompareString), (n_cmp_isNaN_int64, F_cmp_isNaN_int64), (n_auguryref08_reader_is, F_auguryref08_reader_is), (n_auguryref08_reader_expr, F_auguryref08_reader_expr), (n_auguryref08_Sign, F_auguryref08_Sign), (n_auguryref08_reader_named, F_auguryref08_reader_named), (n_check_vars, F_check_vars), (n_value_both, F_value_both), (n_slices_IndexFunc_Schema, F_slices_IndexFunc_Schema), (n_event_Find_1, F_event_Find_1), (n_slices_IndexFunc_Field, F_slices_IndexFunc_Field), (n_event_Field_1, F_event_Field_1), (n_eval_folds_1, F_eval_folds_1), (n_eval_folds_1_1, F_eval_folds_1_1), (n_eval_scope_numbers_1, F_eval_scope_numbers_1), (n_auguryref08_reader_term, F_auguryref08_reader_term), (n_check_each, F_check_each), (n_check_vars_1, F_check_vars_1), (n_check_item, F_check_item), (n_slices_Sorted_int, F_slices_Sorted_int), (n_maps_Keys_int, F_maps_Keys_int), (n_auguryref08_word, F_auguryref08_word), (n_auguryref08_reader_field, F_auguryref08_reader_field), (n_check_item_1, F_check_item_1), (n_slices_Collect_int, F_slices_Collect_int), (n_slices_Sort_int, F_slices_Sort_int), (n_maps_Keys_int_1, F_maps_Keys_int_1), (n_slices_AppendSeq_int, F_slices_AppendSeq_int), (n_slices_pdqsortOrdered_int, F_slices_pdqsortOrdered_int), (n_bits_Len, F_bits_Len), (n_slices_insertionSortOrdered_int, F_slices_insertionSortOrdered_int), (n_slices_heapSortOrdered_int, F_slices_heapSortOrdered_int), (n_slices_breakPatternsOrdered_int, F_slices_breakPatternsOrdered_int), (n_slices_choosePivotOrdered_int, F_slices_choosePivotOrdered_int), (n_slices_reverseRangeOrdered_int, F_slices_reverseRangeOrdered_int), (n_slices_partialInsertionSortOrdered_int, F_slices_partialInsertionSortOrdered_int), (n_cmp_Less_int, F_cmp_Less_int), (n_slices_partitionEqualOrdered_int, F_slices_partitionEqualOrdered_int), (n_slices_partitionOrdered_int, F_slices_partitionOrdered_int), (n_bits_Len32, F_bits_Len32), (n_bits_Len64, F_bits_Len64), (n_slices_siftDownOrdered_int, F_slices_siftDownOrdered_int), (n_slices_nextPowerOfTwo, F_slices_nextPowerOfTwo), (n_slices_xorshift_Next, F_slices_xorshift_Next), (n_slices_medianAdjacentOrdered_int, F_slices_medianAdjacentOrdered_int), (n_slices_medianOrdered_int, F_slices_medianOrdered_int), (n_cmp_isNaN_int, F_cmp_isNaN_int), (n_slices_order2Ordered_int, F_slices_order2Ordered_int)]

def findF : List (Nat × FI) → Nat → Option FI
  | [], _ => none
  | (k, f) :: l, n => cond (Nat.beq n k) (some f) (findF l n)

theorem findF_mem : ∀ (l : List (Nat × FI)) (n : Nat) (f : FI), findF l n = some f → (n, f) ∈ l
  | [], n, f, h => by simp [findF] at h
  | (k, g) :: l, n, f, h => by
    simp only [findF] at h
    cases hk : Nat.beq n k with
    | true =>
      rw [hk] at h
      simp only [cond_true, Option.some.injEq] at h
      rw [h, Nat.eq_of_beq_eq_true hk]
      exact List.mem_cons_self ..
    | false =>
      rw [hk] at h
      exact List.mem_cons_of_mem _ (findF_mem l n f h)

def OkRow (p : Nat × FI) : Prop := ∃ fn, Tryz.prog.funcs[p.1]? = some fn ∧ compFn Tryz.prog fn = some p.2

theorem rows_ok : ∀ p ∈ rows, OkRow p :=
  List.forall_mem_cons.2 ⟨⟨_, Tryz.func2, is_gosem_cut_init⟩,
  List.forall_mem_cons.2 ⟨⟨_, Tryz.func3, is_augurylaw11_EvalOther⟩,
  List.forall_mem_cons.2 ⟨⟨_, Tryz.func4, is_augurylaw11_EvalFolds⟩,
  List.forall_mem_cons.2 ⟨⟨_, Tryz.func5, is_augurylaw11_EvalTurned⟩,
  List.forall_mem_cons.2 ⟨⟨_, Tryz.func6, is_augurylaw11_EvalNothing⟩,
  List.forall_mem_cons.2 ⟨⟨_, Tryz.func7, is_augurylaw11_head⟩,
  List.forall_mem_cons.2 ⟨⟨_, Tryz.func8, is_augurylaw05_GreatSchemas⟩,
  List.forall_mem_cons.2 ⟨⟨_, Tryz.func9, is_augurylaw08_Great⟩,
  List.forall_mem_cons.2 ⟨⟨_, Tryz.func10, is_augurylaw11_GreatBound⟩,
  List.forall_mem_cons.2 ⟨⟨_, Tryz.func11, is_augurylaw11_names⟩,
  List.forall_mem_cons.2 ⟨⟨_, Tryz.func12, is_eval_Value⟩,
  List.forall_mem_cons.2 ⟨⟨_, Tryz.func13, is_augurylaw11_one⟩,
  List.forall_mem_cons.2 ⟨⟨_, Tryz.func14, is_eval_Holds⟩,
  List.forall_mem_cons.2 ⟨⟨_, Tryz.func15, is_auguryref04_Right⟩,
  List.forall_mem_cons.2 ⟨⟨_, Tryz.func16, is_auguryref08_Right⟩,
  List.forall_mem_cons.2 ⟨⟨_, Tryz.func17, is_auguryref08_Parse⟩,
  List.forall_mem_cons.2 ⟨⟨_, Tryz.func18, is_eval_All⟩,
  List.forall_mem_cons.2 ⟨⟨_, Tryz.func19, is_augurylaw08_greatExpr⟩,
  List.forall_mem_cons.2 ⟨⟨_, Tryz.func20, is_augurylaw05_GreatEvent⟩,
  List.forall_mem_cons.2 ⟨⟨_, Tryz.func21, is_eval_scope_value⟩,
  List.forall_mem_cons.2 ⟨⟨_, Tryz.func22, is_value_Compare⟩,
  List.forall_mem_cons.2 ⟨⟨_, Tryz.func23, is_auguryref08_rightItem⟩,
  List.forall_mem_cons.2 ⟨⟨_, Tryz.func24, is_auguryref08_RightExpr⟩,
  List.forall_mem_cons.2 ⟨⟨_, Tryz.func25, is_auguryref08_Name⟩,
  List.forall_mem_cons.2 ⟨⟨_, Tryz.func26, is_auguryref07_Read⟩,
  List.forall_mem_cons.2 ⟨⟨_, Tryz.func27, is_auguryref08_reader_query⟩,
  List.forall_mem_cons.2 ⟨⟨_, Tryz.func28, is_slices_ContainsFunc_Pred⟩,
  List.forall_mem_cons.2 ⟨⟨_, Tryz.func29, is_eval_All_1⟩,
  List.forall_mem_cons.2 ⟨⟨_, Tryz.func30, is_norm_Place⟩,
  List.forall_mem_cons.2 ⟨⟨_, Tryz.func31, is_value_Right⟩,
  List.forall_mem_cons.2 ⟨⟨_, Tryz.func32, is_eval_scope_two⟩,
  List.forall_mem_cons.2 ⟨⟨_, Tryz.func33, is_value_Add⟩,
  List.forall_mem_cons.2 ⟨⟨_, Tryz.func34, is_value_Sub⟩,
  List.forall_mem_cons.2 ⟨⟨_, Tryz.func35, is_eval_scope_row⟩,
  List.forall_mem_cons.2 ⟨⟨_, Tryz.func36, is_eval_scope_field⟩,
  List.forall_mem_cons.2 ⟨⟨_, Tryz.func37, is_eval_scope_folded⟩,
  List.forall_mem_cons.2 ⟨⟨_, Tryz.func38, is_strings_Compare⟩,
  List.forall_mem_cons.2 ⟨⟨_, Tryz.func39, is_cmp_Compare_int64⟩,
  List.forall_mem_cons.2 ⟨⟨_, Tryz.func40, is_value_signs⟩,
  List.forall_mem_cons.2 ⟨⟨_, Tryz.func41, is_auguryref05_Word⟩,
  List.forall_mem_cons.2 ⟨⟨_, Tryz.func42, is_auguryref07_Key⟩,
  List.forall_mem_cons.2 ⟨⟨_, Tryz.func43, is_auguryref07_letter⟩,
  List.forall_mem_cons.2 ⟨⟨_, Tryz.func44, is_auguryref07_word⟩,
  List.forall_mem_cons.2 ⟨⟨_, Tryz.func45, is_auguryref07_digit⟩,
  List.forall_mem_cons.2 ⟨⟨_, Tryz.func46, is_auguryref07_number⟩,
  List.forall_mem_cons.2 ⟨⟨_, Tryz.func47, is_auguryref07_quoted⟩,
  List.forall_mem_cons.2 ⟨⟨_, Tryz.func48, is_auguryref07_sign⟩,
  List.forall_mem_cons.2 ⟨⟨_, Tryz.func49, is_auguryref08_reader_must⟩,
  List.forall_mem_cons.2 ⟨⟨_, Tryz.func50, is_auguryref08_reader_item⟩,
  List.forall_mem_cons.2 ⟨⟨_, Tryz.func51, is_auguryref08_reader_take⟩,
  List.forall_mem_cons.2 ⟨⟨_, Tryz.func52, is_auguryref08_reader_pred⟩,
  List.forall_mem_cons.2 ⟨⟨_, Tryz.func53, is_auguryref08_reader_number⟩,
  List.forall_mem_cons.2 ⟨⟨_, Tryz.func54, is_auguryref08_reader_name⟩,
  List.forall_mem_cons.2 ⟨⟨_, Tryz.func55, is_auguryref08_pick⟩,
  List.forall_mem_cons.2 ⟨⟨_, Tryz.func56, is_auguryref08_reader_fail⟩,
  List.forall_mem_cons.2 ⟨⟨_, Tryz.func57, is_slices_IndexFunc_Pred⟩,
  List.forall_mem_cons.2 ⟨⟨_, Tryz.func58, is_check_Vars⟩,
  List.forall_mem_cons.2 ⟨⟨_, Tryz.func59, is_slices_Max_int⟩,
  List.forall_mem_cons.2 ⟨⟨_, Tryz.func60, is_value_reckoned⟩,
  List.forall_mem_cons.2 ⟨⟨_, Tryz.func61, is_slices_IndexFunc_Item⟩,
  List.forall_mem_cons.2 ⟨⟨_, Tryz.func62, is_eval_scope_row_1⟩,
  List.forall_mem_cons.2 ⟨⟨_, Tryz.func63, is_event_Find⟩,
  List.forall_mem_cons.2 ⟨⟨_, Tryz.func64, is_event_Field⟩,
  List.forall_mem_cons.2 ⟨⟨_, Tryz.func65, is_eval_folds⟩,
  List.forall_mem_cons.2 ⟨⟨_, Tryz.func66, is_eval_scope_numbers⟩,
  List.forall_mem_cons.2 ⟨⟨_, Tryz.func67, is_bytealg_CompareString⟩,
  List.forall_mem_cons.2 ⟨⟨_, Tryz.func68, is_cmp_isNaN_int64⟩,
  List.forall_mem_cons.2 ⟨⟨_, Tryz.func69, is_auguryref08_reader_is⟩,
  List.forall_mem_cons.2 ⟨⟨_, Tryz.func70, is_auguryref08_reader_expr⟩,
  List.forall_mem_cons.2 ⟨⟨_, Tryz.func71, is_auguryref08_Sign⟩,
  List.forall_mem_cons.2 ⟨⟨_, Tryz.func72, is_auguryref08_reader_named⟩,
  List.forall_mem_cons.2 ⟨⟨_, Tryz.func73, is_check_vars⟩,
  List.forall_mem_cons.2 ⟨⟨_, Tryz.func74, is_value_both⟩,
  List.forall_mem_cons.2 ⟨⟨_, Tryz.func75, is_slices_IndexFunc_Schema⟩,
  List.forall_mem_cons.2 ⟨⟨_, Tryz.func76, is_event_Find_1⟩,
  List.forall_mem_cons.2 ⟨⟨_, Tryz.func77, is_slices_IndexFunc_Field⟩,
  List.forall_mem_cons.2 ⟨⟨_, Tryz.func78, is_event_Field_1⟩,
  List.forall_mem_cons.2 ⟨⟨_, Tryz.func79, is_eval_folds_1⟩,
  List.forall_mem_cons.2 ⟨⟨_, Tryz.func80, is_eval_folds_1_1⟩,
  List.forall_mem_cons.2 ⟨⟨_, Tryz.func81, is_eval_scope_numbers_1⟩,
  List.forall_mem_cons.2 ⟨⟨_, Tryz.func83, is_auguryref08_reader_term⟩,
  List.forall_mem_cons.2 ⟨⟨_, Tryz.func84, is_check_each⟩,
  List.forall_mem_cons.2 ⟨⟨_, Tryz.func85, is_check_vars_1⟩,
  List.forall_mem_cons.2 ⟨⟨_, Tryz.func86, is_check_item⟩,
  List.forall_mem_cons.2 ⟨⟨_, Tryz.func87, is_slices_Sorted_int⟩,
  List.forall_mem_cons.2 ⟨⟨_, Tryz.func88, is_maps_Keys_int⟩,
  List.forall_mem_cons.2 ⟨⟨_, Tryz.func89, is_auguryref08_word⟩,
  List.forall_mem_cons.2 ⟨⟨_, Tryz.func90, is_auguryref08_reader_field⟩,
  List.forall_mem_cons.2 ⟨⟨_, Tryz.func91, is_check_item_1⟩,
  List.forall_mem_cons.2 ⟨⟨_, Tryz.func92, is_slices_Collect_int⟩,
  List.forall_mem_cons.2 ⟨⟨_, Tryz.func93, is_slices_Sort_int⟩,
  List.forall_mem_cons.2 ⟨⟨_, Tryz.func94, is_maps_Keys_int_1⟩,
  List.forall_mem_cons.2 ⟨⟨_, Tryz.func95, is_slices_AppendSeq_int⟩,
  List.forall_mem_cons.2 ⟨⟨_, Tryz.func96, is_slices_pdqsortOrdered_int⟩,
  List.forall_mem_cons.2 ⟨⟨_, Tryz.func97, is_bits_Len⟩,
  List.forall_mem_cons.2 ⟨⟨_, Tryz.func98, is_slices_insertionSortOrdered_int⟩,
  List.forall_mem_cons.2 ⟨⟨_, Tryz.func99, is_slices_heapSortOrdered_int⟩,
  List.forall_mem_cons.2 ⟨⟨_, Tryz.func100, is_slices_breakPatternsOrdered_int⟩,
  List.forall_mem_cons.2 ⟨⟨_, Tryz.func101, is_slices_choosePivotOrdered_int⟩,
  List.forall_mem_cons.2 ⟨⟨_, Tryz.func102, is_slices_reverseRangeOrdered_int⟩,
  List.forall_mem_cons.2 ⟨⟨_, Tryz.func103, is_slices_partialInsertionSortOrdered_int⟩,
  List.forall_mem_cons.2 ⟨⟨_, Tryz.func104, is_cmp_Less_int⟩,
  List.forall_mem_cons.2 ⟨⟨_, Tryz.func105, is_slices_partitionEqualOrdered_int⟩,
  List.forall_mem_cons.2 ⟨⟨_, Tryz.func106, is_slices_partitionOrdered_int⟩,
  List.forall_mem_cons.2 ⟨⟨_, Tryz.func107, is_bits_Len32⟩,
  List.forall_mem_cons.2 ⟨⟨_, Tryz.func108, is_bits_Len64⟩,
  List.forall_mem_cons.2 ⟨⟨_, Tryz.func109, is_slices_siftDownOrdered_int⟩,
  List.forall_mem_cons.2 ⟨⟨_, Tryz.func110, is_slices_nextPowerOfTwo⟩,
  List.forall_mem_cons.2 ⟨⟨_, Tryz.func111, is_slices_xorshift_Next⟩,
  List.forall_mem_cons.2 ⟨⟨_, Tryz.func112, is_slices_medianAdjacentOrdered_int⟩,
  List.forall_mem_cons.2 ⟨⟨_, Tryz.func113, is_slices_medianOrdered_int⟩,
  List.forall_mem_cons.2 ⟨⟨_, Tryz.func114, is_cmp_isNaN_int⟩,
  List.forall_mem_cons.2 ⟨⟨_, Tryz.func115, is_slices_order2Ordered_int⟩,
  fun _ h => nomatch h⟩⟩⟩⟩⟩⟩⟩⟩⟩⟩⟩⟩⟩⟩⟩⟩⟩⟩⟩⟩⟩⟩⟩⟩⟩⟩⟩⟩⟩⟩⟩⟩⟩⟩⟩⟩⟩⟩⟩⟩⟩⟩⟩⟩⟩⟩⟩⟩⟩⟩⟩⟩⟩⟩⟩⟩⟩⟩⟩⟩⟩⟩⟩⟩⟩⟩⟩⟩⟩⟩⟩⟩⟩⟩⟩⟩⟩⟩⟩⟩⟩⟩⟩⟩⟩⟩⟩⟩⟩⟩⟩⟩⟩⟩⟩⟩⟩⟩⟩⟩⟩⟩⟩⟩⟩⟩⟩⟩⟩⟩⟩⟩⟩

end Go.Proofs.YtnkbdcaiepecdaaGreat.Tz
