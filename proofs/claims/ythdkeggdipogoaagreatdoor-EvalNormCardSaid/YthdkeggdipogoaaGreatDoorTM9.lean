/-
All rows of the table are the program's. Conditions: none.
-/
import Derived.Test.YthdkeggdipogoaaGreatDoorTM0
import Derived.Test.YthdkeggdipogoaaGreatDoorGF
import Derived.Test.YthdkeggdipogoaaGreatDoorGE
import Derived.Test.YthdkeggdipogoaaGreatDoorTO3
namespace Go.Proofs.YthdkeggdipogoaaGreatDoor.Tz
open Go.Aug
set_option maxRecDepth 100000
def rows : List (Nat × FI) := [(n_augurylaw11_EvalNorm, F_augurylaw11_EvalNorm), (n_augurylaw08_Great, F_augurylaw08_Great), (n_norm_Place, F_norm_Place), (n_norm_Fold, F_norm_Fold), (n_norm_Norm, F_norm_Norm), (n_tree_Right, F_tree_Right), (n_augurylaw11_head, F_augurylaw11_head), (n_augurylaw05_GreatSchemas, F_augurylaw05_GreatSchemas), (n_augurylaw11_GreatBound, F_augurylaw11_GreatBound), (n_auguryref08_Right, F_auguryref08_Right), (n_eval_All, F_eval_All), (n_eval_Value, F_eval_Value), (n_auguryref08_Parse, F_auguryref08_Parse), (n_augurylaw08_greatExpr, F_augurylaw08_greatExpr), (n_check_Vars, F_check_Vars), (n_slices_Max_int, F_slices_Max_int), (n_value_Add, F_value_Add), (n_value_Sub, F_value_Sub), (n_norm_key, F_norm_key), (n_slices_SortFunc_keyed, F_slices_SortFunc_keyed), (n_norm_Norm_1, F_norm_Norm_1), (n_cmp_Or_int, F_cmp_Or_int), (n_cmp_Compare_int, F_cmp_Compare_int), (n_cmp_Compare_string, F_cmp_Compare_string), (n_tree_item, F_tree_item), (n_tree_expression, F_tree_expression), (n_tree_name, F_tree_name), (n_augurylaw11_one, F_augurylaw11_one), (n_eval_Holds, F_eval_Holds), (n_augurylaw05_GreatEvent, F_augurylaw05_GreatEvent), (n_auguryref08_rightItem, F_auguryref08_rightItem), (n_auguryref08_RightExpr, F_auguryref08_RightExpr), (n_auguryref08_Name, F_auguryref08_Name), (n_slices_ContainsFunc_Pred, F_slices_ContainsFunc_Pred), (n_eval_All_1, F_eval_All_1), (n_eval_scope_value, F_eval_scope_value), (n_auguryref07_Read, F_auguryref07_Read), (n_auguryref08_reader_query, F_auguryref08_reader_query), (n_auguryref08_Sign, F_auguryref08_Sign), (n_auguryref08_pick, F_auguryref08_pick), (n_check_vars, F_check_vars), (n_value_reckoned, F_value_reckoned), (n_slices_pdqsortCmpFunc_keyed, F_slices_pdqsortCmpFunc_keyed), (n_bits_Len, F_bits_Len), (n_cmp_isNaN_int, F_cmp_isNaN_int), (n_cmp_isNaN_string, F_cmp_isNaN_string), (n_value_Right, F_value_Right), (n_tree_plain, F_tree_plain), (n_event_Word, F_event_Word), (n_lex_Key, F_lex_Key), (n_value_Compare, F_value_Compare), (n_auguryref04_Right, F_auguryref04_Right), (n_auguryref05_Word, F_auguryref05_Word), (n_auguryref07_Key, F_auguryref07_Key), (n_slices_IndexFunc_Pred, F_slices_IndexFunc_Pred), (n_eval_scope_two, F_eval_scope_two), (n_eval_scope_row, F_eval_scope_row), (n_eval_scope_field, F_eval_scope_field), (n_eval_scope_folded, F_eval_scope_folded), (n_event_Find, F_event_Find), (n_auguryref07_letter, F_auguryref07_letter), (n_auguryref07_word, F_auguryref07_word), (n_auguryref07_digit, F_auguryref07_digit), (n_auguryref07_number, F_auguryref07_number), (n_auguryref07_quoted, F_auguryref07_quoted), (n_auguryref07_sign, F_auguryref07_sign), (n_auguryref08_reader_must, F_auguryref08_reader_must), (n_auguryref08_reader_item, F_auguryref08_reader_item), (n_auguryref08_reader_take, F_auguryref08_reader_take), (n_auguryref08_reader_pred, F_auguryref08_reader_pred), (n_auguryref08_reader_number, F_auguryref08_reader_number), (n_auguryref08_reader_name, F_auguryref08_reader_name), (n_auguryref08_reader_fail, F_auguryref08_reader_fail), (n_auguryref08_word, F_auguryref08_word), (n_check_each, F_check_each), (n_check_vars_1, F_check_vars_1), (n_check_item, F_check_item), (n_maps_Keys_int, F_maps_Keys_int), (n_value_both, F_value_both), (n_tree_joined_Item, F_tree_joined_Item), (n_tree_Print_1, F_tree_Print_1), (n_tree_joined_Pred, F_tree_joined_Pred), (n_tree_Print_2, F_tree_Print_2), (n_tree_written, F_tree_written), (n_tree_signs, F_tree_signs), (n_tree_picks, F_tree_picks), (n_slices_insertionSortCmpFunc_keyed, F_slices_insertionSortCmpFunc_keyed), (n_bits_Len64, F_bits_Len64), (n_strings_Compare, F_strings_Compare), (n_cmp_Compare_int64, F_cmp_Compare_int64), (n_value_signs, F_value_signs), (n_slices_IndexFunc_Item, F_slices_IndexFunc_Item), (n_eval_scope_row_1, F_eval_scope_row_1), (n_event_Field, F_event_Field), (n_eval_folds, F_eval_folds), (n_eval_scope_numbers, F_eval_scope_numbers), (n_slices_IndexFunc_Schema, F_slices_IndexFunc_Schema), (n_event_Find_1, F_event_Find_1), (n_auguryref08_reader_is, F_auguryref08_reader_is), (n_auguryref08_reader_expr, F_auguryref08_reader_expr), (n_auguryref08_reader_named, F_auguryref08_reader_named), (n_check_item_1, F_check_item_1), (n_maps_Keys_int_1, F_maps_Keys_int_1), (n_strconv_FormatBool, F_strconv_FormatBool), (n_tree_folds, F_tree_folds), (n_cmp_isNaN_int64, F_cmp_isNaN_int64), (n_slices_IndexFunc_Field, F_slices_IndexFunc_Field), (n_event_Field_1, F_event_Field_1), (n_eval_folds_1, F_eval_folds_1), (n_eval_folds_1_1, F_eval_folds_1_1), (n_eval_scope_numbers_1, F_eval_scope_numbers_1), (n_auguryref08_reader_term, F_auguryref08_reader_term), (n_strconv_FormatBool_v2, F_strconv_FormatBool_v2), (n_auguryref08_reader_field, F_auguryref08_reader_field)]
def findF : List (Nat × FI) → Nat → Option FI
  | [], _ => none
  | (k, f) :: l, n => cond (Nat.beq n k) (some f) (findF l n)
theorem findF_mem : ∀ (l : List (Nat × FI)) (n : Nat) (f : FI), findF l n = some f → (n, f) ∈ l
  | [], n, f, h => by simp [findF] at h
  | (k, g) :: l, n, f, h => by
    simp only [findF] at h
    cases hk : Nat.beq n k with
    | true =>
      rw [hk] at h
      simp only [cond_true, Option.some.injEq] at h
      rw [h, Nat.eq_of_beq_eq_true hk]
      exact List.mem_cons_self ..
    | false =>
      rw [hk] at h
      exact List.mem_cons_of_mem _ (findF_mem l n f h)
def OkRow (p : Nat × FI) : Prop := ∃ fn, Tryz.prog.funcs[p.1]? = some fn ∧ compFn Tryz.prog fn = some p.2
theorem rows_ok : ∀ p ∈ rows, OkRow p :=
  List.forall_mem_cons.2 ⟨⟨_, Tryz.func8, is_augurylaw11_EvalNorm⟩,
  List.forall_mem_cons.2 ⟨⟨_, Tryz.func11, is_augurylaw08_Great⟩,
  List.forall_mem_cons.2 ⟨⟨_, Tryz.func12, is_norm_Place⟩,
  List.forall_mem_cons.2 ⟨⟨_, Tryz.func15, is_norm_Fold⟩,
  List.forall_mem_cons.2 ⟨⟨_, Tryz.func18, is_norm_Norm⟩,
  List.forall_mem_cons.2 ⟨⟨_, Tryz.func20, is_tree_Right⟩,
  List.forall_mem_cons.2 ⟨⟨_, Tryz.func23, is_augurylaw11_head⟩,
  List.forall_mem_cons.2 ⟨⟨_, Tryz.func24, is_augurylaw05_GreatSchemas⟩,
  List.forall_mem_cons.2 ⟨⟨_, Tryz.func25, is_augurylaw11_GreatBound⟩,
  List.forall_mem_cons.2 ⟨⟨_, Tryz.func26, is_auguryref08_Right⟩,
  List.forall_mem_cons.2 ⟨⟨_, Tryz.func27, is_eval_All⟩,
  List.forall_mem_cons.2 ⟨⟨_, Tryz.func28, is_eval_Value⟩,
  List.forall_mem_cons.2 ⟨⟨_, Tryz.func30, is_auguryref08_Parse⟩,
  List.forall_mem_cons.2 ⟨⟨_, Tryz.func32, is_augurylaw08_greatExpr⟩,
  List.forall_mem_cons.2 ⟨⟨_, Tryz.func33, is_check_Vars⟩,
  List.forall_mem_cons.2 ⟨⟨_, Tryz.func34, is_slices_Max_int⟩,
  List.forall_mem_cons.2 ⟨⟨_, Tryz.func36, is_value_Add⟩,
  List.forall_mem_cons.2 ⟨⟨_, Tryz.func37, is_value_Sub⟩,
  List.forall_mem_cons.2 ⟨⟨_, Tryz.func41, is_norm_key⟩,
  List.forall_mem_cons.2 ⟨⟨_, Tryz.func42, is_slices_SortFunc_keyed⟩,
  List.forall_mem_cons.2 ⟨⟨_, Tryz.func43, is_norm_Norm_1⟩,
  List.forall_mem_cons.2 ⟨⟨_, Tryz.func44, is_cmp_Or_int⟩,
  List.forall_mem_cons.2 ⟨⟨_, Tryz.func45, is_cmp_Compare_int⟩,
  List.forall_mem_cons.2 ⟨⟨_, Tryz.func46, is_cmp_Compare_string⟩,
  List.forall_mem_cons.2 ⟨⟨_, Tryz.func49, is_tree_item⟩,
  List.forall_mem_cons.2 ⟨⟨_, Tryz.func50, is_tree_expression⟩,
  List.forall_mem_cons.2 ⟨⟨_, Tryz.func51, is_tree_name⟩,
  List.forall_mem_cons.2 ⟨⟨_, Tryz.func52, is_augurylaw11_one⟩,
  List.forall_mem_cons.2 ⟨⟨_, Tryz.func53, is_eval_Holds⟩,
  List.forall_mem_cons.2 ⟨⟨_, Tryz.func54, is_augurylaw05_GreatEvent⟩,
  List.forall_mem_cons.2 ⟨⟨_, Tryz.func55, is_auguryref08_rightItem⟩,
  List.forall_mem_cons.2 ⟨⟨_, Tryz.func56, is_auguryref08_RightExpr⟩,
  List.forall_mem_cons.2 ⟨⟨_, Tryz.func57, is_auguryref08_Name⟩,
  List.forall_mem_cons.2 ⟨⟨_, Tryz.func58, is_slices_ContainsFunc_Pred⟩,
  List.forall_mem_cons.2 ⟨⟨_, Tryz.func59, is_eval_All_1⟩,
  List.forall_mem_cons.2 ⟨⟨_, Tryz.func60, is_eval_scope_value⟩,
  List.forall_mem_cons.2 ⟨⟨_, Tryz.func66, is_auguryref07_Read⟩,
  List.forall_mem_cons.2 ⟨⟨_, Tryz.func67, is_auguryref08_reader_query⟩,
  List.forall_mem_cons.2 ⟨⟨_, Tryz.func69, is_auguryref08_Sign⟩,
  List.forall_mem_cons.2 ⟨⟨_, Tryz.func71, is_auguryref08_pick⟩,
  List.forall_mem_cons.2 ⟨⟨_, Tryz.func72, is_check_vars⟩,
  List.forall_mem_cons.2 ⟨⟨_, Tryz.func74, is_value_reckoned⟩,
  List.forall_mem_cons.2 ⟨⟨_, Tryz.func78, is_slices_pdqsortCmpFunc_keyed⟩,
  List.forall_mem_cons.2 ⟨⟨_, Tryz.func79, is_bits_Len⟩,
  List.forall_mem_cons.2 ⟨⟨_, Tryz.func80, is_cmp_isNaN_int⟩,
  List.forall_mem_cons.2 ⟨⟨_, Tryz.func81, is_cmp_isNaN_string⟩,
  List.forall_mem_cons.2 ⟨⟨_, Tryz.func82, is_value_Right⟩,
  List.forall_mem_cons.2 ⟨⟨_, Tryz.func83, is_tree_plain⟩,
  List.forall_mem_cons.2 ⟨⟨_, Tryz.func84, is_event_Word⟩,
  List.forall_mem_cons.2 ⟨⟨_, Tryz.func85, is_lex_Key⟩,
  List.forall_mem_cons.2 ⟨⟨_, Tryz.func86, is_value_Compare⟩,
  List.forall_mem_cons.2 ⟨⟨_, Tryz.func87, is_auguryref04_Right⟩,
  List.forall_mem_cons.2 ⟨⟨_, Tryz.func88, is_auguryref05_Word⟩,
  List.forall_mem_cons.2 ⟨⟨_, Tryz.func89, is_auguryref07_Key⟩,
  List.forall_mem_cons.2 ⟨⟨_, Tryz.func90, is_slices_IndexFunc_Pred⟩,
  List.forall_mem_cons.2 ⟨⟨_, Tryz.func91, is_eval_scope_two⟩,
  List.forall_mem_cons.2 ⟨⟨_, Tryz.func92, is_eval_scope_row⟩,
  List.forall_mem_cons.2 ⟨⟨_, Tryz.func93, is_eval_scope_field⟩,
  List.forall_mem_cons.2 ⟨⟨_, Tryz.func94, is_eval_scope_folded⟩,
  List.forall_mem_cons.2 ⟨⟨_, Tryz.func95, is_event_Find⟩,
  List.forall_mem_cons.2 ⟨⟨_, Tryz.func104, is_auguryref07_letter⟩,
  List.forall_mem_cons.2 ⟨⟨_, Tryz.func105, is_auguryref07_word⟩,
  List.forall_mem_cons.2 ⟨⟨_, Tryz.func106, is_auguryref07_digit⟩,
  List.forall_mem_cons.2 ⟨⟨_, Tryz.func107, is_auguryref07_number⟩,
  List.forall_mem_cons.2 ⟨⟨_, Tryz.func108, is_auguryref07_quoted⟩,
  List.forall_mem_cons.2 ⟨⟨_, Tryz.func109, is_auguryref07_sign⟩,
  List.forall_mem_cons.2 ⟨⟨_, Tryz.func110, is_auguryref08_reader_must⟩,
  List.forall_mem_cons.2 ⟨⟨_, Tryz.func111, is_auguryref08_reader_item⟩,
  List.forall_mem_cons.2 ⟨⟨_, Tryz.func112, is_auguryref08_reader_take⟩,
  List.forall_mem_cons.2 ⟨⟨_, Tryz.func113, is_auguryref08_reader_pred⟩,
  List.forall_mem_cons.2 ⟨⟨_, Tryz.func114, is_auguryref08_reader_number⟩,
  List.forall_mem_cons.2 ⟨⟨_, Tryz.func115, is_auguryref08_reader_name⟩,
  List.forall_mem_cons.2 ⟨⟨_, Tryz.func116, is_auguryref08_reader_fail⟩,
  List.forall_mem_cons.2 ⟨⟨_, Tryz.func117, is_auguryref08_word⟩,
  List.forall_mem_cons.2 ⟨⟨_, Tryz.func118, is_check_each⟩,
  List.forall_mem_cons.2 ⟨⟨_, Tryz.func119, is_check_vars_1⟩,
  List.forall_mem_cons.2 ⟨⟨_, Tryz.func120, is_check_item⟩,
  List.forall_mem_cons.2 ⟨⟨_, Tryz.func122, is_maps_Keys_int⟩,
  List.forall_mem_cons.2 ⟨⟨_, Tryz.func125, is_value_both⟩,
  List.forall_mem_cons.2 ⟨⟨_, Tryz.func127, is_tree_joined_Item⟩,
  List.forall_mem_cons.2 ⟨⟨_, Tryz.func128, is_tree_Print_1⟩,
  List.forall_mem_cons.2 ⟨⟨_, Tryz.func130, is_tree_joined_Pred⟩,
  List.forall_mem_cons.2 ⟨⟨_, Tryz.func131, is_tree_Print_2⟩,
  List.forall_mem_cons.2 ⟨⟨_, Tryz.func132, is_tree_written⟩,
  List.forall_mem_cons.2 ⟨⟨_, Tryz.func133, is_tree_signs⟩,
  List.forall_mem_cons.2 ⟨⟨_, Tryz.func135, is_tree_picks⟩,
  List.forall_mem_cons.2 ⟨⟨_, Tryz.func137, is_slices_insertionSortCmpFunc_keyed⟩,
  List.forall_mem_cons.2 ⟨⟨_, Tryz.func146, is_bits_Len64⟩,
  List.forall_mem_cons.2 ⟨⟨_, Tryz.func148, is_strings_Compare⟩,
  List.forall_mem_cons.2 ⟨⟨_, Tryz.func149, is_cmp_Compare_int64⟩,
  List.forall_mem_cons.2 ⟨⟨_, Tryz.func150, is_value_signs⟩,
  List.forall_mem_cons.2 ⟨⟨_, Tryz.func151, is_slices_IndexFunc_Item⟩,
  List.forall_mem_cons.2 ⟨⟨_, Tryz.func152, is_eval_scope_row_1⟩,
  List.forall_mem_cons.2 ⟨⟨_, Tryz.func153, is_event_Field⟩,
  List.forall_mem_cons.2 ⟨⟨_, Tryz.func154, is_eval_folds⟩,
  List.forall_mem_cons.2 ⟨⟨_, Tryz.func155, is_eval_scope_numbers⟩,
  List.forall_mem_cons.2 ⟨⟨_, Tryz.func156, is_slices_IndexFunc_Schema⟩,
  List.forall_mem_cons.2 ⟨⟨_, Tryz.func157, is_event_Find_1⟩,
  List.forall_mem_cons.2 ⟨⟨_, Tryz.func163, is_auguryref08_reader_is⟩,
  List.forall_mem_cons.2 ⟨⟨_, Tryz.func164, is_auguryref08_reader_expr⟩,
  List.forall_mem_cons.2 ⟨⟨_, Tryz.func165, is_auguryref08_reader_named⟩,
  List.forall_mem_cons.2 ⟨⟨_, Tryz.func166, is_check_item_1⟩,
  List.forall_mem_cons.2 ⟨⟨_, Tryz.func168, is_maps_Keys_int_1⟩,
  List.forall_mem_cons.2 ⟨⟨_, Tryz.func171, is_strconv_FormatBool⟩,
  List.forall_mem_cons.2 ⟨⟨_, Tryz.func172, is_tree_folds⟩,
  List.forall_mem_cons.2 ⟨⟨_, Tryz.func181, is_cmp_isNaN_int64⟩,
  List.forall_mem_cons.2 ⟨⟨_, Tryz.func182, is_slices_IndexFunc_Field⟩,
  List.forall_mem_cons.2 ⟨⟨_, Tryz.func183, is_event_Field_1⟩,
  List.forall_mem_cons.2 ⟨⟨_, Tryz.func184, is_eval_folds_1⟩,
  List.forall_mem_cons.2 ⟨⟨_, Tryz.func185, is_eval_folds_1_1⟩,
  List.forall_mem_cons.2 ⟨⟨_, Tryz.func186, is_eval_scope_numbers_1⟩,
  List.forall_mem_cons.2 ⟨⟨_, Tryz.func188, is_auguryref08_reader_term⟩,
  List.forall_mem_cons.2 ⟨⟨_, Tryz.func192, is_strconv_FormatBool_v2⟩,
  List.forall_mem_cons.2 ⟨⟨_, Tryz.func200, is_auguryref08_reader_field⟩,
  fun _ h => nomatch h⟩⟩⟩⟩⟩⟩⟩⟩⟩⟩⟩⟩⟩⟩⟩⟩⟩⟩⟩⟩⟩⟩⟩⟩⟩⟩⟩⟩⟩⟩⟩⟩⟩⟩⟩⟩⟩⟩⟩⟩⟩⟩⟩⟩⟩⟩⟩⟩⟩⟩⟩⟩⟩⟩⟩⟩⟩⟩⟩⟩⟩⟩⟩⟩⟩⟩⟩⟩⟩⟩⟩⟩⟩⟩⟩⟩⟩⟩⟩⟩⟩⟩⟩⟩⟩⟩⟩⟩⟩⟩⟩⟩⟩⟩⟩⟩⟩⟩⟩⟩⟩⟩⟩⟩⟩⟩⟩⟩⟩⟩⟩⟩⟩⟩
end Go.Proofs.YthdkeggdipogoaaGreatDoor.Tz

namespace Go.Aug
open Go.RowKit
variable {P : Program} {ρ : Ren} {Im : Nat → Prop} {H : Heap} {w w' : World}
def allocs (w : World) (xs : List Obj) : World := xs.foldl World.alloc w
theorem Post.setCell {r b off : Nat} {l : List D} {d : D} {v : Value} (h : Sim P ρ Im H w) (hg : H.get r = some (.cells l)) (hb : ρ r = some b) (ho : off < l.length) (hd : Rel ρ Im w d v) (h1 : v.oneCell' = true) :
    Post P ρ Im H w ρ Im (H.set r (.cells (l.set off d))) (w.setCell ⟨b, off, none⟩ v) := by
  obtain ⟨cs, te, hblk, hl, hone, hr⟩ := h.cells hg hb
  have hheap : (w.setCell ⟨b, off, none⟩ v).heap[b]? = some (.cells (cs.setIfInBounds off v) te (0, 0)) := by
    simp [World.setCell, Array.getElem?_modify, hblk]
  have hgv : ∀ i, gv (cs.setIfInBounds off v) i = if i = off then v else gv cs i := by
    intro i
    unfold gv
    by_cases hi : i = off
    · subst hi
      simp [Array.getElem?_setIfInBounds_self_of_lt (show i < cs.size by omega)]
    · rw [Array.getElem?_setIfInBounds_ne (fun e => hi e.symm)]
      simp [hi]
  refine Post.set h hg hb (x := .cells (cs.setIfInBounds off v) te (0, 0)) (.cells (by simp; omega) (fun i hi => ?_) (fun i d' hd' => ?_)) hheap (fun k hk => ?_) (by simp [World.setCell]) (fun cs0 e0 f0 h0 => ?_) ⟨rfl, rfl, rfl⟩
  · rw [hgv]
    split
    · exact h1
    · exact hone i (by simpa using hi)
  · rw [hgv]
    by_cases hi : i = off
    · subst hi
      rw [List.getElem?_set_self ho] at hd'
      cases hd'
      rw [if_pos rfl]
      exact hd
    · rw [List.getElem?_set_ne (fun e => hi e.symm)] at hd'
      rw [if_neg hi]
      exact hr i d' hd'
  · simp [World.setCell, Array.getElem?_modify, Ne.symm hk]
  · rw [hblk] at h0
    cases h0
    exact ⟨_, _, rfl, by simp⟩
structure AsOk (P : Program) (f g : Nat) (V : Value) (tW tPW tPE tE : TypeId) : Prop where
  enter : ∀ args W, (callFunc f args).run P W = .ok (.enter f args) W
  nil : ∀ (t : Value) (W : World), Calls P f #[.nilIface, t] W fun e w' => e = .returned (.bool false) ∧ w' = W
  hit : ∀ (e t : Addr) (old : Value) (W : World), W.cell? ⟨g, 0, none⟩ = some V → W.cell? t = some old → W.frozen? t = false →
    Calls P f #[.iface tW (.pointer (some e)), .iface tPW (.pointer (some t))] W fun ev w' => ev = .returned (.bool true) ∧ ∃ xs, w' = (allocs W xs).setCell t (.pointer (some e))
  unwrap : ∀ (eb eo : Nat) (n : Int) (t : Addr) (old : Value) (W : World), W.cell? ⟨eb, eo + 1, none⟩ = some (.iface tE (.int .i64 n)) → W.cell? ⟨g, 0, none⟩ = some V → W.cell? t = some old → W.frozen? t = false →
    Calls P f #[.iface tW (.pointer (some ⟨eb, eo, none⟩)), .iface tPE (.pointer (some t))] W fun ev w' => ev = .returned (.bool true) ∧ ∃ xs, w' = (allocs W xs).setCell t (.int .i64 n)
end Go.Aug
