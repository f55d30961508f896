/-
The tables are the program's. Conditions: none.
-/
import Derived.Test.YthdkeggdipogoaaGreatDoorGN
import Derived.Test.YthdkeggdipogoaaGreatDoorRows
import Derived.KernelRfl
namespace Go.Proofs.YthdkeggdipogoaaGreatDoor.Tz
open Go.Aug
set_option maxRecDepth 100000
theorem is_value_both : compFn Tryz.prog Tryz.f125 = some F_value_both := by kernel_rfl
theorem is_strings_Builder_WriteString : compFn Tryz.prog Tryz.f126 = some F_strings_Builder_WriteString := by kernel_rfl
theorem is_tree_joined_Item : compFn Tryz.prog Tryz.f127 = some F_tree_joined_Item := by kernel_rfl
theorem is_tree_Print_1 : compFn Tryz.prog Tryz.f128 = some F_tree_Print_1 := by kernel_rfl
theorem is_strings_Join : compFn Tryz.prog Tryz.f129 = some F_strings_Join := by kernel_rfl
theorem is_tree_joined_Pred : compFn Tryz.prog Tryz.f130 = some F_tree_joined_Pred := by kernel_rfl
theorem is_tree_Print_2 : compFn Tryz.prog Tryz.f131 = some F_tree_Print_2 := by kernel_rfl
theorem is_tree_written : compFn Tryz.prog Tryz.f132 = some F_tree_written := by kernel_rfl
theorem is_tree_signs : compFn Tryz.prog Tryz.f133 = some F_tree_signs := by kernel_rfl
theorem is_strconv_FormatInt : compFn Tryz.prog Tryz.f134 = some F_strconv_FormatInt := by kernel_rfl
theorem is_tree_picks : compFn Tryz.prog Tryz.f135 = some F_tree_picks := by kernel_rfl
theorem is_strings_Builder_String : compFn Tryz.prog Tryz.f136 = some F_strings_Builder_String := by kernel_rfl
theorem is_slices_insertionSortCmpFunc_keyed : compFn Tryz.prog Tryz.f137 = some F_slices_insertionSortCmpFunc_keyed := by kernel_rfl
theorem is_slices_heapSortCmpFunc_keyed : compFn Tryz.prog Tryz.f138 = some F_slices_heapSortCmpFunc_keyed := by kernel_rfl
theorem is_slices_breakPatternsCmpFunc_keyed : compFn Tryz.prog Tryz.f139 = some F_slices_breakPatternsCmpFunc_keyed := by kernel_rfl
theorem is_slices_choosePivotCmpFunc_keyed : compFn Tryz.prog Tryz.f140 = some F_slices_choosePivotCmpFunc_keyed := by kernel_rfl
theorem is_slices_reverseRangeCmpFunc_keyed : compFn Tryz.prog Tryz.f141 = some F_slices_reverseRangeCmpFunc_keyed := by kernel_rfl
theorem is_slices_partialInsertionSortCmpFunc_keyed : compFn Tryz.prog Tryz.f142 = some F_slices_partialInsertionSortCmpFunc_keyed := by kernel_rfl
theorem is_slices_partitionEqualCmpFunc_keyed : compFn Tryz.prog Tryz.f143 = some F_slices_partitionEqualCmpFunc_keyed := by kernel_rfl
theorem is_slices_partitionCmpFunc_keyed : compFn Tryz.prog Tryz.f144 = some F_slices_partitionCmpFunc_keyed := by kernel_rfl
theorem is_bits_Len32 : compFn Tryz.prog Tryz.f145 = some F_bits_Len32 := by kernel_rfl
theorem is_bits_Len64 : compFn Tryz.prog Tryz.f146 = some F_bits_Len64 := by kernel_rfl
theorem is_strings_Contains : compFn Tryz.prog Tryz.f147 = some F_strings_Contains := by kernel_rfl
theorem is_slices_IndexFunc_Item : compFn Tryz.prog Tryz.f151 = some F_slices_IndexFunc_Item := by kernel_rfl
theorem is_slices_Collect_int : compFn Tryz.prog Tryz.f158 = some F_slices_Collect_int := by kernel_rfl
theorem is_auguryref08_reader_is : compFn Tryz.prog Tryz.f163 = some F_auguryref08_reader_is := by kernel_rfl
theorem is_auguryref08_reader_expr : compFn Tryz.prog Tryz.f164 = some F_auguryref08_reader_expr := by kernel_rfl
theorem is_auguryref08_reader_named : compFn Tryz.prog Tryz.f165 = some F_auguryref08_reader_named := by kernel_rfl
theorem is_check_item_1 : compFn Tryz.prog Tryz.f166 = some F_check_item_1 := by kernel_rfl
theorem is_slices_Sort_int : compFn Tryz.prog Tryz.f167 = some F_slices_Sort_int := by kernel_rfl
theorem is_maps_Keys_int_1 : compFn Tryz.prog Tryz.f168 = some F_maps_Keys_int_1 := by kernel_rfl
theorem is_strings_Builder_copyCheck : compFn Tryz.prog Tryz.f169 = some F_strings_Builder_copyCheck := by kernel_rfl
theorem is_strings_Builder_Grow : compFn Tryz.prog Tryz.f170 = some F_strings_Builder_Grow := by kernel_rfl
theorem is_strconv_FormatBool : compFn Tryz.prog Tryz.f171 = some F_strconv_FormatBool := by kernel_rfl
theorem is_tree_folds : compFn Tryz.prog Tryz.f172 = some F_tree_folds := by kernel_rfl
theorem is_strconv_FormatInt_v2 : compFn Tryz.prog Tryz.f173 = some F_strconv_FormatInt_v2 := by kernel_rfl
theorem is_slices_siftDownCmpFunc_keyed : compFn Tryz.prog Tryz.f174 = some F_slices_siftDownCmpFunc_keyed := by kernel_rfl
theorem is_slices_nextPowerOfTwo : compFn Tryz.prog Tryz.f175 = some F_slices_nextPowerOfTwo := by kernel_rfl
theorem is_slices_xorshift_Next : compFn Tryz.prog Tryz.f176 = some F_slices_xorshift_Next := by kernel_rfl
theorem is_slices_medianAdjacentCmpFunc_keyed : compFn Tryz.prog Tryz.f177 = some F_slices_medianAdjacentCmpFunc_keyed := by kernel_rfl
theorem is_slices_medianCmpFunc_keyed : compFn Tryz.prog Tryz.f178 = some F_slices_medianCmpFunc_keyed := by kernel_rfl
theorem is_strings_Index : compFn Tryz.prog Tryz.f179 = some F_strings_Index := by kernel_rfl
theorem is_slices_AppendSeq_int : compFn Tryz.prog Tryz.f187 = some F_slices_AppendSeq_int := by kernel_rfl
theorem is_auguryref08_reader_term : compFn Tryz.prog Tryz.f188 = some F_auguryref08_reader_term := by kernel_rfl
theorem is_slices_pdqsortOrdered_int : compFn Tryz.prog Tryz.f189 = some F_slices_pdqsortOrdered_int := by kernel_rfl
theorem is_strings_Builder_grow : compFn Tryz.prog Tryz.f191 = some F_strings_Builder_grow := by kernel_rfl
theorem is_strconv_FormatBool_v2 : compFn Tryz.prog Tryz.f192 = some F_strconv_FormatBool_v2 := by kernel_rfl
theorem is_strconv_small : compFn Tryz.prog Tryz.f193 = some F_strconv_small := by kernel_rfl
theorem is_strconv_numDigits : compFn Tryz.prog Tryz.f194 = some F_strconv_numDigits := by kernel_rfl
theorem is_strconv_formatBase10 : compFn Tryz.prog Tryz.f195 = some F_strconv_formatBase10 := by kernel_rfl
theorem is_strconv_formatBits : compFn Tryz.prog Tryz.f196 = some F_strconv_formatBits := by kernel_rfl
theorem is_slices_order2CmpFunc_keyed : compFn Tryz.prog Tryz.f197 = some F_slices_order2CmpFunc_keyed := by kernel_rfl
theorem is_stringslite_Index : compFn Tryz.prog Tryz.f198 = some F_stringslite_Index := by kernel_rfl
theorem is_auguryref08_reader_field : compFn Tryz.prog Tryz.f200 = some F_auguryref08_reader_field := by kernel_rfl
theorem is_slices_insertionSortOrdered_int : compFn Tryz.prog Tryz.f201 = some F_slices_insertionSortOrdered_int := by kernel_rfl
theorem is_slices_heapSortOrdered_int : compFn Tryz.prog Tryz.f202 = some F_slices_heapSortOrdered_int := by kernel_rfl
theorem is_slices_breakPatternsOrdered_int : compFn Tryz.prog Tryz.f203 = some F_slices_breakPatternsOrdered_int := by kernel_rfl
theorem is_slices_choosePivotOrdered_int : compFn Tryz.prog Tryz.f204 = some F_slices_choosePivotOrdered_int := by kernel_rfl
theorem is_slices_reverseRangeOrdered_int : compFn Tryz.prog Tryz.f205 = some F_slices_reverseRangeOrdered_int := by kernel_rfl
theorem is_slices_partialInsertionSortOrdered_int : compFn Tryz.prog Tryz.f206 = some F_slices_partialInsertionSortOrdered_int := by kernel_rfl
theorem is_cmp_Less_int : compFn Tryz.prog Tryz.f207 = some F_cmp_Less_int := by kernel_rfl
theorem is_slices_partitionEqualOrdered_int : compFn Tryz.prog Tryz.f208 = some F_slices_partitionEqualOrdered_int := by kernel_rfl
theorem is_slices_partitionOrdered_int : compFn Tryz.prog Tryz.f209 = some F_slices_partitionOrdered_int := by kernel_rfl
theorem is_strconv_log10Pow2 : compFn Tryz.prog Tryz.f211 = some F_strconv_log10Pow2 := by kernel_rfl
theorem is_strconv_bool2_int : compFn Tryz.prog Tryz.f212 = some F_strconv_bool2_int := by kernel_rfl
theorem is_strconv_isPowerOfTwo : compFn Tryz.prog Tryz.f213 = some F_strconv_isPowerOfTwo := by kernel_rfl
theorem is_bits_TrailingZeros : compFn Tryz.prog Tryz.f214 = some F_bits_TrailingZeros := by kernel_rfl
theorem is_stringslite_IndexByte : compFn Tryz.prog Tryz.f215 = some F_stringslite_IndexByte := by kernel_rfl
theorem is_bytealg_Cutover : compFn Tryz.prog Tryz.f217 = some F_bytealg_Cutover := by kernel_rfl
theorem is_bytealg_IndexRabinKarp_string : compFn Tryz.prog Tryz.f218 = some F_bytealg_IndexRabinKarp_string := by kernel_rfl
theorem is_slices_siftDownOrdered_int : compFn Tryz.prog Tryz.f219 = some F_slices_siftDownOrdered_int := by kernel_rfl
theorem is_slices_medianAdjacentOrdered_int : compFn Tryz.prog Tryz.f220 = some F_slices_medianAdjacentOrdered_int := by kernel_rfl
theorem is_slices_medianOrdered_int : compFn Tryz.prog Tryz.f221 = some F_slices_medianOrdered_int := by kernel_rfl
theorem is_bits_TrailingZeros32 : compFn Tryz.prog Tryz.f222 = some F_bits_TrailingZeros32 := by kernel_rfl
theorem is_bits_TrailingZeros64 : compFn Tryz.prog Tryz.f223 = some F_bits_TrailingZeros64 := by kernel_rfl
theorem is_bytealg_hashStr_string : compFn Tryz.prog Tryz.f225 = some F_bytealg_hashStr_string := by kernel_rfl
theorem is_slices_order2Ordered_int : compFn Tryz.prog Tryz.f226 = some F_slices_order2Ordered_int := by kernel_rfl
end Go.Proofs.YthdkeggdipogoaaGreatDoor.Tz
