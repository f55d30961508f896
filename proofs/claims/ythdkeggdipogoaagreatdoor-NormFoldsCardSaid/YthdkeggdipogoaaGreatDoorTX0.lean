/-
The table. Conditions: none.
-/
import Derived.Test.YthdkeggdipogoaaGreatDoorTM9
import Derived.Test.YthdkeggdipogoaaGreatDoorGO
import Derived.Test.YthdkeggdipogoaaGreatDoorTO3
import Derived.Test.YthdkeggdipogoaaGreatDoorTO8
import Derived.Test.YthdkeggdipogoaaGreatDoorTOa
import Derived.Test.YthdkeggdipogoaaGreatDoorTPq
import Derived.KernelRfl
namespace Go.Proofs.YthdkeggdipogoaaGreatDoor.Tz
open Go.Aug
set_option maxRecDepth 100000

def frozen (f : Nat) : Bool := cond (Nat.beq f n_maps_Keys_int) false (cond (Nat.beq f n_check_Vars) false (cond (Nat.beq f n_check_vars) false (true)))
/-- The live question's answer. -/
def orcHead : List D → Heap → Option (D × Heap)
  | [], H => some (.v (.bool true), H)
  | _, _ => none
def orcs0 (f : Nat) : Option (List D → Heap → Option (D × Heap)) := cond (Nat.beq f n_slices_Sorted_int) (some (orcSorted 1000000 n_maps_Keys_int_1)) (cond (Nat.beq f n_slices_Collect_int) (some (orcSorted 1 n_maps_Keys_int_1)) (cond (Nat.beq f n_bytealg_CompareString) (some orcCmpS) (cond (Nat.beq f n_strings_Contains) (some orcContains) (cond (Nat.beq f n_strings_Join) (some orcJoin) (cond (Nat.beq f n_strconv_FormatInt) (some orcFormat) (cond (Nat.beq f n_tree_Print) (some orcPrint) (none)))))))
def orcs (f : Nat) : Option (List D → Heap → Option (D × Heap)) := cond (Nat.beq f n_augurylaw10_head) (some orcHead) (cond (Nat.beq f n_augurylaw11_head) (some orcHead) (cond (Nat.beq f n_slices_Sorted_int) (some (orcSorted 1000000 n_maps_Keys_int_1)) (cond (Nat.beq f n_slices_Collect_int) (some (orcSorted 1 n_maps_Keys_int_1)) (cond (Nat.beq f n_bytealg_CompareString) (some orcCmpS) (cond (Nat.beq f n_strings_Contains) (some orcContains) (cond (Nat.beq f n_strings_Join) (some orcJoin) (cond (Nat.beq f n_strconv_FormatInt) (some orcFormat) (cond (Nat.beq f n_tree_Print) (some orcPrint) (none)))))))))
def tab0 : Tab := ⟨findF rows, frozen, orcs0⟩
def tab : Tab := ⟨findF rows, frozen, orcs⟩

theorem t_augurylaw10_NormFolds : tab.fn n_augurylaw10_NormFolds = some F_augurylaw10_NormFolds := by kernel_rfl
theorem t_norm_Fold : tab.fn n_norm_Fold = some F_norm_Fold := by kernel_rfl
theorem o_norm_Fold : tab.orc n_norm_Fold = none := by kernel_rfl
theorem t_value_Add : tab.fn n_value_Add = some F_value_Add := by kernel_rfl
theorem o_value_Add : tab.orc n_value_Add = none := by kernel_rfl
theorem t_value_Sub : tab.fn n_value_Sub = some F_value_Sub := by kernel_rfl
theorem o_value_Sub : tab.orc n_value_Sub = none := by kernel_rfl
theorem t_value_reckoned : tab.fn n_value_reckoned = some F_value_reckoned := by kernel_rfl
theorem o_value_reckoned : tab.orc n_value_reckoned = none := by kernel_rfl
theorem t_value_Right : tab.fn n_value_Right = some F_value_Right := by kernel_rfl
theorem o_value_Right : tab.orc n_value_Right = none := by kernel_rfl
theorem t_slices_IndexFunc_Pred : tab.fn n_slices_IndexFunc_Pred = some F_slices_IndexFunc_Pred := by kernel_rfl
theorem o_slices_IndexFunc_Pred : tab.orc n_slices_IndexFunc_Pred = none := by kernel_rfl
theorem t_value_both : tab.fn n_value_both = some F_value_both := by kernel_rfl
theorem o_value_both : tab.orc n_value_both = none := by kernel_rfl
theorem t_slices_IndexFunc_Item : tab.fn n_slices_IndexFunc_Item = some F_slices_IndexFunc_Item := by kernel_rfl
theorem o_slices_IndexFunc_Item : tab.orc n_slices_IndexFunc_Item = none := by kernel_rfl
theorem t_slices_IndexFunc_Schema : tab.fn n_slices_IndexFunc_Schema = some F_slices_IndexFunc_Schema := by kernel_rfl
theorem o_slices_IndexFunc_Schema : tab.orc n_slices_IndexFunc_Schema = none := by kernel_rfl
theorem t_slices_IndexFunc_Field : tab.fn n_slices_IndexFunc_Field = some F_slices_IndexFunc_Field := by kernel_rfl
theorem o_slices_IndexFunc_Field : tab.orc n_slices_IndexFunc_Field = none := by kernel_rfl
theorem z_norm_Fold : tab.fz n_norm_Fold = true := by kernel_rfl

end Go.Proofs.YthdkeggdipogoaaGreatDoor.Tz
