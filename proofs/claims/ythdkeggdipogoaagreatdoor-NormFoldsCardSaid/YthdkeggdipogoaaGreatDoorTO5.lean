/-
strings.Contains at this dump, by the shelf. Conditions: none.
-/
import Derived.Shelf.Strings.Search3
import Derived.Shelf.Abstract
import Derived.Test.YthdkeggdipogoaaGreatDoorChecked
import Derived.Test.YthdkeggdipogoaaGreatDoorTO3
import Derived.Test.YthdkeggdipogoaaGreatDoorTN0
namespace Go.Proofs.YthdkeggdipogoaaGreatDoor.Tz
open Go.RowKit Go.Shelf Go.Proofs Go.Aug

def containsL_ren : Go.Shelf.Ren := ⟨fun | 144 => 147 | 143 => 179 | 219 => 198 | 217 => 215 | 225 => 216 | 224 => 217 | 267 => 218 | 266 => 224 | 314 => 225 | n => n, fun | 9 => 9 | 4 => 4 | 3 => 3 | 5 => 5 | 46 => 132 | 146 => 279 | 51 => 204 | n => n, fun | 1 => 1 | n => n⟩
theorem containsL : Go.Proofs.Lays.n144 Tryz.prog containsL_ren where
  mixed := by kernel_rfl
  f143 := Tryz.func179.trans (congrArg some (by kernel_rfl))
  f144 := Tryz.func147.trans (congrArg some (by kernel_rfl))
  f217 := Tryz.func215.trans (congrArg some (by kernel_rfl))
  f219 := Tryz.func198.trans (congrArg some (by kernel_rfl))
  f224 := Tryz.func217.trans (congrArg some (by kernel_rfl))
  f225 := Tryz.func216.trans (congrArg some (by kernel_rfl))
  f266 := Tryz.func224.trans (congrArg some (by kernel_rfl))
  f267 := Tryz.func218.trans (congrArg some (by kernel_rfl))
  f314 := Tryz.func225.trans (congrArg some (by kernel_rfl))
  t3 := Tryz.underlying3
  a3 := Tryz.isAgg3
  z3 := Tryz.sizeOf3
  v3 := Tryz.zeroValue3
  t4 := Tryz.underlying4
  a4 := Tryz.isAgg4
  z4 := Tryz.sizeOf4
  v4 := Tryz.zeroValue4
  t5 := Tryz.underlying5
  a5 := Tryz.isAgg5
  z5 := Tryz.sizeOf5
  v5 := Tryz.zeroValue5
  t9 := Tryz.underlying9
  a9 := Tryz.isAgg9
  z9 := Tryz.sizeOf9
  v9 := Tryz.zeroValue9
  t46 := Tryz.underlying132
  a46 := Tryz.isAgg132
  z46 := Tryz.sizeOf132
  v46 := Tryz.zeroValue132
  t51 := Tryz.underlying204
  a51 := Tryz.isAgg204
  z51 := Tryz.sizeOf204
  v51 := Tryz.zeroValue204
  t146 := Tryz.underlying279
  a146 := Tryz.isAgg279
  z146 := Tryz.sizeOf279
  v146 := Tryz.zeroValue279
  g1 := by kernel_rfl

theorem containsS : OrcOk Tryz.prog n_strings_Contains orcContains :=
  contains_ok (g := 1) (by kernel_rfl) (enters_of Tryz.func147 (by kernel_rfl) rfl) fun s sub m W hs hm => Any.strings_Contains containsL s sub m W hs hm

end Go.Proofs.YthdkeggdipogoaaGreatDoor.Tz
