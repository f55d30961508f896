/-
strings.Contains at this dump, by the shelf. Conditions: none.
-/
import Derived.Shelf.Strings.Search3
import Derived.Shelf.Abstract
import Derived.Test.YtnpoicmaiieanaaGreatDoorChecked
import Derived.Test.YtnpoicmaiieanaaGreatDoorTO3
import Derived.Test.YtnpoicmaiieanaaGreatDoorTN0
namespace Go.Proofs.YtnpoicmaiieanaaGreatDoor.Tz
open Go.RowKit Go.Shelf Go.Proofs Go.Aug

def containsL_ren : Go.Shelf.Ren := ⟨fun | 144 => 83 | 143 => 90 | 219 => 103 | 217 => 112 | 225 => 113 | 224 => 114 | 267 => 115 | 266 => 117 | 314 => 118 | n => n, fun | 9 => 9 | 4 => 4 | 3 => 3 | 5 => 5 | 46 => 150 | 146 => 177 | 51 => 163 | n => n, fun | 1 => 1 | n => n⟩
theorem containsL : Go.Proofs.Lays.n144 Tryz.prog containsL_ren where
  mixed := by kernel_rfl
  f143 := Tryz.func90.trans (congrArg some (by kernel_rfl))
  f144 := Tryz.func83.trans (congrArg some (by kernel_rfl))
  f217 := Tryz.func112.trans (congrArg some (by kernel_rfl))
  f219 := Tryz.func103.trans (congrArg some (by kernel_rfl))
  f224 := Tryz.func114.trans (congrArg some (by kernel_rfl))
  f225 := Tryz.func113.trans (congrArg some (by kernel_rfl))
  f266 := Tryz.func117.trans (congrArg some (by kernel_rfl))
  f267 := Tryz.func115.trans (congrArg some (by kernel_rfl))
  f314 := Tryz.func118.trans (congrArg some (by kernel_rfl))
  t3 := Tryz.underlying3
  a3 := Tryz.isAgg3
  z3 := Tryz.sizeOf3
  v3 := Tryz.zeroValue3
  t4 := Tryz.underlying4
  a4 := Tryz.isAgg4
  z4 := Tryz.sizeOf4
  v4 := Tryz.zeroValue4
  t5 := Tryz.underlying5
  a5 := Tryz.isAgg5
  z5 := Tryz.sizeOf5
  v5 := Tryz.zeroValue5
  t9 := Tryz.underlying9
  a9 := Tryz.isAgg9
  z9 := Tryz.sizeOf9
  v9 := Tryz.zeroValue9
  t46 := Tryz.underlying150
  a46 := Tryz.isAgg150
  z46 := Tryz.sizeOf150
  v46 := Tryz.zeroValue150
  t51 := Tryz.underlying163
  a51 := Tryz.isAgg163
  z51 := Tryz.sizeOf163
  v51 := Tryz.zeroValue163
  t146 := Tryz.underlying177
  a146 := Tryz.isAgg177
  z146 := Tryz.sizeOf177
  v146 := Tryz.zeroValue177
  g1 := by kernel_rfl

theorem containsS : OrcOk Tryz.prog n_strings_Contains orcContains :=
  contains_ok (g := 1) (by kernel_rfl) (enters_of Tryz.func83 (by kernel_rfl) rfl) fun s sub m W hs hm => Any.strings_Contains containsL s sub m W hs hm

end Go.Proofs.YtnpoicmaiieanaaGreatDoor.Tz
