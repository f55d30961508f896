/-
strings.Contains at this dump, by the shelf. Conditions: none.
-/
import Derived.Shelf.Strings.Search3
import Derived.Shelf.Abstract
import Derived.Test.YtlnkifnkamojnaaGreatChecked
import Derived.Test.YtlnkifnkamojnaaGreatTO3
import Derived.Test.YtlnkifnkamojnaaGreatTN0
namespace Go.Proofs.YtlnkifnkamojnaaGreat.Tz
open Go.RowKit Go.Shelf Go.Proofs Go.Aug
def containsL_ren : Go.Shelf.Ren := ⟨fun | 144 => 168 | 143 => 191 | 219 => 202 | 217 => 214 | 225 => 215 | 224 => 216 | 267 => 217 | 266 => 229 | 314 => 230 | n => n, fun | 9 => 9 | 4 => 4 | 3 => 3 | 5 => 5 | 46 => 173 | 146 => 271 | 51 => 270 | n => n, fun | 1 => 0 | n => n⟩
theorem containsL : Go.Proofs.Lays.n144 Tryz.prog containsL_ren where
  mixed := by kernel_rfl
  f143 := Tryz.func191.trans (congrArg some (by kernel_rfl))
  f144 := Tryz.func168.trans (congrArg some (by kernel_rfl))
  f217 := Tryz.func214.trans (congrArg some (by kernel_rfl))
  f219 := Tryz.func202.trans (congrArg some (by kernel_rfl))
  f224 := Tryz.func216.trans (congrArg some (by kernel_rfl))
  f225 := Tryz.func215.trans (congrArg some (by kernel_rfl))
  f266 := Tryz.func229.trans (congrArg some (by kernel_rfl))
  f267 := Tryz.func217.trans (congrArg some (by kernel_rfl))
  f314 := Tryz.func230.trans (congrArg some (by kernel_rfl))
  t3 := Tryz.underlying3
  a3 := Tryz.isAgg3
  z3 := Tryz.sizeOf3
  v3 := Tryz.zeroValue3
  t4 := Tryz.underlying4
  a4 := Tryz.isAgg4
  z4 := Tryz.sizeOf4
  v4 := Tryz.zeroValue4
  t5 := Tryz.underlying5
  a5 := Tryz.isAgg5
  z5 := Tryz.sizeOf5
  v5 := Tryz.zeroValue5
  t9 := Tryz.underlying9
  a9 := Tryz.isAgg9
  z9 := Tryz.sizeOf9
  v9 := Tryz.zeroValue9
  t46 := Tryz.underlying173
  a46 := Tryz.isAgg173
  z46 := Tryz.sizeOf173
  v46 := Tryz.zeroValue173
  t51 := Tryz.underlying270
  a51 := Tryz.isAgg270
  z51 := Tryz.sizeOf270
  v51 := Tryz.zeroValue270
  t146 := Tryz.underlying271
  a146 := Tryz.isAgg271
  z146 := Tryz.sizeOf271
  v146 := Tryz.zeroValue271
  g1 := by kernel_rfl
theorem containsS : OrcOk Tryz.prog n_q152 orcContains :=
  contains_ok (g := 0) (by kernel_rfl) (enters_of Tryz.func168 (by kernel_rfl) rfl) fun s sub m W hs hm => Any.strings_Contains containsL s sub m W hs hm
end Go.Proofs.YtlnkifnkamojnaaGreat.Tz
