/-
strings.Join, strconv.FormatInt, strings.Builder at this dump, by the shelf. Conditions: none.
-/
import Derived.Shelf.Strings.OnBuilder
import Derived.Shelf.Strings.Builder1
import Derived.Shelf.Strconv.Itoa4
import Derived.Shelf.Abstract
import Derived.Test.YthdkeggdipogoaaGreatDoorChecked
import Derived.Test.YthdkeggdipogoaaGreatDoorTOa
namespace Go.Proofs.YthdkeggdipogoaaGreatDoor.Tz
open Go.RowKit Go.Shelf Go.Proofs Go.Aug Go.Sort
def joinL_ren : Go.Shelf.Ren := ⟨fun | 156 => 129 | 165 => 170 | 166 => 126 | 169 => 136 | 240 => 169 | 241 => 191 | 276 => 190 | 277 => 210 | n => n, fun | 31 => 61 | 9 => 9 | 3 => 3 | 4 => 4 | 0 => 0 | 20 => 20 | 72 => 182 | 76 => 183 | 70 => 180 | 37 => 168 | 75 => 108 | 127 => 243 | 164 => 148 | 5 => 5 | 80 => 167 | n => n, fun | n => n⟩
theorem joinL : Go.Proofs.Lays.n156 Tryz.prog joinL_ren where
  mixed := by kernel_rfl
  f156 := Tryz.func129.trans (congrArg some (by kernel_rfl))
  f165 := Tryz.func170.trans (congrArg some (by kernel_rfl))
  f166 := Tryz.func126.trans (congrArg some (by kernel_rfl))
  f169 := Tryz.func136.trans (congrArg some (by kernel_rfl))
  f240 := Tryz.func169.trans (congrArg some (by kernel_rfl))
  f241 := Tryz.func191.trans (congrArg some (by kernel_rfl))
  f276 := Tryz.func190.trans (congrArg some (by kernel_rfl))
  f277 := Tryz.func210.trans (congrArg some (by kernel_rfl))
  t0 := Tryz.underlying0
  a0 := Tryz.isAgg0
  z0 := Tryz.sizeOf0
  v0 := Tryz.zeroValue0
  t3 := Tryz.underlying3
  a3 := Tryz.isAgg3
  z3 := Tryz.sizeOf3
  v3 := Tryz.zeroValue3
  t4 := Tryz.underlying4
  a4 := Tryz.isAgg4
  z4 := Tryz.sizeOf4
  v4 := Tryz.zeroValue4
  t9 := Tryz.underlying9
  a9 := Tryz.isAgg9
  z9 := Tryz.sizeOf9
  v9 := Tryz.zeroValue9
  t20 := Tryz.underlying20
  a20 := Tryz.isAgg20
  z20 := Tryz.sizeOf20
  v20 := Tryz.zeroValue20
  t31 := Tryz.underlying61
  a31 := Tryz.isAgg61
  z31 := Tryz.sizeOf61
  v31 := Tryz.zeroValue61
  t37 := Tryz.underlying168
  a37 := Tryz.isAgg168
  z37 := Tryz.sizeOf168
  v37 := Tryz.zeroValue168
  t70 := Tryz.underlying180
  a70 := Tryz.isAgg180
  z70 := Tryz.sizeOf180
  v70 := Tryz.zeroValue180
  t72 := Tryz.underlying182
  a72 := Tryz.isAgg182
  z72 := Tryz.sizeOf182
  v72 := Tryz.zeroValue182
  t75 := Tryz.underlying108
  a75 := Tryz.isAgg108
  z75 := Tryz.sizeOf108
  v75 := Tryz.zeroValue108
  t76 := Tryz.underlying183
  a76 := Tryz.isAgg183
  z76 := Tryz.sizeOf183
  v76 := Tryz.zeroValue183
  t127 := Tryz.underlying243
  a127 := Tryz.isAgg243
  z127 := Tryz.sizeOf243
  v127 := Tryz.zeroValue243
  t164 := Tryz.underlying148
  a164 := Tryz.isAgg148
  z164 := Tryz.sizeOf148
  v164 := Tryz.zeroValue148
def formatL_ren : Go.Shelf.Ren := ⟨fun | 173 => 134 | 246 => 173 | 283 => 193 | 284 => 194 | 285 => 195 | 286 => 196 | 129 => 146 | 317 => 211 | 318 => 212 | 319 => 213 | 320 => 214 | 337 => 222 | 338 => 223 | n => n, fun | 2 => 2 | 3 => 3 | 9 => 9 | 4 => 4 | 171 => 258 | 0 => 0 | 53 => 206 | 37 => 168 | 5 => 5 | 173 => 260 | 212 => 274 | 51 => 204 | 20 => 20 | 213 => 275 | 46 => 132 | 232 => 282 | 233 => 283 | n => n, fun | 17 => 2 | 18 => 3 | 19 => 4 | n => n⟩
theorem formatL : Go.Proofs.LaysM.n173 Tryz.prog formatL_ren where
  mixed := by kernel_rfl
  f129 := Tryz.func146.trans (congrArg some (by kernel_rfl))
  f173 := Tryz.func134.trans (congrArg some (by kernel_rfl))
  f246 := Tryz.func173.trans (congrArg some (by kernel_rfl))
  f283 := Tryz.func193.trans (congrArg some (by kernel_rfl))
  f284 := Tryz.func194.trans (congrArg some (by kernel_rfl))
  f285 := Tryz.func195.trans (congrArg some (by kernel_rfl))
  f286 := Tryz.func196.trans (congrArg some (by kernel_rfl))
  f317 := Tryz.func211.trans (congrArg some (by kernel_rfl))
  f318 := Tryz.func212.trans (congrArg some (by kernel_rfl))
  f319 := Tryz.func213.trans (congrArg some (by kernel_rfl))
  f320 := Tryz.func214.trans (congrArg some (by kernel_rfl))
  f337 := Tryz.func222.trans (congrArg some (by kernel_rfl))
  f338 := Tryz.func223.trans (congrArg some (by kernel_rfl))
  t0 := Tryz.underlying0
  a0 := Tryz.isAgg0
  z0 := Tryz.sizeOf0
  v0 := Tryz.zeroValue0
  t2 := Tryz.underlying2
  a2 := Tryz.isAgg2
  z2 := Tryz.sizeOf2
  v2 := Tryz.zeroValue2
  t3 := Tryz.underlying3
  a3 := Tryz.isAgg3
  z3 := Tryz.sizeOf3
  v3 := Tryz.zeroValue3
  t4 := Tryz.underlying4
  a4 := Tryz.isAgg4
  z4 := Tryz.sizeOf4
  v4 := Tryz.zeroValue4
  t5 := Tryz.underlying5
  a5 := Tryz.isAgg5
  z5 := Tryz.sizeOf5
  v5 := Tryz.zeroValue5
  t9 := Tryz.underlying9
  a9 := Tryz.isAgg9
  z9 := Tryz.sizeOf9
  v9 := Tryz.zeroValue9
  t20 := Tryz.underlying20
  a20 := Tryz.isAgg20
  z20 := Tryz.sizeOf20
  v20 := Tryz.zeroValue20
  t37 := Tryz.underlying168
  a37 := Tryz.isAgg168
  z37 := Tryz.sizeOf168
  v37 := Tryz.zeroValue168
  t46 := Tryz.underlying132
  a46 := Tryz.isAgg132
  z46 := Tryz.sizeOf132
  v46 := Tryz.zeroValue132
  t51 := Tryz.underlying204
  a51 := Tryz.isAgg204
  z51 := Tryz.sizeOf204
  v51 := Tryz.zeroValue204
  t53 := Tryz.underlying206
  a53 := Tryz.isAgg206
  z53 := Tryz.sizeOf206
  v53 := Tryz.zeroValue206
  t171 := Tryz.underlying258
  a171 := Tryz.isAgg258
  z171 := Tryz.sizeOf258
  v171 := Tryz.zeroValue258
  t173 := Tryz.underlying260
  a173 := Tryz.isAgg260
  z173 := Tryz.sizeOf260
  v173 := Tryz.zeroValue260
  t212 := Tryz.underlying274
  a212 := Tryz.isAgg274
  z212 := Tryz.sizeOf274
  v212 := Tryz.zeroValue274
  t213 := Tryz.underlying275
  a213 := Tryz.isAgg275
  z213 := Tryz.sizeOf275
  t232 := Tryz.underlying282
  a232 := Tryz.isAgg282
  z232 := Tryz.sizeOf282
  v232 := Tryz.zeroValue282
  t233 := Tryz.underlying283
  a233 := Tryz.isAgg283
  z233 := Tryz.sizeOf283
  v233 := Tryz.zeroValue283
  g17 := by kernel_rfl
  g18 := by kernel_rfl
  g19 := by kernel_rfl
  i0 := by kernel_rfl
  i2 := by kernel_rfl
  i3 := by kernel_rfl
  i4 := by kernel_rfl
  i5 := by kernel_rfl
  i9 := by kernel_rfl
  i20 := by kernel_rfl
  i37 := by kernel_rfl
  i46 := by kernel_rfl
  i51 := by kernel_rfl
  i53 := by kernel_rfl
  i171 := by kernel_rfl
  i173 := by kernel_rfl
  i212 := by kernel_rfl
  i232 := by kernel_rfl
  i233 := by kernel_rfl
  m17 := by kernel_rfl
  m18 := by kernel_rfl
  m19 := by kernel_rfl
theorem joinX : Builder.Extra Tryz.prog joinL_ren where
  sizeBuilder := by kernel_rfl
  liesBuilder := by kernel_rfl
  t5 := Tryz.underlying5
  a5 := Tryz.isAgg5
  z5 := Tryz.sizeOf5
  v5 := Tryz.zeroValue5
  infoByte := by kernel_rfl
  cellsByte := by kernel_rfl
  sizeByte := by kernel_rfl
  neB5 := by decide
theorem writeL : Lays.n166 Tryz.prog joinL_ren := { joinL with }
theorem stringL : Lays.n169 Tryz.prog joinL_ren := { joinL with }
theorem joinS : OrcOk Tryz.prog n_q103 orcJoin :=
  join_ok ⟨enters_of Tryz.func129 (by kernel_rfl) rfl, fun a c sep W => Any.strings_Join_none joinL joinX a c sep W, fun bk o c xs sep W h1 h2 h3 h4 h5 => Any.strings_Join joinL joinX bk o c xs sep W h1 h2 h3 h4 h5⟩
theorem below_grownF (w : World) (q : Nat) (os : Array Obj) : Below w.heap.size w (grow (w.drewN q) os) :=
  ⟨rfl, rfl, rfl, by simp [grow], fun i hi => by
    show ((w.drewN q).heap ++ os)[i]? = _
    rw [Array.getElem?_append_left (show i < (w.drewN q).heap.size from hi)]
    rfl⟩
theorem formatS : OrcOk Tryz.prog n_q101 orcFormat :=
  format_ok (g := (Tryz.prog.globalNamed "internal/strconv.uint64pow10").getD 0) (by kernel_rfl) (by kernel_rfl) (enters_of Tryz.func134 (by kernel_rfl) rfl) fun n W h0 h1 ht => (Any.strconv_FormatInt_10 formatL n h0 h1 W ht).mono (by
    rintro e w' ⟨rfl, k, os, rfl⟩
    exact ⟨rfl, below_grownF W k os⟩)
end Go.Proofs.YthdkeggdipogoaaGreatDoor.Tz
