/-
slices.Sorted(maps.Keys(..)) at this dump, by the shelf. Conditions: none.
-/
import Derived.Shelf.SlIterI.Nil
import Derived.Shelf.SortM.Plain
import Derived.Shelf.SortM.SortNone
import Derived.Ground.GgzProg
import Derived.Ground.SlgmProg
import Derived.Test.YtmfhanoibbmnlaaGreatDoorChecked
import Derived.Test.YtmfhanoibbmnlaaGreatDoorGO
namespace Go.Proofs.YtmfhanoibbmnlaaGreatDoor.Tz
open Go.RowKit Go.Maps Go.Sort Go.Shelf Go.Proofs
def keysA_ren : Go.Shelf.Ren := ⟨fun | 7 => 182 | 10 => 193 | n => n, fun | 23 => 212 | 26 => 3 | 3 => 3 | 28 => 219 | 0 => 0 | 27 => 218 | 33 => 159 | 4 => 4 | n => n, fun | n => n⟩
theorem keysA : Go.Proofs.SlLaysZI.n7 Tryz.prog keysA_ren where
  mixed := by kernel_rfl
  f7 := ⟨"maps.Keys[map[int]int,int,int]", by decide, Tryz.func182.trans (congrArg some (by kernel_rfl))⟩
  f10 := ⟨"maps.Keys[map[int]int,int,int]$1", by decide, Tryz.func193.trans (congrArg some (by kernel_rfl))⟩
  t0 := Tryz.underlying0
  a0 := Tryz.isAgg0
  z0 := Tryz.sizeOf0
  v0 := Tryz.zeroValue0
  t4 := Tryz.underlying4
  a4 := Tryz.isAgg4
  z4 := Tryz.sizeOf4
  v4 := Tryz.zeroValue4
  t23 := Tryz.underlying212
  a23 := Tryz.isAgg212
  z23 := Tryz.sizeOf212
  v23 := Tryz.zeroValue212
  t26 := Tryz.underlying3
  a26 := Tryz.isAgg3
  z26 := Tryz.sizeOf3
  v26 := Tryz.zeroValue3
  t27 := Tryz.underlying218
  a27 := Tryz.isAgg218
  z27 := Tryz.sizeOf218
  v27 := Tryz.zeroValue218
  t28 := Tryz.underlying219
  a28 := Tryz.isAgg219
  z28 := Tryz.sizeOf219
  v28 := Tryz.zeroValue219
  t33 := Tryz.underlying159
  a33 := Tryz.isAgg159
  z33 := Tryz.sizeOf159
  v33 := Tryz.zeroValue159
def sortedA_ren : Go.Shelf.Ren := ⟨fun | 6 => 181 | 8 => 191 | 9 => 192 | 11 => 196 | 13 => 108 | 12 => 197 | 23 => 140 | 24 => 141 | 14 => 198 | 15 => 199 | 16 => 200 | 17 => 201 | 18 => 202 | 19 => 203 | 20 => 204 | 21 => 205 | 22 => 206 | 25 => 207 | 26 => 161 | 27 => 162 | 28 => 208 | 29 => 209 | 30 => 109 | 31 => 210 | n => n, fun | 26 => 3 | 28 => 219 | 24 => 151 | 0 => 0 | 3 => 3 | 37 => 158 | 48 => 183 | 50 => 185 | 4 => 4 | 40 => 176 | 39 => 175 | 45 => 180 | 5 => 5 | 9 => 9 | 51 => 196 | 55 => 200 | 57 => 221 | 58 => 222 | 33 => 159 | n => n, fun | n => n⟩
theorem sortedA : Go.Proofs.SlLaysZI.n6 Tryz.prog sortedA_ren where
  mixed := by kernel_rfl
  f6 := ⟨"slices.Sorted[int]", by decide, Tryz.func181.trans (congrArg some (by kernel_rfl))⟩
  f8 := ⟨"slices.Collect[int]", by decide, Tryz.func191.trans (congrArg some (by kernel_rfl))⟩
  f11 := ⟨"slices.AppendSeq[[]int,int]", by decide, Tryz.func196.trans (congrArg some (by kernel_rfl))⟩
  t0 := Tryz.underlying0
  a0 := Tryz.isAgg0
  z0 := Tryz.sizeOf0
  v0 := Tryz.zeroValue0
  t24 := Tryz.underlying151
  a24 := Tryz.isAgg151
  z24 := Tryz.sizeOf151
  v24 := Tryz.zeroValue151
  t26 := Tryz.underlying3
  a26 := Tryz.isAgg3
  z26 := Tryz.sizeOf3
  v26 := Tryz.zeroValue3
  t28 := Tryz.underlying219
  a28 := Tryz.isAgg219
  z28 := Tryz.sizeOf219
  v28 := Tryz.zeroValue219
  i26 := by kernel_rfl
def sortA_ren : Go.Shelf.Ren := ⟨fun | 5 => 192 | 8 => 108 | 7 => 197 | 19 => 140 | 20 => 141 | 10 => 198 | 11 => 199 | 12 => 200 | 13 => 201 | 14 => 202 | 15 => 203 | 16 => 204 | 17 => 205 | 18 => 206 | 30 => 207 | 31 => 161 | 32 => 162 | 33 => 208 | 34 => 209 | 35 => 109 | 40 => 210 | n => n, fun | 23 => 151 | 25 => 3 | 3 => 3 | 32 => 158 | 22 => 151 | 0 => 0 | 44 => 183 | 46 => 185 | 4 => 4 | 36 => 176 | 35 => 175 | 41 => 180 | 5 => 5 | 9 => 9 | 53 => 196 | 57 => 200 | 63 => 221 | 64 => 222 | n => n, fun | n => n⟩
theorem sortA : Go.Proofs.SlLaysM.n5 Tryz.prog sortA_ren where
  mixed := by kernel_rfl
  f5 := ⟨"slices.Sort[[]int,int]", by decide, Tryz.func192.trans (congrArg some (by kernel_rfl))⟩
  f7 := ⟨"slices.pdqsortOrdered[int]", by decide, Tryz.func197.trans (congrArg some (by kernel_rfl))⟩
  f8 := Tryz.func108.trans (congrArg some (by kernel_rfl))
  f10 := ⟨"slices.insertionSortOrdered[int]", by decide, Tryz.func198.trans (congrArg some (by kernel_rfl))⟩
  f11 := ⟨"slices.heapSortOrdered[int]", by decide, Tryz.func199.trans (congrArg some (by kernel_rfl))⟩
  f12 := ⟨"slices.breakPatternsOrdered[int]", by decide, Tryz.func200.trans (congrArg some (by kernel_rfl))⟩
  f13 := ⟨"slices.choosePivotOrdered[int]", by decide, Tryz.func201.trans (congrArg some (by kernel_rfl))⟩
  f14 := ⟨"slices.reverseRangeOrdered[int]", by decide, Tryz.func202.trans (congrArg some (by kernel_rfl))⟩
  f15 := ⟨"slices.partialInsertionSortOrdered[int]", by decide, Tryz.func203.trans (congrArg some (by kernel_rfl))⟩
  f16 := ⟨"cmp.Less[int]", by decide, Tryz.func204.trans (congrArg some (by kernel_rfl))⟩
  f17 := ⟨"slices.partitionEqualOrdered[int]", by decide, Tryz.func205.trans (congrArg some (by kernel_rfl))⟩
  f18 := ⟨"slices.partitionOrdered[int]", by decide, Tryz.func206.trans (congrArg some (by kernel_rfl))⟩
  f19 := Tryz.func140.trans (congrArg some (by kernel_rfl))
  f20 := Tryz.func141.trans (congrArg some (by kernel_rfl))
  f30 := ⟨"slices.siftDownOrdered[int]", by decide, Tryz.func207.trans (congrArg some (by kernel_rfl))⟩
  f31 := Tryz.func161.trans (congrArg some (by kernel_rfl))
  f32 := Tryz.func162.trans (congrArg some (by kernel_rfl))
  f33 := ⟨"slices.medianAdjacentOrdered[int]", by decide, Tryz.func208.trans (congrArg some (by kernel_rfl))⟩
  f34 := ⟨"slices.medianOrdered[int]", by decide, Tryz.func209.trans (congrArg some (by kernel_rfl))⟩
  f35 := ⟨"cmp.isNaN[int]", by decide, Tryz.func109.trans (congrArg some (by kernel_rfl))⟩
  f40 := ⟨"slices.order2Ordered[int]", by decide, Tryz.func210.trans (congrArg some (by kernel_rfl))⟩
  t0 := Tryz.underlying0
  a0 := Tryz.isAgg0
  z0 := Tryz.sizeOf0
  v0 := Tryz.zeroValue0
  t3 := Tryz.underlying3
  a3 := Tryz.isAgg3
  z3 := Tryz.sizeOf3
  v3 := Tryz.zeroValue3
  t4 := Tryz.underlying4
  a4 := Tryz.isAgg4
  z4 := Tryz.sizeOf4
  v4 := Tryz.zeroValue4
  t5 := Tryz.underlying5
  a5 := Tryz.isAgg5
  z5 := Tryz.sizeOf5
  v5 := Tryz.zeroValue5
  t9 := Tryz.underlying9
  a9 := Tryz.isAgg9
  z9 := Tryz.sizeOf9
  v9 := Tryz.zeroValue9
  t22 := Tryz.underlying151
  a22 := Tryz.isAgg151
  z22 := Tryz.sizeOf151
  v22 := Tryz.zeroValue151
  t23 := Tryz.underlying151
  a23 := Tryz.isAgg151
  z23 := Tryz.sizeOf151
  v23 := Tryz.zeroValue151
  t25 := Tryz.underlying3
  a25 := Tryz.isAgg3
  z25 := Tryz.sizeOf3
  v25 := Tryz.zeroValue3
  t32 := Tryz.underlying158
  a32 := Tryz.isAgg158
  z32 := Tryz.sizeOf158
  v32 := Tryz.zeroValue158
  t35 := Tryz.underlying175
  a35 := Tryz.isAgg175
  z35 := Tryz.sizeOf175
  v35 := Tryz.zeroValue175
  t36 := Tryz.underlying176
  a36 := Tryz.isAgg176
  z36 := Tryz.sizeOf176
  v36 := Tryz.zeroValue176
  t41 := Tryz.underlying180
  a41 := Tryz.isAgg180
  z41 := Tryz.sizeOf180
  v41 := Tryz.zeroValue180
  t44 := Tryz.underlying183
  a44 := Tryz.isAgg183
  z44 := Tryz.sizeOf183
  v44 := Tryz.zeroValue183
  t46 := Tryz.underlying185
  a46 := Tryz.isAgg185
  z46 := Tryz.sizeOf185
  v46 := Tryz.zeroValue185
  t53 := Tryz.underlying196
  a53 := Tryz.isAgg196
  z53 := Tryz.sizeOf196
  v53 := Tryz.zeroValue196
  t57 := Tryz.underlying200
  a57 := Tryz.isAgg200
  z57 := Tryz.sizeOf200
  v57 := Tryz.zeroValue200
  t63 := Tryz.underlying221
  a63 := Tryz.isAgg221
  z63 := Tryz.sizeOf221
  v63 := Tryz.zeroValue221
  t64 := Tryz.underlying222
  a64 := Tryz.isAgg222
  z64 := Tryz.sizeOf222
  v64 := Tryz.zeroValue222
theorem sortsA (m : Nat) : AnyZI.SortsIn Tryz.prog sortedA_ren Fence.wide m :=
  ⟨fun blk off cap ss W hH hblk hsz => callsIn_wide.2 (AnyM.slices_Sort_int sortA blk off cap ss W hH hblk hsz),
   fun p cap W => callsIn_wide.2 (AnyM.slices_Sort_int_none sortA p cap W)⟩
theorem keysSorted : Aug.KeysSorted Tryz.prog 1000000 181 193 3 := by
  refine ⟨Nat.le_refl _, enters_of Tryz.func181 (by kernel_rfl) rfl, Tryz.underlying3, fun b mb nn D0 R W hb hcell hown hsz => ?_⟩
  refine (callsIn_wide (n := 5)).1 ?_
  have hseq : SeqGives Fence.wide 2 Tryz.prog 193 #[.pointer (some ⟨b, 0, none⟩)] encZ (fun ss => ss.Perm (intKeys D0)) (Maps.size D0) W :=
    AnyZI.keys_gives (ρ := keysA_ren) { keysA with } Fence.wide _ trivial rfl (by omega) b mb nn D0 _ hb hcell hown
  have cS := AnyZI.sorted_in sortedA Fence.wide 5 trivial trivial trivial trivial rfl (by omega) (sortsA _) (enters_of Tryz.func192 (by kernel_rfl) rfl) 193 #[.pointer (some ⟨b, 0, none⟩)] trivial (enters_of Tryz.func193 (by kernel_rfl) rfl) _ _ (by simp only [maxLen]; omega) (by omega) _ hseq
  exact cS
end Go.Proofs.YtmfhanoibbmnlaaGreatDoor.Tz
