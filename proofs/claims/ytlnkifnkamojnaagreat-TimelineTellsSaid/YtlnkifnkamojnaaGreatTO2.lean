/-
slices.Sorted(maps.Keys(..)) at this dump, by the shelf. Conditions: none.
-/
import Derived.Shelf.SlIterI.Nil
import Derived.Shelf.SortM.Plain
import Derived.Shelf.SortM.SortNone
import Derived.Ground.GgzProg
import Derived.Ground.SlgmProg
import Derived.Test.YtlnkifnkamojnaaGreatChecked
import Derived.Test.YtlnkifnkamojnaaGreatGO
namespace Go.Proofs.YtlnkifnkamojnaaGreat.Tz
open Go.RowKit Go.Maps Go.Sort Go.Shelf Go.Proofs
def keysA_ren : Go.Shelf.Ren := ⟨fun | 7 => 247 | 10 => 256 | n => n, fun | 23 => 285 | 26 => 3 | 3 => 3 | 28 => 199 | 0 => 0 | 27 => 198 | 33 => 235 | 4 => 4 | n => n, fun | n => n⟩
theorem keysA : Go.Proofs.SlLaysZI.n7 Tryz.prog keysA_ren where
  mixed := by kernel_rfl
  f7 := ⟨"maps.Keys[map[int]int,int,int]", by decide, Tryz.func247.trans (congrArg some (by kernel_rfl))⟩
  f10 := ⟨"maps.Keys[map[int]int,int,int]$1", by decide, Tryz.func256.trans (congrArg some (by kernel_rfl))⟩
  t0 := Tryz.underlying0
  a0 := Tryz.isAgg0
  z0 := Tryz.sizeOf0
  v0 := Tryz.zeroValue0
  t4 := Tryz.underlying4
  a4 := Tryz.isAgg4
  z4 := Tryz.sizeOf4
  v4 := Tryz.zeroValue4
  t23 := Tryz.underlying285
  a23 := Tryz.isAgg285
  z23 := Tryz.sizeOf285
  v23 := Tryz.zeroValue285
  t26 := Tryz.underlying3
  a26 := Tryz.isAgg3
  z26 := Tryz.sizeOf3
  v26 := Tryz.zeroValue3
  t27 := Tryz.underlying198
  a27 := Tryz.isAgg198
  z27 := Tryz.sizeOf198
  v27 := Tryz.zeroValue198
  t28 := Tryz.underlying199
  a28 := Tryz.isAgg199
  z28 := Tryz.sizeOf199
  v28 := Tryz.zeroValue199
  t33 := Tryz.underlying235
  a33 := Tryz.isAgg235
  z33 := Tryz.sizeOf235
  v33 := Tryz.zeroValue235
def sortedA_ren : Go.Shelf.Ren := ⟨fun | 6 => 246 | 8 => 254 | 9 => 255 | 11 => 262 | 13 => 264 | 12 => 263 | 23 => 274 | 24 => 275 | 14 => 265 | 15 => 266 | 16 => 267 | 17 => 268 | 18 => 269 | 19 => 270 | 20 => 271 | 21 => 272 | 22 => 273 | 25 => 276 | 26 => 277 | 27 => 278 | 28 => 279 | 29 => 280 | 30 => 281 | 31 => 282 | n => n, fun | 26 => 3 | 28 => 199 | 24 => 201 | 0 => 0 | 3 => 3 | 37 => 173 | 48 => 270 | 50 => 174 | 4 => 4 | 40 => 307 | 39 => 306 | 45 => 312 | 5 => 5 | 9 => 9 | 51 => 316 | 55 => 320 | 57 => 322 | 58 => 144 | 33 => 235 | n => n, fun | n => n⟩
theorem sortedA : Go.Proofs.SlLaysZI.n6 Tryz.prog sortedA_ren where
  mixed := by kernel_rfl
  f6 := ⟨"slices.Sorted[int]", by decide, Tryz.func246.trans (congrArg some (by kernel_rfl))⟩
  f8 := ⟨"slices.Collect[int]", by decide, Tryz.func254.trans (congrArg some (by kernel_rfl))⟩
  f11 := ⟨"slices.AppendSeq[[]int,int]", by decide, Tryz.func262.trans (congrArg some (by kernel_rfl))⟩
  t0 := Tryz.underlying0
  a0 := Tryz.isAgg0
  z0 := Tryz.sizeOf0
  v0 := Tryz.zeroValue0
  t24 := Tryz.underlying201
  a24 := Tryz.isAgg201
  z24 := Tryz.sizeOf201
  v24 := Tryz.zeroValue201
  t26 := Tryz.underlying3
  a26 := Tryz.isAgg3
  z26 := Tryz.sizeOf3
  v26 := Tryz.zeroValue3
  t28 := Tryz.underlying199
  a28 := Tryz.isAgg199
  z28 := Tryz.sizeOf199
  v28 := Tryz.zeroValue199
  i26 := by kernel_rfl
def sortA_ren : Go.Shelf.Ren := ⟨fun | 5 => 255 | 8 => 264 | 7 => 263 | 19 => 274 | 20 => 275 | 10 => 265 | 11 => 266 | 12 => 267 | 13 => 268 | 14 => 269 | 15 => 270 | 16 => 271 | 17 => 272 | 18 => 273 | 30 => 276 | 31 => 277 | 32 => 278 | 33 => 279 | 34 => 280 | 35 => 281 | 40 => 282 | n => n, fun | 23 => 201 | 25 => 3 | 3 => 3 | 32 => 173 | 22 => 201 | 0 => 0 | 44 => 270 | 46 => 174 | 4 => 4 | 36 => 307 | 35 => 306 | 41 => 312 | 5 => 5 | 9 => 9 | 53 => 316 | 57 => 320 | 63 => 322 | 64 => 144 | n => n, fun | n => n⟩
theorem sortA : Go.Proofs.SlLaysM.n5 Tryz.prog sortA_ren where
  mixed := by kernel_rfl
  f5 := ⟨"slices.Sort[[]int,int]", by decide, Tryz.func255.trans (congrArg some (by kernel_rfl))⟩
  f7 := ⟨"slices.pdqsortOrdered[int]", by decide, Tryz.func263.trans (congrArg some (by kernel_rfl))⟩
  f8 := Tryz.func264.trans (congrArg some (by kernel_rfl))
  f10 := ⟨"slices.insertionSortOrdered[int]", by decide, Tryz.func265.trans (congrArg some (by kernel_rfl))⟩
  f11 := ⟨"slices.heapSortOrdered[int]", by decide, Tryz.func266.trans (congrArg some (by kernel_rfl))⟩
  f12 := ⟨"slices.breakPatternsOrdered[int]", by decide, Tryz.func267.trans (congrArg some (by kernel_rfl))⟩
  f13 := ⟨"slices.choosePivotOrdered[int]", by decide, Tryz.func268.trans (congrArg some (by kernel_rfl))⟩
  f14 := ⟨"slices.reverseRangeOrdered[int]", by decide, Tryz.func269.trans (congrArg some (by kernel_rfl))⟩
  f15 := ⟨"slices.partialInsertionSortOrdered[int]", by decide, Tryz.func270.trans (congrArg some (by kernel_rfl))⟩
  f16 := ⟨"cmp.Less[int]", by decide, Tryz.func271.trans (congrArg some (by kernel_rfl))⟩
  f17 := ⟨"slices.partitionEqualOrdered[int]", by decide, Tryz.func272.trans (congrArg some (by kernel_rfl))⟩
  f18 := ⟨"slices.partitionOrdered[int]", by decide, Tryz.func273.trans (congrArg some (by kernel_rfl))⟩
  f19 := Tryz.func274.trans (congrArg some (by kernel_rfl))
  f20 := Tryz.func275.trans (congrArg some (by kernel_rfl))
  f30 := ⟨"slices.siftDownOrdered[int]", by decide, Tryz.func276.trans (congrArg some (by kernel_rfl))⟩
  f31 := Tryz.func277.trans (congrArg some (by kernel_rfl))
  f32 := Tryz.func278.trans (congrArg some (by kernel_rfl))
  f33 := ⟨"slices.medianAdjacentOrdered[int]", by decide, Tryz.func279.trans (congrArg some (by kernel_rfl))⟩
  f34 := ⟨"slices.medianOrdered[int]", by decide, Tryz.func280.trans (congrArg some (by kernel_rfl))⟩
  f35 := ⟨"cmp.isNaN[int]", by decide, Tryz.func281.trans (congrArg some (by kernel_rfl))⟩
  f40 := ⟨"slices.order2Ordered[int]", by decide, Tryz.func282.trans (congrArg some (by kernel_rfl))⟩
  t0 := Tryz.underlying0
  a0 := Tryz.isAgg0
  z0 := Tryz.sizeOf0
  v0 := Tryz.zeroValue0
  t3 := Tryz.underlying3
  a3 := Tryz.isAgg3
  z3 := Tryz.sizeOf3
  v3 := Tryz.zeroValue3
  t4 := Tryz.underlying4
  a4 := Tryz.isAgg4
  z4 := Tryz.sizeOf4
  v4 := Tryz.zeroValue4
  t5 := Tryz.underlying5
  a5 := Tryz.isAgg5
  z5 := Tryz.sizeOf5
  v5 := Tryz.zeroValue5
  t9 := Tryz.underlying9
  a9 := Tryz.isAgg9
  z9 := Tryz.sizeOf9
  v9 := Tryz.zeroValue9
  t22 := Tryz.underlying201
  a22 := Tryz.isAgg201
  z22 := Tryz.sizeOf201
  v22 := Tryz.zeroValue201
  t23 := Tryz.underlying201
  a23 := Tryz.isAgg201
  z23 := Tryz.sizeOf201
  v23 := Tryz.zeroValue201
  t25 := Tryz.underlying3
  a25 := Tryz.isAgg3
  z25 := Tryz.sizeOf3
  v25 := Tryz.zeroValue3
  t32 := Tryz.underlying173
  a32 := Tryz.isAgg173
  z32 := Tryz.sizeOf173
  v32 := Tryz.zeroValue173
  t35 := Tryz.underlying306
  a35 := Tryz.isAgg306
  z35 := Tryz.sizeOf306
  v35 := Tryz.zeroValue306
  t36 := Tryz.underlying307
  a36 := Tryz.isAgg307
  z36 := Tryz.sizeOf307
  v36 := Tryz.zeroValue307
  t41 := Tryz.underlying312
  a41 := Tryz.isAgg312
  z41 := Tryz.sizeOf312
  v41 := Tryz.zeroValue312
  t44 := Tryz.underlying270
  a44 := Tryz.isAgg270
  z44 := Tryz.sizeOf270
  v44 := Tryz.zeroValue270
  t46 := Tryz.underlying174
  a46 := Tryz.isAgg174
  z46 := Tryz.sizeOf174
  v46 := Tryz.zeroValue174
  t53 := Tryz.underlying316
  a53 := Tryz.isAgg316
  z53 := Tryz.sizeOf316
  v53 := Tryz.zeroValue316
  t57 := Tryz.underlying320
  a57 := Tryz.isAgg320
  z57 := Tryz.sizeOf320
  v57 := Tryz.zeroValue320
  t63 := Tryz.underlying322
  a63 := Tryz.isAgg322
  z63 := Tryz.sizeOf322
  v63 := Tryz.zeroValue322
  t64 := Tryz.underlying144
  a64 := Tryz.isAgg144
  z64 := Tryz.sizeOf144
  v64 := Tryz.zeroValue144
theorem sortsA (m : Nat) : AnyZI.SortsIn Tryz.prog sortedA_ren Fence.wide m :=
  ⟨fun blk off cap ss W hH hblk hsz => callsIn_wide.2 (AnyM.slices_Sort_int sortA blk off cap ss W hH hblk hsz),
   fun p cap W => callsIn_wide.2 (AnyM.slices_Sort_int_none sortA p cap W)⟩
theorem keysSorted : Aug.KeysSorted Tryz.prog 1000000 246 256 3 := by
  refine ⟨Nat.le_refl _, enters_of Tryz.func246 (by kernel_rfl) rfl, Tryz.underlying3, fun b mb nn D0 R W hb hcell hown hsz => ?_⟩
  refine (callsIn_wide (n := 5)).1 ?_
  have hseq : SeqGives Fence.wide 2 Tryz.prog 256 #[.pointer (some ⟨b, 0, none⟩)] encZ (fun ss => ss.Perm (intKeys D0)) (Maps.size D0) W :=
    AnyZI.keys_gives (ρ := keysA_ren) { keysA with } Fence.wide _ trivial rfl (by omega) b mb nn D0 _ hb hcell hown
  have cS := AnyZI.sorted_in sortedA Fence.wide 5 trivial trivial trivial trivial rfl (by omega) (sortsA _) (enters_of Tryz.func255 (by kernel_rfl) rfl) 256 #[.pointer (some ⟨b, 0, none⟩)] trivial (enters_of Tryz.func256 (by kernel_rfl) rfl) _ _ (by simp only [maxLen]; omega) (by omega) _ hseq
  exact cS
end Go.Proofs.YtlnkifnkamojnaaGreat.Tz
