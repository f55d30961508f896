/-
slices.Sorted(maps.Keys(..)) at this dump, by the shelf. Conditions: none.
-/
import Derived.Shelf.SlIterI.Nil
import Derived.Shelf.SortM.Plain
import Derived.Shelf.SortM.SortNone
import Derived.Ground.GgzProg
import Derived.Ground.SlgmProg
import Derived.Test.YthdkeggdipogoaaGreatDoorChecked
import Derived.Test.YthdkeggdipogoaaGreatDoorGO
namespace Go.Proofs.YthdkeggdipogoaaGreatDoor.Tz
open Go.RowKit Go.Maps Go.Sort Go.Shelf Go.Proofs
def keysA_ren : Go.Shelf.Ren := ⟨fun | 7 => 122 | 10 => 168 | n => n, fun | 23 => 169 | 26 => 3 | 3 => 3 | 28 => 176 | 0 => 0 | 27 => 175 | 33 => 133 | 4 => 4 | n => n, fun | n => n⟩
theorem keysA : Go.Proofs.SlLaysZI.n7 Tryz.prog keysA_ren where
  mixed := by kernel_rfl
  f7 := ⟨"maps.Keys[map[int]int,int,int]", by decide, Tryz.func122.trans (congrArg some (by kernel_rfl))⟩
  f10 := ⟨"maps.Keys[map[int]int,int,int]$1", by decide, Tryz.func168.trans (congrArg some (by kernel_rfl))⟩
  t0 := Tryz.underlying0
  a0 := Tryz.isAgg0
  z0 := Tryz.sizeOf0
  v0 := Tryz.zeroValue0
  t4 := Tryz.underlying4
  a4 := Tryz.isAgg4
  z4 := Tryz.sizeOf4
  v4 := Tryz.zeroValue4
  t23 := Tryz.underlying169
  a23 := Tryz.isAgg169
  z23 := Tryz.sizeOf169
  v23 := Tryz.zeroValue169
  t26 := Tryz.underlying3
  a26 := Tryz.isAgg3
  z26 := Tryz.sizeOf3
  v26 := Tryz.zeroValue3
  t27 := Tryz.underlying175
  a27 := Tryz.isAgg175
  z27 := Tryz.sizeOf175
  v27 := Tryz.zeroValue175
  t28 := Tryz.underlying176
  a28 := Tryz.isAgg176
  z28 := Tryz.sizeOf176
  v28 := Tryz.zeroValue176
  t33 := Tryz.underlying133
  a33 := Tryz.isAgg133
  z33 := Tryz.sizeOf133
  v33 := Tryz.zeroValue133
def sortedA_ren : Go.Shelf.Ren := ⟨fun | 6 => 121 | 8 => 158 | 9 => 167 | 11 => 187 | 13 => 79 | 12 => 189 | 23 => 145 | 24 => 146 | 14 => 201 | 15 => 202 | 16 => 203 | 17 => 204 | 18 => 205 | 19 => 206 | 20 => 207 | 21 => 208 | 22 => 209 | 25 => 219 | 26 => 175 | 27 => 176 | 28 => 220 | 29 => 221 | 30 => 80 | 31 => 226 | n => n, fun | 26 => 3 | 28 => 176 | 24 => 40 | 0 => 0 | 3 => 3 | 37 => 132 | 48 => 204 | 50 => 206 | 4 => 4 | 40 => 197 | 39 => 196 | 45 => 201 | 5 => 5 | 9 => 9 | 51 => 244 | 55 => 248 | 57 => 262 | 58 => 215 | 33 => 133 | n => n, fun | n => n⟩
theorem sortedA : Go.Proofs.SlLaysZI.n6 Tryz.prog sortedA_ren where
  mixed := by kernel_rfl
  f6 := ⟨"slices.Sorted[int]", by decide, Tryz.func121.trans (congrArg some (by kernel_rfl))⟩
  f8 := ⟨"slices.Collect[int]", by decide, Tryz.func158.trans (congrArg some (by kernel_rfl))⟩
  f11 := ⟨"slices.AppendSeq[[]int,int]", by decide, Tryz.func187.trans (congrArg some (by kernel_rfl))⟩
  t0 := Tryz.underlying0
  a0 := Tryz.isAgg0
  z0 := Tryz.sizeOf0
  v0 := Tryz.zeroValue0
  t24 := Tryz.underlying40
  a24 := Tryz.isAgg40
  z24 := Tryz.sizeOf40
  v24 := Tryz.zeroValue40
  t26 := Tryz.underlying3
  a26 := Tryz.isAgg3
  z26 := Tryz.sizeOf3
  v26 := Tryz.zeroValue3
  t28 := Tryz.underlying176
  a28 := Tryz.isAgg176
  z28 := Tryz.sizeOf176
  v28 := Tryz.zeroValue176
  i26 := by kernel_rfl
def sortA_ren : Go.Shelf.Ren := ⟨fun | 5 => 167 | 8 => 79 | 7 => 189 | 19 => 145 | 20 => 146 | 10 => 201 | 11 => 202 | 12 => 203 | 13 => 204 | 14 => 205 | 15 => 206 | 16 => 207 | 17 => 208 | 18 => 209 | 30 => 219 | 31 => 175 | 32 => 176 | 33 => 220 | 34 => 221 | 35 => 80 | 40 => 226 | n => n, fun | 23 => 40 | 25 => 3 | 3 => 3 | 32 => 132 | 22 => 40 | 0 => 0 | 44 => 204 | 46 => 206 | 4 => 4 | 36 => 197 | 35 => 196 | 41 => 201 | 5 => 5 | 9 => 9 | 53 => 244 | 57 => 248 | 63 => 262 | 64 => 215 | n => n, fun | n => n⟩
theorem sortA : Go.Proofs.SlLaysM.n5 Tryz.prog sortA_ren where
  mixed := by kernel_rfl
  f5 := ⟨"slices.Sort[[]int,int]", by decide, Tryz.func167.trans (congrArg some (by kernel_rfl))⟩
  f7 := ⟨"slices.pdqsortOrdered[int]", by decide, Tryz.func189.trans (congrArg some (by kernel_rfl))⟩
  f8 := Tryz.func79.trans (congrArg some (by kernel_rfl))
  f10 := ⟨"slices.insertionSortOrdered[int]", by decide, Tryz.func201.trans (congrArg some (by kernel_rfl))⟩
  f11 := ⟨"slices.heapSortOrdered[int]", by decide, Tryz.func202.trans (congrArg some (by kernel_rfl))⟩
  f12 := ⟨"slices.breakPatternsOrdered[int]", by decide, Tryz.func203.trans (congrArg some (by kernel_rfl))⟩
  f13 := ⟨"slices.choosePivotOrdered[int]", by decide, Tryz.func204.trans (congrArg some (by kernel_rfl))⟩
  f14 := ⟨"slices.reverseRangeOrdered[int]", by decide, Tryz.func205.trans (congrArg some (by kernel_rfl))⟩
  f15 := ⟨"slices.partialInsertionSortOrdered[int]", by decide, Tryz.func206.trans (congrArg some (by kernel_rfl))⟩
  f16 := ⟨"cmp.Less[int]", by decide, Tryz.func207.trans (congrArg some (by kernel_rfl))⟩
  f17 := ⟨"slices.partitionEqualOrdered[int]", by decide, Tryz.func208.trans (congrArg some (by kernel_rfl))⟩
  f18 := ⟨"slices.partitionOrdered[int]", by decide, Tryz.func209.trans (congrArg some (by kernel_rfl))⟩
  f19 := Tryz.func145.trans (congrArg some (by kernel_rfl))
  f20 := Tryz.func146.trans (congrArg some (by kernel_rfl))
  f30 := ⟨"slices.siftDownOrdered[int]", by decide, Tryz.func219.trans (congrArg some (by kernel_rfl))⟩
  f31 := Tryz.func175.trans (congrArg some (by kernel_rfl))
  f32 := Tryz.func176.trans (congrArg some (by kernel_rfl))
  f33 := ⟨"slices.medianAdjacentOrdered[int]", by decide, Tryz.func220.trans (congrArg some (by kernel_rfl))⟩
  f34 := ⟨"slices.medianOrdered[int]", by decide, Tryz.func221.trans (congrArg some (by kernel_rfl))⟩
  f35 := ⟨"cmp.isNaN[int]", by decide, Tryz.func80.trans (congrArg some (by kernel_rfl))⟩
  f40 := ⟨"slices.order2Ordered[int]", by decide, Tryz.func226.trans (congrArg some (by kernel_rfl))⟩
  t0 := Tryz.underlying0
  a0 := Tryz.isAgg0
  z0 := Tryz.sizeOf0
  v0 := Tryz.zeroValue0
  t3 := Tryz.underlying3
  a3 := Tryz.isAgg3
  z3 := Tryz.sizeOf3
  v3 := Tryz.zeroValue3
  t4 := Tryz.underlying4
  a4 := Tryz.isAgg4
  z4 := Tryz.sizeOf4
  v4 := Tryz.zeroValue4
  t5 := Tryz.underlying5
  a5 := Tryz.isAgg5
  z5 := Tryz.sizeOf5
  v5 := Tryz.zeroValue5
  t9 := Tryz.underlying9
  a9 := Tryz.isAgg9
  z9 := Tryz.sizeOf9
  v9 := Tryz.zeroValue9
  t22 := Tryz.underlying40
  a22 := Tryz.isAgg40
  z22 := Tryz.sizeOf40
  v22 := Tryz.zeroValue40
  t23 := Tryz.underlying40
  a23 := Tryz.isAgg40
  z23 := Tryz.sizeOf40
  v23 := Tryz.zeroValue40
  t25 := Tryz.underlying3
  a25 := Tryz.isAgg3
  z25 := Tryz.sizeOf3
  v25 := Tryz.zeroValue3
  t32 := Tryz.underlying132
  a32 := Tryz.isAgg132
  z32 := Tryz.sizeOf132
  v32 := Tryz.zeroValue132
  t35 := Tryz.underlying196
  a35 := Tryz.isAgg196
  z35 := Tryz.sizeOf196
  v35 := Tryz.zeroValue196
  t36 := Tryz.underlying197
  a36 := Tryz.isAgg197
  z36 := Tryz.sizeOf197
  v36 := Tryz.zeroValue197
  t41 := Tryz.underlying201
  a41 := Tryz.isAgg201
  z41 := Tryz.sizeOf201
  v41 := Tryz.zeroValue201
  t44 := Tryz.underlying204
  a44 := Tryz.isAgg204
  z44 := Tryz.sizeOf204
  v44 := Tryz.zeroValue204
  t46 := Tryz.underlying206
  a46 := Tryz.isAgg206
  z46 := Tryz.sizeOf206
  v46 := Tryz.zeroValue206
  t53 := Tryz.underlying244
  a53 := Tryz.isAgg244
  z53 := Tryz.sizeOf244
  v53 := Tryz.zeroValue244
  t57 := Tryz.underlying248
  a57 := Tryz.isAgg248
  z57 := Tryz.sizeOf248
  v57 := Tryz.zeroValue248
  t63 := Tryz.underlying262
  a63 := Tryz.isAgg262
  z63 := Tryz.sizeOf262
  v63 := Tryz.zeroValue262
  t64 := Tryz.underlying215
  a64 := Tryz.isAgg215
  z64 := Tryz.sizeOf215
  v64 := Tryz.zeroValue215
def collectA_ren : Go.Shelf.Ren := ⟨fun | 8 => 158 | 11 => 187 | n => n, fun | 26 => 3 | 28 => 176 | 24 => 40 | 0 => 0 | 33 => 133 | 4 => 4 | n => n, fun | n => n⟩
theorem collectA : Go.Proofs.SlLaysZI.n8 Tryz.prog collectA_ren where
  mixed := by kernel_rfl
  f8 := ⟨"slices.Collect[int]", by decide, Tryz.func158.trans (congrArg some (by kernel_rfl))⟩
  f11 := ⟨"slices.AppendSeq[[]int,int]", by decide, Tryz.func187.trans (congrArg some (by kernel_rfl))⟩
  t0 := Tryz.underlying0
  a0 := Tryz.isAgg0
  z0 := Tryz.sizeOf0
  v0 := Tryz.zeroValue0
  t24 := Tryz.underlying40
  a24 := Tryz.isAgg40
  z24 := Tryz.sizeOf40
  v24 := Tryz.zeroValue40
  t26 := Tryz.underlying3
  a26 := Tryz.isAgg3
  z26 := Tryz.sizeOf3
  v26 := Tryz.zeroValue3
  t28 := Tryz.underlying176
  a28 := Tryz.isAgg176
  z28 := Tryz.sizeOf176
  v28 := Tryz.zeroValue176
  i26 := by kernel_rfl
theorem sortsA (m : Nat) : AnyZI.SortsIn Tryz.prog sortedA_ren Fence.wide m :=
  ⟨fun blk off cap ss W hH hblk hsz => callsIn_wide.2 (AnyM.slices_Sort_int sortA blk off cap ss W hH hblk hsz),
   fun p cap W => callsIn_wide.2 (AnyM.slices_Sort_int_none sortA p cap W)⟩
theorem keysSorted : Aug.KeysSorted Tryz.prog 1000000 121 168 3 := by
  refine ⟨Nat.le_refl _, enters_of Tryz.func121 (by kernel_rfl) rfl, Tryz.underlying3, fun b mb nn D0 R W hb hcell hown hsz => ?_⟩
  refine (callsIn_wide (n := 5)).1 ?_
  have hseq : SeqGives Fence.wide 2 Tryz.prog 168 #[.pointer (some ⟨b, 0, none⟩)] encZ (fun ss => ss.Perm (intKeys D0)) (Maps.size D0) W :=
    AnyZI.keys_gives (ρ := keysA_ren) { keysA with } Fence.wide _ trivial rfl (by omega) b mb nn D0 _ hb hcell hown
  have cS := AnyZI.sorted_in sortedA Fence.wide 5 trivial trivial trivial trivial rfl (by omega) (sortsA _) (enters_of Tryz.func167 (by kernel_rfl) rfl) 168 #[.pointer (some ⟨b, 0, none⟩)] trivial (enters_of Tryz.func168 (by kernel_rfl) rfl) _ _ (by simp only [maxLen]; omega) (by omega) _ hseq
  exact cS
theorem keysCollected : Aug.KeysSorted Tryz.prog 1 158 168 3 := by
  refine ⟨by decide, enters_of Tryz.func158 (by kernel_rfl) rfl, Tryz.underlying3, fun b mb nn D0 R W hb hcell hown hsz => ?_⟩
  refine (callsIn_wide (n := 5)).1 ?_
  have hseq : SeqGives Fence.wide 3 Tryz.prog 168 #[.pointer (some ⟨b, 0, none⟩)] encZ (fun ss => ss.Perm (intKeys D0)) (Maps.size D0) W :=
    AnyZI.keys_gives (ρ := keysA_ren) { keysA with } Fence.wide _ trivial rfl (by omega) b mb nn D0 _ hb hcell hown
  have cS := AnyZI.collect_in collectA Fence.wide 5 trivial trivial rfl (by omega) 168 #[.pointer (some ⟨b, 0, none⟩)] trivial (enters_of Tryz.func168 (by kernel_rfl) rfl) _ _ (by simp only [maxLen]; omega) (by omega) _ hseq
  refine cS.mono ?_
  rintro e w' ⟨v, ss, rfl, hp, hrow, hnil, hb⟩
  refine ⟨v, ss, rfl, hp, ?_, hnil, hb⟩
  have hl : ss.length ≤ 1 := by
    have := hp.length_eq
    have h2 : (intKeys D0).length ≤ Maps.size D0 := by cases D0 <;> simp [intKeys, Maps.size]
    omega
  have hm : ss.mergeSort (fun x y => decide (x ≤ y)) = ss := by
    match ss, hl with
    | [], _ => simp
    | [_], _ => simp
  rw [hm]
  exact hrow
end Go.Proofs.YthdkeggdipogoaaGreatDoor.Tz
