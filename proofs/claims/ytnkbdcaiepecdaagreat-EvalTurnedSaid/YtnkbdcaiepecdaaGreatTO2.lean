/-
slices.Sorted(maps.Keys(..)) at this dump, by the shelf. Conditions: none.
-/
import Derived.Shelf.SlIterI.Nil
import Derived.Shelf.SortM.Plain
import Derived.Shelf.SortM.SortNone
import Derived.Ground.GgzProg
import Derived.Ground.SlgmProg
import Derived.Test.YtnkbdcaiepecdaaGreatChecked
import Derived.Test.YtnkbdcaiepecdaaGreatGO
namespace Go.Proofs.YtnkbdcaiepecdaaGreat.Tz
open Go.RowKit Go.Maps Go.Sort Go.Shelf Go.Proofs

def keysA_ren : Go.Shelf.Ren := ⟨fun | 7 => 88 | 10 => 94 | n => n, fun | 23 => 136 | 26 => 3 | 3 => 3 | 28 => 143 | 0 => 0 | 27 => 142 | 33 => 147 | 4 => 4 | n => n, fun | n => n⟩
theorem keysA : SlLaysZI.n7 Tryz.prog keysA_ren where
  mixed := by kernel_rfl
  f7 := ⟨ "maps.Keys[map[int]int,int,int]", by decide, Tryz.func88.trans (congrArg some (by kernel_rfl))⟩
  f10 := ⟨ "maps.Keys[map[int]int,int,int]$1", by decide, Tryz.func94.trans (congrArg some (by kernel_rfl))⟩
  t0 := Tryz.underlying0
  a0 := Tryz.isAgg0
  z0 := Tryz.sizeOf0
  v0 := Tryz.zeroValue0
  t4 := Tryz.underlying4
  a4 := Tryz.isAgg4
  z4 := Tryz.sizeOf4
  v4 := Tryz.zeroValue4
  t23 := Tryz.underlying136
  a23 := Tryz.isAgg136
  z23 := Tryz.sizeOf136
  v23 := Tryz.zeroValue136
  t26 := Tryz.underlying3
  a26 := Tryz.isAgg3
  z26 := Tryz.sizeOf3
  v26 := Tryz.zeroValue3
  t27 := Tryz.underlying142
  a27 := Tryz.isAgg142
  z27 := Tryz.sizeOf142
  v27 := Tryz.zeroValue142
  t28 := Tryz.underlying143
  a28 := Tryz.isAgg143
  z28 := Tryz.sizeOf143
  v28 := Tryz.zeroValue143
  t33 := Tryz.underlying147
  a33 := Tryz.isAgg147
  z33 := Tryz.sizeOf147
  v33 := Tryz.zeroValue147
def sortedA_ren : Go.Shelf.Ren := ⟨fun | 6 => 87 | 8 => 92 | 9 => 93 | 11 => 95 | 13 => 97 | 12 => 96 | 23 => 107 | 24 => 108 | 14 => 98 | 15 => 99 | 16 => 100 | 17 => 101 | 18 => 102 | 19 => 103 | 20 => 104 | 21 => 105 | 22 => 106 | 25 => 109 | 26 => 110 | 27 => 111 | 28 => 112 | 29 => 113 | 30 => 114 | 31 => 115 | n => n, fun | 26 => 3 | 28 => 143 | 24 => 59 | 0 => 0 | 3 => 3 | 37 => 151 | 48 => 162 | 50 => 164 | 4 => 4 | 40 => 154 | 39 => 153 | 45 => 159 | 5 => 5 | 9 => 9 | 51 => 165 | 55 => 169 | 57 => 171 | 58 => 119 | 33 => 147 | n => n, fun | n => n⟩
theorem sortedA : SlLaysZI.n6 Tryz.prog sortedA_ren where
  mixed := by kernel_rfl
  f6 := ⟨ "slices.Sorted[int]", by decide, Tryz.func87.trans (congrArg some (by kernel_rfl))⟩
  f8 := ⟨ "slices.Collect[int]", by decide, Tryz.func92.trans (congrArg some (by kernel_rfl))⟩
  f11 := ⟨ "slices.AppendSeq[[]int,int]", by decide, Tryz.func95.trans (congrArg some (by kernel_rfl))⟩
  t0 := Tryz.underlying0
  a0 := Tryz.isAgg0
  z0 := Tryz.sizeOf0
  v0 := Tryz.zeroValue0
  t24 := Tryz.underlying59
  a24 := Tryz.isAgg59
  z24 := Tryz.sizeOf59
  v24 := Tryz.zeroValue59
  t26 := Tryz.underlying3
  a26 := Tryz.isAgg3
  z26 := Tryz.sizeOf3
  v26 := Tryz.zeroValue3
  t28 := Tryz.underlying143
  a28 := Tryz.isAgg143
  z28 := Tryz.sizeOf143
  v28 := Tryz.zeroValue143
  i26 := by kernel_rfl
def sortA_ren : Go.Shelf.Ren := ⟨fun | 5 => 93 | 8 => 97 | 7 => 96 | 19 => 107 | 20 => 108 | 10 => 98 | 11 => 99 | 12 => 100 | 13 => 101 | 14 => 102 | 15 => 103 | 16 => 104 | 17 => 105 | 18 => 106 | 30 => 109 | 31 => 110 | 32 => 111 | 33 => 112 | 34 => 113 | 35 => 114 | 40 => 115 | n => n, fun | 23 => 59 | 25 => 3 | 3 => 3 | 32 => 151 | 22 => 59 | 0 => 0 | 44 => 162 | 46 => 164 | 4 => 4 | 36 => 154 | 35 => 153 | 41 => 159 | 5 => 5 | 9 => 9 | 53 => 165 | 57 => 169 | 63 => 171 | 64 => 119 | n => n, fun | n => n⟩
theorem sortA : SlLaysM.n5 Tryz.prog sortA_ren where
  mixed := by kernel_rfl
  f5 := ⟨ "slices.Sort[[]int,int]", by decide, Tryz.func93.trans (congrArg some (by kernel_rfl))⟩
  f7 := ⟨ "slices.pdqsortOrdered[int]", by decide, Tryz.func96.trans (congrArg some (by kernel_rfl))⟩
  f8 := Tryz.func97.trans (congrArg some (by kernel_rfl))
  f10 := ⟨ "slices.insertionSortOrdered[int]", by decide, Tryz.func98.trans (congrArg some (by kernel_rfl))⟩
  f11 := ⟨ "slices.heapSortOrdered[int]", by decide, Tryz.func99.trans (congrArg some (by kernel_rfl))⟩
  f12 := ⟨ "slices.breakPatternsOrdered[int]", by decide, Tryz.func100.trans (congrArg some (by kernel_rfl))⟩
  f13 := ⟨ "slices.choosePivotOrdered[int]", by decide, Tryz.func101.trans (congrArg some (by kernel_rfl))⟩
  f14 := ⟨ "slices.reverseRangeOrdered[int]", by decide, Tryz.func102.trans (congrArg some (by kernel_rfl))⟩
  f15 := ⟨ "slices.partialInsertionSortOrdered[int]", by decide, Tryz.func103.trans (congrArg some (by kernel_rfl))⟩
  f16 := ⟨ "cmp.Less[int]", by decide, Tryz.func104.trans (congrArg some (by kernel_rfl))⟩
  f17 := ⟨ "slices.partitionEqualOrdered[int]", by decide, Tryz.func105.trans (congrArg some (by kernel_rfl))⟩
  f18 := ⟨ "slices.partitionOrdered[int]", by decide, Tryz.func106.trans (congrArg some (by kernel_rfl))⟩
  f19 := Tryz.func107.trans (congrArg some (by kernel_rfl))
  f20 := Tryz.func108.trans (congrArg some (by kernel_rfl))
  f30 := ⟨ "slices.siftDownOrdered[int]", by decide, Tryz.func109.trans (congrArg some (by kernel_rfl))⟩
  f31 := Tryz.func110.trans (congrArg some (by kernel_rfl))
  f32 := Tryz.func111.trans (congrArg some (by kernel_rfl))
  f33 := ⟨ "slices.medianAdjacentOrdered[int]", by decide, Tryz.func112.trans (congrArg some (by kernel_rfl))⟩
  f34 := ⟨ "slices.medianOrdered[int]", by decide, Tryz.func113.trans (congrArg some (by kernel_rfl))⟩
  f35 := ⟨ "cmp.isNaN[int]", by decide, Tryz.func114.trans (congrArg some (by kernel_rfl))⟩
  f40 := ⟨ "slices.order2Ordered[int]", by decide, Tryz.func115.trans (congrArg some (by kernel_rfl))⟩
  t0 := Tryz.underlying0
  a0 := Tryz.isAgg0
  z0 := Tryz.sizeOf0
  v0 := Tryz.zeroValue0
  t3 := Tryz.underlying3
  a3 := Tryz.isAgg3
  z3 := Tryz.sizeOf3
  v3 := Tryz.zeroValue3
  t4 := Tryz.underlying4
  a4 := Tryz.isAgg4
  z4 := Tryz.sizeOf4
  v4 := Tryz.zeroValue4
  t5 := Tryz.underlying5
  a5 := Tryz.isAgg5
  z5 := Tryz.sizeOf5
  v5 := Tryz.zeroValue5
  t9 := Tryz.underlying9
  a9 := Tryz.isAgg9
  z9 := Tryz.sizeOf9
  v9 := Tryz.zeroValue9
  t22 := Tryz.underlying59
  a22 := Tryz.isAgg59
  z22 := Tryz.sizeOf59
  v22 := Tryz.zeroValue59
  t23 := Tryz.underlying59
  a23 := Tryz.isAgg59
  z23 := Tryz.sizeOf59
  v23 := Tryz.zeroValue59
  t25 := Tryz.underlying3
  a25 := Tryz.isAgg3
  z25 := Tryz.sizeOf3
  v25 := Tryz.zeroValue3
  t32 := Tryz.underlying151
  a32 := Tryz.isAgg151
  z32 := Tryz.sizeOf151
  v32 := Tryz.zeroValue151
  t35 := Tryz.underlying153
  a35 := Tryz.isAgg153
  z35 := Tryz.sizeOf153
  v35 := Tryz.zeroValue153
  t36 := Tryz.underlying154
  a36 := Tryz.isAgg154
  z36 := Tryz.sizeOf154
  v36 := Tryz.zeroValue154
  t41 := Tryz.underlying159
  a41 := Tryz.isAgg159
  z41 := Tryz.sizeOf159
  v41 := Tryz.zeroValue159
  t44 := Tryz.underlying162
  a44 := Tryz.isAgg162
  z44 := Tryz.sizeOf162
  v44 := Tryz.zeroValue162
  t46 := Tryz.underlying164
  a46 := Tryz.isAgg164
  z46 := Tryz.sizeOf164
  v46 := Tryz.zeroValue164
  t53 := Tryz.underlying165
  a53 := Tryz.isAgg165
  z53 := Tryz.sizeOf165
  v53 := Tryz.zeroValue165
  t57 := Tryz.underlying169
  a57 := Tryz.isAgg169
  z57 := Tryz.sizeOf169
  v57 := Tryz.zeroValue169
  t63 := Tryz.underlying171
  a63 := Tryz.isAgg171
  z63 := Tryz.sizeOf171
  v63 := Tryz.zeroValue171
  t64 := Tryz.underlying119
  a64 := Tryz.isAgg119
  z64 := Tryz.sizeOf119
  v64 := Tryz.zeroValue119

/-- slices.Sort's two contracts at this dump, at the fence that asks nothing. -/
theorem sortsA (m : Nat) : AnyZI.SortsIn Tryz.prog sortedA_ren Fence.wide m :=
  ⟨fun blk off cap ss W hH hblk hsz => callsIn_wide.2 (AnyM.slices_Sort_int sortA blk off cap ss W hH hblk hsz),
   fun p cap W => callsIn_wide.2 (AnyM.slices_Sort_int_none sortA p cap W)⟩

theorem keysSorted : Aug.KeysSorted Tryz.prog 87 94 3 := by
  refine ⟨enters_of Tryz.func87 (by kernel_rfl) rfl, Tryz.underlying3, fun b mb nn D0 R W hb hcell hown hsz => ?_⟩
  refine (callsIn_wide (n := 5)).1 ?_
  have hseq : SeqGives Fence.wide 2 Tryz.prog 94 #[.pointer (some ⟨b, 0, none⟩)] encZ (fun ss => ss.Perm (intKeys D0)) (Maps.size D0) W :=
    AnyZI.keys_gives (ρ := keysA_ren) { keysA with } Fence.wide _ trivial rfl (by omega) b mb nn D0 _ hb hcell hown
  have cS := AnyZI.sorted_in sortedA Fence.wide 5 trivial trivial trivial trivial rfl (by omega) (sortsA _) (enters_of Tryz.func93 (by kernel_rfl) rfl) 94 #[.pointer (some ⟨b, 0, none⟩)] trivial (enters_of Tryz.func94 (by kernel_rfl) rfl) _ _ (by simp only [maxLen]; omega) (by omega) _ hseq
  exact cS

end Go.Proofs.YtnkbdcaiepecdaaGreat.Tz
