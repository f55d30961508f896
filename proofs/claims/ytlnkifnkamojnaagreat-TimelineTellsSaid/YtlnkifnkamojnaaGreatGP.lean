/-
slices.IndexFunc at some kinds: the place of the first that is so. Conditions: none.
-/
import Derived.Test.YtlnkifnkamojnaaGreatTX0
import Derived.Test.YtlnkifnkamojnaaGreatGS
namespace Go.Proofs.YtlnkifnkamojnaaGreat.Tz
open Go.Aug Go.Aug.Api
set_option maxRecDepth 100000
end Go.Proofs.YtlnkifnkamojnaaGreat.Tz
namespace Go.Proofs.YtlnkifnkamojnaaGreat.Tz
open Go.Aug Go.Aug.Api
set_option maxRecDepth 100000
theorem value_Right_run (k n : Int) (s : ByteArray) (H : Heap) : Run tab (.fn n_q182) [.agg [i64D k, i64D n, strD s]] H (bD (rightV ⟨k, n, s⟩)) H := by
  refine cK.run (cK_fn o_q182 t_q182 (Nat.le_of_ble_eq_true rfl) (by decide) ?_)
  simp
  repeat' (refine gK_of (fun h => ?_) (fun h => ?_) <;> (try simp [h]))
  all_goals grind [rightV, maxNum, emptyS]
end Go.Proofs.YtlnkifnkamojnaaGreat.Tz
namespace Go.Proofs.YtlnkifnkamojnaaGreat.Tz
open Go.Aug Go.Aug.Api
set_option maxRecDepth 100000
def findD (r : TSchema × Bool) : D := .tup [.agg (schemaC r.1), bD r.2]
end Go.Proofs.YtlnkifnkamojnaaGreat.Tz
namespace Go.Proofs.YtlnkifnkamojnaaGreat.Tz
open Go.Aug Go.Aug.Api
set_option maxRecDepth 100000
def foldsD : List D := [.v .nilFunc, .v .nilFunc, .v .nilFunc, .v .nilFunc, .fn (.func n_q179) [] [], .fn (.func n_q63) [] [.cp [i64D (-1)]], .fn (.func n_q63) [] [.cp [i64D 1]]]
end Go.Proofs.YtlnkifnkamojnaaGreat.Tz

namespace Go.Proofs.YtlnkifnkamojnaaGreat.Tz
open Go.Aug Go.Aug.Api
set_option maxRecDepth 100000
structure FoldI (H : Heap) (xc : List D) (H' : Heap) (out : TVal) (first : Bool) (res : TVal) (err : Int) (rc : O) : Prop where
  next : H.next + 7 ≤ H'.next
  low : H.next ≤ H'.low
  low' : H'.low ≤ H'.next
  old : ∀ k, k < H.next → H'.get k = H.get k
  g0 : H'.get H.next = some (.cells xc)
  g1 : H'.get (H.next + 1) = some (.cells (valC res))
  g2 : H'.get (H.next + 2) = some (.cells [i64D err])
  g3 : H'.get (H.next + 3) = some (.cells (valC out))
  g4 : H'.get (H.next + 4) = some (.cells foldsD)
  g5 : H'.get (H.next + 5) = some (.cells [bD first])
  g6 : H'.get (H.next + 6) = some rc
theorem FoldI.add {H : Heap} {xc : List D} {H' : Heap} {out : TVal} {first : Bool} {res : TVal} {err : Int} {rc : O} (h : FoldI H xc H' out first res err rc) (o : O) : FoldI H xc (H'.add o) out first res err rc := by
  have hn := h.next
  have hl := h.low'
  refine ⟨by simp; omega, by simp [h.low], by simp; omega, fun k hk => ?_, ?_, ?_, ?_, ?_, ?_, ?_, ?_⟩
  · rw [get_add, if_neg (by omega), h.old k hk]
  · rw [get_add, if_neg (by omega), h.g0]
  · rw [get_add, if_neg (by omega), h.g1]
  · rw [get_add, if_neg (by omega), h.g2]
  · rw [get_add, if_neg (by omega), h.g3]
  · rw [get_add, if_neg (by omega), h.g4]
  · rw [get_add, if_neg (by omega), h.g5]
  · rw [get_add, if_neg (by omega), h.g6]
end Go.Proofs.YtlnkifnkamojnaaGreat.Tz

namespace Go.Proofs.YtlnkifnkamojnaaGreat.Tz
open Go.Aug Go.Aug.Api
set_option maxRecDepth 100000
end Go.Proofs.YtlnkifnkamojnaaGreat.Tz
