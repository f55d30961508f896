/-
The walks of expressions: folds. Conditions: none.
-/
import Derived.Test.YtlnkifnkamojnaaGreatGP
namespace Go.Proofs.YtlnkifnkamojnaaGreat.Tz
open Go.Aug Go.Aug.Api
set_option maxRecDepth 100000
structure FoldI (H : Heap) (xc : List D) (H' : Heap) (out : TVal) (first : Bool) (res : TVal) (err : Int) (rc : O) : Prop where
  next : H.next + 7 ≤ H'.next
  low : H.next ≤ H'.low
  low' : H'.low ≤ H'.next
  old : ∀ k, k < H.next → H'.get k = H.get k
  g0 : H'.get H.next = some (.cells xc)
  g1 : H'.get (H.next + 1) = some (.cells (valC res))
  g2 : H'.get (H.next + 2) = some (.cells [i64D err])
  g3 : H'.get (H.next + 3) = some (.cells (valC out))
  g4 : H'.get (H.next + 4) = some (.cells foldsD)
  g5 : H'.get (H.next + 5) = some (.cells [bD first])
  g6 : H'.get (H.next + 6) = some rc
theorem FoldI.add {H : Heap} {xc : List D} {H' : Heap} {out : TVal} {first : Bool} {res : TVal} {err : Int} {rc : O} (h : FoldI H xc H' out first res err rc) (o : O) : FoldI H xc (H'.add o) out first res err rc := by
  have hn := h.next
  have hl := h.low'
  refine ⟨by simp; omega, by simp [h.low], by simp; omega, fun k hk => ?_, ?_, ?_, ?_, ?_, ?_, ?_, ?_⟩
  · rw [get_add, if_neg (by omega), h.old k hk]
  · rw [get_add, if_neg (by omega), h.g0]
  · rw [get_add, if_neg (by omega), h.g1]
  · rw [get_add, if_neg (by omega), h.g2]
  · rw [get_add, if_neg (by omega), h.g3]
  · rw [get_add, if_neg (by omega), h.g4]
  · rw [get_add, if_neg (by omega), h.g5]
  · rw [get_add, if_neg (by omega), h.g6]
end Go.Proofs.YtlnkifnkamojnaaGreat.Tz
