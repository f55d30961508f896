/-
slices.IndexFunc at some kinds: the place of the first that is so. Conditions: none.
-/
import Derived.Test.YtlnkifnkamojnaaGreatTX0
import Derived.Test.YtlnkifnkamojnaaGreatGS
namespace Go.Proofs.YtlnkifnkamojnaaGreat.Tz
open Go.Aug Go.Aug.Api
set_option maxRecDepth 100000
end Go.Proofs.YtlnkifnkamojnaaGreat.Tz
namespace Go.Proofs.YtlnkifnkamojnaaGreat.Tz
open Go.Aug Go.Aug.Api
set_option maxRecDepth 100000
theorem value_Right_run (k n : Int) (s : ByteArray) (H : Heap) : Run tab (.fn n_q175) [.agg [i64D k, i64D n, strD s]] H (bD (rightV ⟨k, n, s⟩)) H := by
  refine cK.run (cK_fn o_q175 t_q175 (Nat.le_of_ble_eq_true rfl) (by decide) ?_)
  simp
  repeat' (refine gK_of (fun h => ?_) (fun h => ?_) <;> (try simp [h]))
  all_goals grind [rightV, maxNum, emptyS]
end Go.Proofs.YtlnkifnkamojnaaGreat.Tz
namespace Go.Proofs.YtlnkifnkamojnaaGreat.Tz
open Go.Aug Go.Aug.Api
set_option maxRecDepth 100000
def findD (r : TSchema × Bool) : D := .tup [.agg (schemaC r.1), bD r.2]
end Go.Proofs.YtlnkifnkamojnaaGreat.Tz
namespace Go.Proofs.YtlnkifnkamojnaaGreat.Tz
open Go.Aug Go.Aug.Api
set_option maxRecDepth 100000
def foldsD : List D := [.v .nilFunc, .v .nilFunc, .v .nilFunc, .v .nilFunc, .fn (.func n_q172) [] [], .fn (.func n_q56) [] [.cp [i64D (-1)]], .fn (.func n_q56) [] [.cp [i64D 1]]]
end Go.Proofs.YtlnkifnkamojnaaGreat.Tz
