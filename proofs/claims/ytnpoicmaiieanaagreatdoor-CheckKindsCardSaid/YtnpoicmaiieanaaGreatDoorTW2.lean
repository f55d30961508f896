/-
The walks of values. Conditions: none.
-/
import Derived.Test.YtnpoicmaiieanaaGreatDoorTW1
namespace Go.Proofs.YtnpoicmaiieanaaGreatDoor.Tz
open Go.Aug Go.Aug.Api
set_option maxRecDepth 100000

theorem value_Right_run (k n : Int) (s : ByteArray) (H : Heap) : Run tab (.fn n_value_Right) [.agg [i64D k, i64D n, strD s]] H (bD (rightV ⟨k, n, s⟩)) H := by
  refine cK.run (cK_fn o_value_Right t_value_Right (Nat.le_of_ble_eq_true rfl) (by decide) ?_)
  simp
  repeat' (refine gK_of (fun h => ?_) (fun h => ?_) <;> (try simp [h]))
  all_goals grind [rightV, maxNum, emptyS]



end Go.Proofs.YtnpoicmaiieanaaGreatDoor.Tz
