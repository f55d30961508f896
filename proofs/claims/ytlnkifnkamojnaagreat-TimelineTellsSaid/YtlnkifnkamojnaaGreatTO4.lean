/-
internal/bytealg.CompareString at this dump. Conditions: none.
-/
import Derived.Test.YtlnkifnkamojnaaGreatChecked
import Derived.Lib.Strings
import Derived.Lib.Slices
import Derived.Lib.Walk
import Derived.Shelf.Abstract
import Derived.Test.YtlnkifnkamojnaaGreatTO3
import Derived.Test.YtlnkifnkamojnaaGreatTN0
namespace Go.Proofs.YtlnkifnkamojnaaGreat.Tz
open Go.RowKit Go.Shelf Go.Proofs Go.Aug
set_option maxHeartbeats 1000000 in
set_option maxRecDepth 100000 in
theorem compareString (a b : ByteArray) (w : World) : Calls Tryz.prog 252 #[.string a, .string b] w fun e w' => e = .returned (.int .i64 (cmpB a b)) ∧ w' = w := by
  go_enter Tryz.func252, Tryz.ntmps252
  go_wp2
  rw [run_callFunc_extern Tryz.func261 (by kernel_rfl) (by kernel_rfl) (by kernel_rfl) (e := Extern.BytealgCompare.compare) (by kernel_rfl), Lib.run_compareString]
  simp only [Result.andThen]
  rw [Oper.upon_value]
  go_wp2
  go_ret
  exact ⟨rfl, rfl⟩
theorem cmpS : OrcOk Tryz.prog n_q49 orcCmpS := cmpS_ok (enters_of Tryz.func252 (by kernel_rfl) rfl) compareString
end Go.Proofs.YtlnkifnkamojnaaGreat.Tz
