/-
The walks of expressions: their values. Conditions: none.
-/
import Derived.Test.YtnpoicmaiieanaaGreatDoorTW5
namespace Go.Proofs.YtnpoicmaiieanaaGreatDoor.Tz
open Go.Aug Go.Aug.Api
set_option maxRecDepth 100000



end Go.Proofs.YtnpoicmaiieanaaGreatDoor.Tz
