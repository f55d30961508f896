/-
The walks of expressions: rows, fields. Conditions: none.
-/
import Derived.Test.YtnpoicmaiieanaaGreatDoorTW3
import Derived.Test.YtnpoicmaiieanaaGreatDoorTS2
namespace Go.Proofs.YtnpoicmaiieanaaGreatDoor.Tz
open Go.Aug Go.Aug.Api
set_option maxRecDepth 100000

/-- The better one of two numbers. -/
def betterV (sign : Int) (a b : TVal) : TVal := if 0 < cmpI b.n a.n * sign then b else a



end Go.Proofs.YtnpoicmaiieanaaGreatDoor.Tz
