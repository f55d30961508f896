/-
The program's functions as the evaluator's code, printed by program out of the translation. Conditions: none.
-/
import Derived.Test.YthdkeggdipogoaaGreatDoorTOa
namespace Go.Proofs.YthdkeggdipogoaaGreatDoor.Tz
open Go.Aug
set_option maxRecDepth 100000
end Go.Proofs.YthdkeggdipogoaaGreatDoor.Tz
