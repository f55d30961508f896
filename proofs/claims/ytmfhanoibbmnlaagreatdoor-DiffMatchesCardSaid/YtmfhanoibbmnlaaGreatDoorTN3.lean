/-
The program's functions as the evaluator's code, printed by program out of the translation. Conditions: none.
-/
import Derived.Test.YtmfhanoibbmnlaaGreatDoorTOa
namespace Go.Proofs.YtmfhanoibbmnlaaGreatDoor.Tz
open Go.Aug
set_option maxRecDepth 100000
end Go.Proofs.YtmfhanoibbmnlaaGreatDoor.Tz
