/-
The walks of expressions: their values. Conditions: none.
-/
import Derived.Test.YtlnkifnkamojnaaGreatTW5
namespace Go.Proofs.YtlnkifnkamojnaaGreat.Tz
open Go.Aug Go.Aug.Api
set_option maxRecDepth 100000
end Go.Proofs.YtlnkifnkamojnaaGreat.Tz
