/-
Right queries, as the program and as the reference say it, are the same. Conditions: none; plain lemmas.
-/
import Derived.Test.YtlnkifnkamojnaaGreatGS
namespace Go.Aug.Api
open Go.Aug
end Go.Aug.Api
