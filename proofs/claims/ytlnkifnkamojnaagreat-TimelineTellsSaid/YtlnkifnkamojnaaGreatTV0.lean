/-
EvalFolds in plain terms: what the five kinds of expressions are worth of events that have a number in one field. Conditions: none.
-/
import Derived.Test.YtlnkifnkamojnaaGreatGS
namespace Go.Aug.Api
open Go.Aug
def mx (a b : Int) : Int := if a < b then b else a
variable {l : List Int} {h : l.length ≤ big}
end Go.Aug.Api

namespace Go.Aug.Api
open Go.Aug
end Go.Aug.Api
