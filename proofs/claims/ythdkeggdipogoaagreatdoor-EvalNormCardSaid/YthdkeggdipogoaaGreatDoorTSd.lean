/-
What says whether expressions and predicates are the same. Conditions: none; definitions and plain lemmas.
-/
import Derived.Test.YthdkeggdipogoaaGreatDoorTSb
import Derived.Test.YthdkeggdipogoaaGreatDoorGT
namespace Go.Aug.Api
open Go.Aug
mutual
def sameX : TExpr → TExpr → Bool
  | .mk k v var f _ kids, .mk k' v' var' f' _ kids' => decide (k = k') && decide (v = v') && decide (var = var') && decide (f = f') && decide (kids.length = kids'.length) && sameXs kids kids'
def sameXs : List TExpr → List TExpr → Bool
  | a :: l, b :: m => sameX a b && sameXs l m
  | _, _ => true
end
def sameP (a b : TPred) : Bool := decide (a.cmp = b.cmp) && sameX a.L b.L && sameX a.R b.R
end Go.Aug.Api

namespace Go.Proofs.YthdkeggdipogoaaGreatDoor.Tz
open Go.Aug Go.Aug.Api
set_option maxRecDepth 100000
end Go.Proofs.YthdkeggdipogoaaGreatDoor.Tz

namespace Go.Aug.Api
open Go.Aug
end Go.Aug.Api
namespace Go.Proofs.YthdkeggdipogoaaGreatDoor.Tz
open Go.Aug Go.Aug.Api
set_option maxRecDepth 100000
end Go.Proofs.YthdkeggdipogoaaGreatDoor.Tz
