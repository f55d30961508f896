/-
The walks of timeline.Spans: what collects spans, what leaves out Drops. Conditions: none.
-/
import Derived.Test.YtlnkifnkamojnaaGreatTVs
namespace Go.Proofs.YtlnkifnkamojnaaGreat.Tz
open Go.Aug Go.Aug.Api
set_option maxRecDepth 100000
end Go.Proofs.YtlnkifnkamojnaaGreat.Tz
