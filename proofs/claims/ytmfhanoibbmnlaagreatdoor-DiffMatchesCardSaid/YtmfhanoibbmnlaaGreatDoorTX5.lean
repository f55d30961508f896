/-
The table of chapter 10's laws: what they call is asked of data. Conditions: none.
-/
import Derived.Test.YtmfhanoibbmnlaaGreatDoorTWy
import Derived.Test.YtmfhanoibbmnlaaGreatDoorTSh
namespace Go.Proofs.YtmfhanoibbmnlaaGreatDoor.Tz
open Go.Aug Go.Aug.Api
set_option maxRecDepth 100000
theorem normQ_right {q : TQuery} (h : rightP q = true) : normQ q = { q with preds := ⟨repL (normL q.items.l (textS q) q.preds.l), normL q.items.l (textS q) q.preds.l, Nat.le_trans (normL_length ..) q.preds.ok⟩ } := by
  unfold normQ
  rw [dif_pos h]
end Go.Proofs.YtmfhanoibbmnlaaGreatDoor.Tz
