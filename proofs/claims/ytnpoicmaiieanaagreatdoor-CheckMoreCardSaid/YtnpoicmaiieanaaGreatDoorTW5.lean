/-
The walks of expressions: folds. Conditions: none.
-/
import Derived.Test.YtnpoicmaiieanaaGreatDoorGP
namespace Go.Proofs.YtnpoicmaiieanaaGreatDoor.Tz
open Go.Aug Go.Aug.Api
set_option maxRecDepth 100000

theorem within_sl {n : Nat} (rep : Option (Option Nat)) (m : Nat) (cells : List D) (h : cells.all (within n) = true) : within (n + 1) (slD rep m cells) = true := by
  cases rep with
  | none =>
    cases m with
    | zero => rfl
    | succ m => simpa [slD, within] using h
  | some c => simpa [slD, within] using h

theorem frz_events (H : Heap) (lo n : Nat) (rep : Option (Option Nat)) (l : List TEvent) : frz H lo (n + 3) (slD rep l.length (l.flatMap eventC)) = some (slD rep l.length (l.flatMap eventC)) := by
  refine frz_within (n + 3) _ (within_sl _ _ _ ?_)
  rw [List.all_flatMap]
  simp only [List.all_eq_true]
  intro e _
  simp only [eventC, List.mem_cons, List.not_mem_nil, or_false]
  rintro d (rfl | rfl | rfl | rfl | rfl) <;> try rfl
  refine within_sl _ _ _ ?_
  rw [List.all_flatMap]
  simp [valC, within]

theorem low_set_le (H : Heap) (r : Nat) (o : O) : (H.set r o).low ≤ r := by rw [low_set]; split <;> omega



end Go.Proofs.YtnpoicmaiieanaaGreatDoor.Tz
