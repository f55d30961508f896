/-
The law's own table: what it calls with what lies in its own memory is asked of data. Conditions: none.
-/
import Derived.Test.YtnpoicmaiieanaaGreatDoorTX1
namespace Go.Proofs.YtnpoicmaiieanaaGreatDoor.Tz
open Go.Aug
set_option maxRecDepth 100000

/-- The law's own table: what it calls with what lies in its own memory is asked of data. -/
def lawFns : List Nat := [n_check_Kind, n_check_Check, n_augurylaw05_GreatSchemas, n_augurylaw08_Great, n_auguryref08_Right]
def isLaw (f : Nat) : List Nat → Bool
  | [] => false
  | k :: l => cond (Nat.beq f k) true (isLaw f l)
noncomputable def orcsL (f : Nat) : Option (List D → Heap → Option (D × Heap)) := cond (isLaw f lawFns) (some (pureOrc2 (runSpec tab f))) (orcs f)
noncomputable def tabL : Tab := ⟨findF rows, frozen, orcsL⟩

theorem orcsL_ok (f : Nat) (g : List D → Heap → Option (D × Heap)) (h : orcsL f = some g) : OrcOk Tryz.prog f g := by
  unfold orcsL at h
  cases hk : isLaw f lawFns with
  | true =>
    rw [hk] at h
    simp only [cond_true, Option.some.injEq] at h
    rw [← h]
    exact runSpec_orc tab_ok _
  | false => rw [hk] at h; exact orcs_ok f g h

theorem tabL_ok : TabOk Tryz.prog tabL := tab_ok' _ _ orcsL_ok

end Go.Proofs.YtnpoicmaiieanaaGreatDoor.Tz
