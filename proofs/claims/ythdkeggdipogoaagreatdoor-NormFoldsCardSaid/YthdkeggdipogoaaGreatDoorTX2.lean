/-
The law's own table: what it calls with what lies in its own memory is asked of data. Conditions: none.
-/
import Derived.Test.YthdkeggdipogoaaGreatDoorTX1
namespace Go.Proofs.YthdkeggdipogoaaGreatDoor.Tz
open Go.Aug
set_option maxRecDepth 100000

/-- The law's own table: what it calls with what lies in its own memory is asked of data. -/
def lawFns : List Nat := [n_norm_Fold, n_augurylaw05_GreatSchemas, n_augurylaw08_Great]
def isLaw (f : Nat) : List Nat → Bool
  | [] => false
  | k :: l => cond (Nat.beq f k) true (isLaw f l)
noncomputable def orcsL (f : Nat) : Option (List D → Heap → Option (D × Heap)) := cond (isLaw f lawFns) (some (pureOrc2 (runSpec tab f))) (orcs f)
noncomputable def tabL : Tab := ⟨findF rows, frozen, orcsL⟩

theorem orcsL_ok (f : Nat) (g : List D → Heap → Option (D × Heap)) (h : orcsL f = some g) : OrcOk Tryz.prog f g := by
  unfold orcsL at h
  cases hk : isLaw f lawFns with
  | true =>
    rw [hk] at h
    simp only [cond_true, Option.some.injEq] at h
    rw [← h]
    exact runSpec_orc tab_ok _
  | false => rw [hk] at h; exact orcs_ok f g h

theorem tabL_ok : TabOk Tryz.prog tabL := tab_ok' _ _ orcsL_ok

/-- With arguments that lead into memory, or nowhere. -/
theorem cK_asked {T T' : Tab} {f : FuncId} {args args' : List D} {H : Heap} {d : D} {R : D → Heap → Prop} (ho : T'.orc f = some (pureOrc2 (runSpec T f))) (ha : frzL (frz2 H 0 64) args = some args') (hd : Run T (.fn f) args' H0 d H0) (hf : flat d = true) (h : R d H) : cK T' (.fn f) args H R := by
  cases hu : D.under.underAll 0 args with
  | true =>
    rw [frzL2_pure H 63 args hu] at ha
    cases ha
    exact cK_pure ho hu hd h
  | false => exact cK_frozen ho hu ha hd hf h

end Go.Proofs.YthdkeggdipogoaaGreatDoor.Tz
