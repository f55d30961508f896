/-
The table of a law: the live question as an oracle. Conditions: none.
-/
import Derived.Test.YtnkbdcaiepecdaaGreatTX0
import Derived.Test.YtnkbdcaiepecdaaGreatTO2
import Derived.Test.YtnkbdcaiepecdaaGreatTO4
import Derived.Test.YtnkbdcaiepecdaaGreatGR
namespace Go.Proofs.YtnkbdcaiepecdaaGreat.Tz
open Go.Aug
set_option maxRecDepth 100000

theorem mixed : Tryz.prog.follows .mixedOrders = true := by kernel_rfl

theorem tab_ok' (fz : Nat → Bool) (orc : Nat → Option (List D → Heap → Option (D × Heap))) (h : ∀ f g, orc f = some g → OrcOk Tryz.prog f g) : TabOk Tryz.prog ⟨findF rows, fz, orc⟩ :=
  ⟨mixed, fun f fi hf => rows_ok _ (findF_mem rows f fi hf), h⟩

theorem orcs0_ok (f : Nat) (g : List D → Heap → Option (D × Heap)) (h : orcs0 f = some g) : OrcOk Tryz.prog f g := by
  unfold orcs0 at h
  cases hk : Nat.beq f n_slices_Sorted_int with
  | true =>
    rw [hk] at h
    simp only [cond_true, Option.some.injEq] at h
    rw [← h, Nat.eq_of_beq_eq_true hk]
    exact sorted_ok keysSorted
  | false =>
    rw [hk] at h
    simp only [cond_false] at h
    cases hk2 : Nat.beq f n_bytealg_CompareString with
    | true =>
      rw [hk2] at h
      simp only [cond_true, Option.some.injEq] at h
      rw [← h, Nat.eq_of_beq_eq_true hk2]
      exact cmpS
    | false => rw [hk2] at h; cases h

theorem tab0_ok : TabOk Tryz.prog tab0 := tab_ok' _ _ orcs0_ok

theorem head_evF : evF tab0 400 (.fn n_augurylaw11_head) [] H0 = some (.v (.bool true), H0) := by kernel_rfl

theorem head_ev : ev tab0 400 (.fn n_augurylaw11_head) [] H0 = some (.v (.bool true), H0) := by
  rw [← evF_eq]
  exact head_evF

theorem head_orc : OrcOk Tryz.prog n_augurylaw11_head orcHead := by
  have h := pure_ok tab0_ok (f := n_augurylaw11_head) (spec := fun args => match args with | [] => some (.v (.bool true)) | _ => none) (fun args d h => by
    cases args with
    | nil => simp only [Option.some.injEq] at h; subst h; exact ⟨400, head_ev⟩
    | cons a l => cases h)
  intro args H r H' hg
  refine h args H r H' ?_
  cases args with
  | nil => simpa [orcHead, pureOrc, D.under.underAll] using hg
  | cons a l => cases hg

theorem orcs_ok (f : Nat) (g : List D → Heap → Option (D × Heap)) (h : orcs f = some g) : OrcOk Tryz.prog f g := by
  unfold orcs at h
  cases hk : Nat.beq f n_augurylaw11_head with
  | true =>
    rw [hk] at h
    simp only [cond_true, Option.some.injEq] at h
    rw [← h, Nat.eq_of_beq_eq_true hk]
    exact head_orc
  | false => rw [hk] at h; exact orcs0_ok f g h

theorem tab_ok : TabOk Tryz.prog tab := tab_ok' _ _ orcs_ok

/-- The law's own table: what it calls with what lies in its own memory is asked of data. -/
def lawFns : List Nat := [n_eval_Value, n_eval_Holds, n_eval_All, n_augurylaw05_GreatSchemas, n_augurylaw08_Great, n_augurylaw11_GreatBound, n_augurylaw11_names, n_auguryref08_Right, n_auguryref04_Right]
def isLaw (f : Nat) : List Nat → Bool
  | [] => false
  | k :: l => cond (Nat.beq f k) true (isLaw f l)
noncomputable def orcsL (f : Nat) : Option (List D → Heap → Option (D × Heap)) := cond (isLaw f lawFns) (some (pureOrc2 (runSpec tab f))) (orcs f)
noncomputable def tabL : Tab := ⟨findF rows, frozen, orcsL⟩

theorem orcsL_ok (f : Nat) (g : List D → Heap → Option (D × Heap)) (h : orcsL f = some g) : OrcOk Tryz.prog f g := by
  unfold orcsL at h
  cases hk : isLaw f lawFns with
  | true =>
    rw [hk] at h
    simp only [cond_true, Option.some.injEq] at h
    rw [← h]
    exact runSpec_orc tab_ok _
  | false => rw [hk] at h; exact orcs_ok f g h

theorem tabL_ok : TabOk Tryz.prog tabL := tab_ok' _ _ orcsL_ok

end Go.Proofs.YtnkbdcaiepecdaaGreat.Tz
