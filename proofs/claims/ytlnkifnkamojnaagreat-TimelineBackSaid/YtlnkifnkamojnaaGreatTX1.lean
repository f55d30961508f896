/-
The table of a law: the live question as an oracle. Conditions: none.
-/
import Derived.Test.YtlnkifnkamojnaaGreatTX0
import Derived.Test.YtlnkifnkamojnaaGreatGR
import Derived.Test.YtlnkifnkamojnaaGreatTO2
import Derived.Test.YtlnkifnkamojnaaGreatTO4
import Derived.Test.YtlnkifnkamojnaaGreatTO5
namespace Go.Proofs.YtlnkifnkamojnaaGreat.Tz
open Go.Aug
set_option maxRecDepth 100000
theorem mixed : Tryz.prog.follows .mixedOrders = true := by kernel_rfl
theorem tab_ok' (fz : Nat → Bool) (orc : Nat → Option (List D → Heap → Option (D × Heap))) (h : ∀ f g, orc f = some g → OrcOk Tryz.prog f g) : TabOk Tryz.prog ⟨findF rows, fz, orc⟩ :=
  ⟨mixed, fun f fi hf => rows_ok _ (findF_mem rows f fi hf), h⟩
theorem orcs0_ok (f : Nat) (g : List D → Heap → Option (D × Heap)) (h : orcs0 f = some g) : OrcOk Tryz.prog f g := by
  unfold orcs0 at h
  cases hk0 : Nat.beq f n_q140 with
  | true =>
    rw [hk0] at h
    simp only [cond_true, Option.some.injEq] at h
    rw [← h, Nat.eq_of_beq_eq_true hk0]
    exact sorted_ok keysSorted
  | false =>
    rw [hk0] at h
    simp only [cond_false] at h
    cases hk1 : Nat.beq f n_q42 with
    | true =>
      rw [hk1] at h
      simp only [cond_true, Option.some.injEq] at h
      rw [← h, Nat.eq_of_beq_eq_true hk1]
      exact cmpS
    | false =>
      rw [hk1] at h
      simp only [cond_false] at h
      cases hk2 : Nat.beq f n_q152 with
      | true =>
        rw [hk2] at h
        simp only [cond_true, Option.some.injEq] at h
        rw [← h, Nat.eq_of_beq_eq_true hk2]
        exact containsS
      | false =>
        rw [hk2] at h
        simp only [cond_false] at h
        cases h
theorem tab0_ok : TabOk Tryz.prog tab0 := tab_ok' _ _ orcs0_ok
theorem augurylaw15_head_evF : evF tab0 400 (.fn n_q4) [] H0 = some (.v (.bool true), H0) := by kernel_rfl
theorem augurylaw15_head_ev : ev tab0 400 (.fn n_q4) [] H0 = some (.v (.bool true), H0) := by
  rw [← evF_eq]
  exact augurylaw15_head_evF
theorem augurylaw15_head_orc : OrcOk Tryz.prog n_q4 orcHead := by
  have h := pure_ok tab0_ok (f := n_q4) (spec := fun args => match args with | [] => some (.v (.bool true)) | _ => none) (fun args d h => by
    cases args with
    | nil => simp only [Option.some.injEq] at h; subst h; exact ⟨400, augurylaw15_head_ev⟩
    | cons a l => cases h)
  intro args H r H' hg
  refine h args H r H' ?_
  cases args with
  | nil => simpa [orcHead, pureOrc, D.under.underAll] using hg
  | cons a l => cases hg
theorem orcs_ok (f : Nat) (g : List D → Heap → Option (D × Heap)) (h : orcs f = some g) : OrcOk Tryz.prog f g := by
  unfold orcs at h
  cases hk0 : Nat.beq f n_q4 with
  | true =>
    rw [hk0] at h
    simp only [cond_true, Option.some.injEq] at h
    rw [← h, Nat.eq_of_beq_eq_true hk0]
    exact augurylaw15_head_orc
  | false =>
    rw [hk0] at h
    simp only [cond_false] at h
    exact orcs0_ok f g (by unfold orcs0; exact h)
theorem tab_ok : TabOk Tryz.prog tab := tab_ok' _ _ orcs_ok
end Go.Proofs.YtlnkifnkamojnaaGreat.Tz
