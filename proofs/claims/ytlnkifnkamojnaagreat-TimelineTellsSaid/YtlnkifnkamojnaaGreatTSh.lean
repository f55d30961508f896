/-
Right queries, as the program and as the reference say it, are the same. Conditions: none; plain lemmas.
-/
import Derived.Test.YtlnkifnkamojnaaGreatGS
namespace Go.Aug.Api
open Go.Aug
theorem rightE_eq : ∀ (x : TExpr) (n : Nat), rightE n x = rightX n x
  | .mk k v var f rep kids, n => by
    have ih : ∀ x ∈ kids, ∀ n : Nat, rightE n x = rightX n x := fun x _ n => rightE_eq x n
    unfold rightE rightX
    by_cases m0 : (n : Int) = 0
    · rw [if_pos (.inl (by omega)), if_pos m0]
    rw [if_neg m0]
    have n1 : ¬ (n : Int) < 1 := by omega
    obtain ⟨m, rfl⟩ : ∃ m, n = m + 1 := ⟨n - 1, by omega⟩
    have hm : ((m + 1 : Nat) : Int) - 1 = (m : Nat) := by omega
    rw [hm]
    have h2 : rightTwo m kids = rightTwoX m kids := by
      match kids, ih with
      | [a, b], ih => simp only [rightTwo, rightTwoX, ih a (by simp) m, ih b (by simp) m]
      | [], _ => rfl
      | [_], _ => rfl
      | _ :: _ :: _ :: _, _ => rfl
    rw [h2]
    have n2 : (1 : Int) ≤ (m : Int) + 1 := by omega
    have n3 : decide ((m : Int) + 1 < 1) = false := by simp; omega
    by_cases k1 : k = 1
    · subst k1
      cases kids with
      | nil =>
        by_cases v1 : var = emptyS <;> by_cases v2 : f = emptyS <;> simp [n1, n2, n3, v1, v2, Bool.and_comm]
      | cons a l => simp [n1, n2]
    · by_cases k3 : k = 3
      · subst k3
        cases kids with
        | nil => by_cases v1 : v = zVal <;> simp [n1, n2, n3, v1]
        | cons a l => simp [n1, n2]
      · by_cases k26 : 2 ≤ k ∧ k ≤ 6
        · have k26' : k = 2 ∨ k = 4 ∨ k = 5 ∨ k = 6 := by omega
          have k7 : ¬ (k = 7 ∨ k = 8) := by omega
          rw [if_neg k1, if_neg k3, if_pos k26, if_pos k26']
          cases kids with
          | nil => by_cases v1 : v = zVal <;> simp [n1, n2, n3, v1, k1, k3]
          | cons a l => rw [if_pos (.inr (.inl ⟨k7, by simp⟩))]; simp
        · have k26' : ¬ (k = 2 ∨ k = 4 ∨ k = 5 ∨ k = 6) := by omega
          rw [if_neg k1, if_neg k3, if_neg k26, if_neg k26']
          by_cases k7 : k = 7 ∨ k = 8
          · simp only [if_pos k7]
            by_cases v1 : v = zVal <;> by_cases v2 : var = emptyS <;> by_cases v3 : f = emptyS <;> simp [n1, n2, n3, v1, v2, v3, k1, k7, k3]
          · simp only [if_neg k7]
            split
            · rfl
            · split
              · rfl
              · simp [k1]
theorem rightQ_eq (q : TQuery) : rightQ q = rightP q := by
  unfold rightQ rightP
  have hp : q.preds.l.all predOk = q.preds.l.all predX := by
    congr 1
    funext p
    unfold predOk predX
    have h1 := rightE_eq p.L 6
    have h2 := rightE_eq p.R 6
    have e : ((6 : Nat) : Int) = 6 := rfl
    rw [e] at h1 h2
    rw [h1, h2]
  rw [hp]
  by_cases c : q.items.l.length < 1 ∨ 6 < q.items.l.length ∨ 8 < q.preds.l.length
  · rw [if_pos c]
    rcases c with c | c | c
    · have : decide (q.items.l.length = 0) = true := decide_eq_true (by omega)
      rw [this]; simp
    · have : decide (6 < q.items.l.length) = true := by simpa using c
      rw [this]; simp
    · have : decide (8 < q.preds.l.length) = true := by simpa using c
      rw [this]; simp
  · rw [if_neg c]
    have e1 : decide (q.items.l.length = 0) = false := by rw [decide_eq_false_iff_not]; omega
    have e2 : decide (6 < q.items.l.length) = false := by rw [decide_eq_false_iff_not]; omega
    have e3 : decide (8 < q.preds.l.length) = false := by rw [decide_eq_false_iff_not]; omega
    rw [e1, e2, e3]
    have f1 : decide (0 ≤ q.within) = !decide (q.within < 0) := by rw [← decide_not]; congr 1; simp
    have f2 : decide (q.within ≤ maxNum) = !decide (maxNum < q.within) := by rw [← decide_not]; congr 1; simp
    have f3 : decide (1 ≤ q.pick) = !decide (q.pick < 1) := by rw [← decide_not]; congr 1; simp
    have f4 : decide (q.pick ≤ 3) = !decide (3 < q.pick) := by rw [← decide_not]; congr 1; simp
    rw [f1, f2, f3, f4]
    cases itemsOk [] q.items.l <;> cases q.preds.l.all predX <;> cases decide (q.within < 0) <;> cases decide (maxNum < q.within) <;> cases decide (q.pick < 1) <;> cases decide (3 < q.pick) <;> simp
end Go.Aug.Api
