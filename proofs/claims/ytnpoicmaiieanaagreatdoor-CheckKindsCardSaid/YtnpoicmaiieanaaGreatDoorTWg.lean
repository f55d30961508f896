/-
The walks of checks: an expression's kind. Conditions: none.
-/
import Derived.Test.YtnpoicmaiieanaaGreatDoorTWf
namespace Go.Proofs.YtnpoicmaiieanaaGreatDoor.Tz
open Go.Aug Go.Aug.Api
set_option maxRecDepth 100000

theorem check_Kind_run (l : Sl TSchema) (q : TQuery) : ∀ (x : TExpr) (H : Heap), Run tab (.fn n_check_Kind) [l.enc schemaC, .agg (queryC q), .agg (exprC x)] H (i64D (kindS l.l q.items.l x)) H
  | .mk k v var field rep kids, H => by
    have ih : ∀ x ∈ kids, ∀ H, Run tab (.fn n_check_Kind) [l.enc schemaC, .agg (queryC q), .agg (exprC x)] H (i64D (kindS l.l q.items.l x)) H := fun x hx H => check_Kind_run l q x H
    refine cK.run (cK_fn o_check_Kind t_check_Kind (Nat.le_of_ble_eq_true rfl) (by decide) ?_)
    have hi := fun H => (check_item_run q var H).cK
    have hf := fun names H => (check_field_run l names field H).cK
    have hq : ∀ q : TQuery, (queryC q).take 5 = queryC q := fun q => List.take_of_length_le (by rw [queryC_len]; exact Nat.le_refl _)
    simp [exprC_mk, hi, hq]
    by_cases h1 : k = 1
    · simp [h1, kindS, leafK]
    simp [h1]
    by_cases h2 : k = 7 ∨ k = 8
    · have hk : kindS l.l q.items.l (.mk k v var field rep kids) = kindTwo l.l q.items.l kids := by simp [kindS, h2]
      rw [hk]
      rcases h2 with h2 | h2 <;> simp [h2]
      all_goals
        refine gK_of (fun h3 => ?_) (fun h3 => ?_)
        · simp at h3
          obtain ⟨a, b, rfl⟩ : ∃ a b, kids = [a, b] := by
            match kids, h3 with
            | [a, b], _ => exact ⟨a, b, rfl⟩
          have hA := fun H => (ih a (by simp) H).cK
          have hB := fun H => (ih b (by simp) H).cK
          have e0 := elem_at exprC_len rep [a, b] .i64 0 a rfl
          have e1 := elem_at exprC_len rep [a, b] .i64 1 b rfl
          simp at e0 e1
          simp [hq, e0, load_elem _ _ _ _ (exprC_len a), hA, kindTwo]
          by_cases ha : kindS l.l q.items.l a = 1
          · by_cases hb : kindS l.l q.items.l b = 1
            · simp [hq, e1, exprC_mk, load_elem _ _ _ _ (exprC_len b), hB, ha, hb, kindTwo]
            · simp [hq, e1, exprC_mk, load_elem _ _ _ _ (exprC_len b), hB, ha, hb, kindTwo]
          · simp [ha, kindTwo]
        · have hk2 : kindTwo l.l q.items.l kids = 0 := by
            simp at h3
            match kids, h3 with
            | [], _ => rfl
            | [_], _ => rfl
            | [_, _], h2 => exact absurd rfl h2
            | _ :: _ :: _ :: _, _ => rfl
          simp [h3, hk2]
    have h7 : k ≠ 7 := fun h => h2 (.inl h)
    have h8 : k ≠ 8 := fun h => h2 (.inr h)
    simp [h7, h8]
    by_cases hp : placeS q.items.l var < 0 <;> by_cases hn : (itemS q.items.l var).not = true
    all_goals
      by_cases h3 : k = 2
      · simp [h3, itemC, queryC, exprC_mk, hf, hp, hn, kindS, leafK]
      simp [h3]
      by_cases h4 : k = 3
      · simp [h4, itemC, queryC, exprC_mk, hf, hp, hn, kindS, leafK]
      simp [h4]
      by_cases h5 : k = 4 ∨ k = 5 ∨ k = 6
      · by_cases h6 : fieldK l.l (itemS q.items.l var).names.l field = 1
        · rcases h5 with h5 | h5 | h5 <;> simp [h5, itemC, queryC, exprC_mk, hf, hp, hn, h6, kindS, leafK]
        · rcases h5 with h5 | h5 | h5 <;> simp [h5, itemC, queryC, exprC_mk, hf, hp, hn, h6, kindS, leafK]
      · have h4' : k ≠ 4 := fun h => h5 (.inl h)
        have h5' : k ≠ 5 := fun h => h5 (.inr (.inl h))
        have h6' : k ≠ 6 := fun h => h5 (.inr (.inr h))
        simp [h1, h3, h4, h7, h8, h4', h5', h6', itemC, queryC, exprC_mk, hf, hp, hn, kindS, leafK]

end Go.Proofs.YtnpoicmaiieanaaGreatDoor.Tz
