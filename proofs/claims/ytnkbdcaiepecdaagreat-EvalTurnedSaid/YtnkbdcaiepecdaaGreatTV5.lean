/-
EvalTurned in plain terms: comparisons turned about, and their opposites. Conditions: none.
-/
import Derived.Test.YtnkbdcaiepecdaaGreatTS2
namespace Go.Aug.Api
open Go.Aug

def turnI (op : Int) : Int := if op = 1 then 1 else if op = 2 then 2 else if op = 3 then 5 else if op = 4 then 6 else if op = 5 then 3 else 4
def notI (op : Int) : Int := if op = 1 then 2 else if op = 2 then 1 else if op = 3 then 6 else if op = 4 then 5 else if op = 5 then 4 else 3

theorem six {op : Int} (h1 : 1 ≤ op) (h6 : op ≤ 6) : op = 1 ∨ op = 2 ∨ op = 3 ∨ op = 4 ∨ op = 5 ∨ op = 6 := by omega

theorem cmpI_turn (a b : Int) : cmpI b a = - cmpI a b := by unfold cmpI; grind
theorem cmpV_turn (a b : TVal) (h : a.kind = b.kind) : cmpV b a = - cmpV a b := by
  unfold cmpV
  rw [h]
  split
  · exact cmp_turn _ _
  · exact cmpI_turn _ _

theorem sign_turn {op : Int} (h1 : 1 ≤ op) (h6 : op ≤ 6) (c : Int) : signOf (turnI op) (-c) = signOf op c := by
  rcases six h1 h6 with rfl | rfl | rfl | rfl | rfl | rfl <;> simp [turnI, signOf]
theorem sign_not {op : Int} (h1 : 1 ≤ op) (h6 : op ≤ 6) (c : Int) : signOf (notI op) c = !signOf op c := by
  have h3 : c < 0 ∨ c = 0 ∨ 0 < c := by omega
  rcases six h1 h6 with rfl | rfl | rfl | rfl | rfl | rfl <;> simp [notI, signOf] <;> grind

theorem compare_turn {op : Int} (h1 : 1 ≤ op) (h6 : op ≤ 6) (a b : TVal) : compareV (turnI op) b a = compareV op a b := by
  have t1 : ¬ turnI op < 1 := by unfold turnI; grind
  have t6 : ¬ 6 < turnI op := by unfold turnI; grind
  have t2 : 2 < turnI op ↔ 2 < op := by unfold turnI; grind
  unfold compareV
  cases ha : rightV a
  · simp
  cases hb : rightV b
  · simp
  have hA : ¬ (true = false ∨ true = false ∨ turnI op < 1 ∨ 6 < turnI op) := by simp only [Bool.true_eq_false, false_or]; omega
  have hB : ¬ (true = false ∨ true = false ∨ op < 1 ∨ 6 < op) := by simp only [Bool.true_eq_false, false_or]; omega
  rw [if_neg hA, if_neg hB]
  by_cases hk : a.kind = b.kind
  · have hC : ¬ (b.kind ≠ a.kind) := fun h => h hk.symm
    have hD : ¬ (a.kind ≠ b.kind) := fun h => h hk
    rw [if_neg hC, if_neg hD, cmpV_turn a b hk, sign_turn h1 h6]
    simp only [hk, t2]
  · have hC : b.kind ≠ a.kind := fun h => hk h.symm
    rw [if_pos hC, if_pos hk]

theorem holds_turn {op : Int} (h1 : 1 ≤ op) (h6 : op ≤ 6) (s : TScope) (L R : TExpr) : holdsS s (turnI op) R L = holdsS s op L R := by
  unfold holdsS
  rw [compare_turn h1 h6]
  by_cases c1 : (valueS s L).2 = 12 <;> by_cases c2 : (valueS s R).2 = 12 <;> simp [c1, c2]
  by_cases c3 : (valueS s L).2 = 0 <;> by_cases c4 : (valueS s R).2 = 0 <;> simp [c3, c4]

theorem holds_not {op : Int} (h1 : 1 ≤ op) (h6 : op ≤ 6) (s : TScope) (L R : TExpr) (e : (valueS s L).2 = 0) (f : (valueS s R).2 = 0) (hk : (valueS s L).1.kind = (valueS s R).1.kind) (h3 : (valueS s L).1.kind ≠ 3)
    (ra : rightV (valueS s L).1 = true) (rb : rightV (valueS s R).1 = true) : holdsS s (notI op) L R = !holdsS s op L R := by
  have t1 : ¬ notI op < 1 := by unfold notI; grind
  have t6 : ¬ 6 < notI op := by unfold notI; grind
  unfold holdsS compareV
  rw [e, f, ra, rb]
  simp [hk, t1, t6, sign_not h1 h6, show ¬ op < 1 by omega, show ¬ 6 < op by omega]
  rw [hk] at h3
  simp [h3]

end Go.Aug.Api
