/-
The walks of right items of the references. Conditions: none.
-/
import Derived.Test.YtnkbdcaiepecdaaGreatTW9
namespace Go.Proofs.YtnkbdcaiepecdaaGreat.Tz
open Go.Aug Go.Aug.Api
set_option maxRecDepth 100000

/-- Is a name one of those ahead? -/
theorem rightItem_in (x : TItem) (first : Bool) (pre : List ByteArray) (s : ByteArray) (suf : List ByteArray) (hl : x.names.l = pre ++ s :: suf) (H : Heap) (Q : PostX)
    (h1 : (pre.any fun p => decide (p = s)) = false → ∀ E, E 1 = bD first → E 2 = .rf H.next 0 → E 5 = i64D pre.length → Q (.exit 2) E ((low0 H).add (.cells (itemC x))))
    (h2 : (pre.any fun p => decide (p = s)) = true → ∀ E, E 4 = bD false → Q .ret E ((low0 H).add (.cells (itemC x)))) (E : Fr) (e1 : E 1 = bD first) (e2 : E 2 = .rf H.next 0) (e5 : E 5 = i64D pre.length) (e6 : E 6 = i64D 0) :
    LR (WR 81 tab none F_auguryref08_rightItem.l12) E ((low0 H).add (.cells (itemC x))) Q := by
  refine LR_rule (WR_mono _) (fun j E H' => H' = (low0 H).add (.cells (itemC x)) ∧ ∃ p1 p2, pre = p1 ++ p2 ∧ j = p2.length ∧ E 1 = bD first ∧ E 2 = .rf H.next 0 ∧ E 5 = i64D pre.length ∧ E 6 = i64D p1.length ∧ (p1.any fun p => decide (p = s)) = false) ?_ (j := pre.length) ⟨rfl, [], pre, rfl, rfl, e1, e2, e5, e6, rfl⟩
  rintro j E H' ⟨rfl, p1, p2, hp, rfl, e1, e2, e5, e6, hn⟩
  have hok := x.names.ok
  cases p2 with
  | nil =>
    simp at hp
    subst hp
    simp [itemC, Sl.enc, e5, e6]
    simp [itemC, Sl.enc] at h1
    exact h1 (by simpa using hn) _ (by simp [e1]) (by simp [e2]) (by simp [e5])
  | cons p p2 =>
    have hlt : p1.length < pre.length := by rw [hp]; simp
    have hlt' : ((p1.length : Int) < (pre.length : Int)) = True := by simp; omega
    have hw := wrap_more (a := p1.length) (n := x.names.l.length) (by rw [hl, hp]; simp) hok
    have ea := elem_at strC_len x.names.rep x.names.l .i64 p1.length p (by rw [hl, hp]; simp)
    have eb := elem_at strC_len x.names.rep x.names.l .i64 pre.length s (by rw [hl]; simp)
    simp [itemC, Sl.enc, e2, e5, e6, hlt', ea, eb]
    simp [strC]
    refine gK_of (fun h => ?_) (fun h => ?_)
    · simp
      simp [-List.any_eq_true, itemC, Sl.enc] at h2
      simp at h
      exact h2 (by rw [List.any_eq_true]; exact ⟨p, by rw [hp]; simp, by simp [h]⟩) _ (by simp)
    · simp [e1, e2, e5, e6, hw]
      exact ⟨p2.length, by omega, p1 ++ [p], p2, by simp [hp], rfl, by simp, fun y hy => by
        rcases List.mem_append.1 hy with hy | hy
        · have := List.any_eq_false.1 hn y hy; simpa using this
        · simp at hy; subst hy; simpa using h⟩

theorem ref08_rightItem_run (x : TItem) (first : Bool) (H : Heap) : Run tab (.fn n_auguryref08_rightItem) [.agg (itemC x), bD first] H (bD (rightItem x first)) H := by
  refine cK.run (cK_fn o_auguryref08_rightItem t_auguryref08_rightItem (Nat.le_of_ble_eq_true rfl) (by decide) ?_)
  have nV := fun H => (ref08_Name_run x.var x.okV H).cK
  have bad : (nameS x.var = false ∨ x.names.l.length < 1 ∨ 3 < x.names.l.length ∨ x.mode < 1 ∨ 3 < x.mode) → rightItem x first = false := fun h => by unfold rightItem; rw [if_pos h]
  by_cases c1 : nameS x.var = false
  · rw [bad (.inl c1)]; simp [itemC, Sl.enc, nV, c1]
  simp at c1
  by_cases c2 : (x.names.l.length : Int) < 1
  · rw [bad (.inr (.inl (by omega)))]; simp [itemC, Sl.enc, nV, c1, c2]
  by_cases c3 : 3 < (x.names.l.length : Int)
  · rw [bad (.inr (.inr (.inl (by omega))))]; simp [itemC, Sl.enc, nV, c1, c2, c3]
  by_cases c4 : x.mode < 1
  · rw [bad (.inr (.inr (.inr (.inl c4))))]; simp [itemC, Sl.enc, nV, c1, c2, c3, c4]
  by_cases c5 : 3 < x.mode
  · rw [bad (.inr (.inr (.inr (.inr c5))))]; simp [itemC, Sl.enc, nV, c1, c2, c3, c4, c5]
  have hbad : ¬ (nameS x.var = false ∨ x.names.l.length < 1 ∨ 3 < x.names.l.length ∨ x.mode < 1 ∨ 3 < x.mode) := fun h => by
    rcases h with h | h | h | h | h
    · rw [c1] at h; cases h
    all_goals omega
  have stop : namesOk [] x.names.l = false → rightItem x first = false := fun h => by unfold rightItem; rw [if_neg hbad, if_pos h]
  simp [itemC, Sl.enc, nV, c1, c2, c3, c4, c5]
  have hin := rightItem_in x first
  simp only [itemC, Sl.enc] at hin
  refine LR_rule (WR_mono _) (fun j E H' => H' = (low0 H).add (.cells (itemC x)) ∧ ∃ p1 p2, x.names.l = p1 ++ p2 ∧ j = p2.length ∧ E 1 = bD first ∧ E 2 = .rf H.next 0 ∧ E 5 = i64D p1.length ∧ namesOk [] x.names.l = namesOk p1 p2) ?_ (j := x.names.l.length) ⟨by simp [itemC, Sl.enc], [], x.names.l, rfl, rfl, by simp, by simp, by simp, rfl⟩
  rintro j E H' ⟨rfl, p1, p2, hp, rfl, e1, e2, e5, hn⟩
  have hok := x.names.ok
  cases p2 with
  | nil =>
    simp at hp
    have hr : rightItem x first = (if first = true ∧ (x.not = true ∨ x.mode = 3) then false else !x.not || decide (x.mode = 1)) := by
      unfold rightItem
      rw [if_neg hbad, if_neg (by rw [hn]; simp [namesOk])]
    rw [hr]
    cases hx : x.not <;> cases first <;> simp [itemC, Sl.enc, e1, e2, e5, hx, hp]
    by_cases h3 : x.mode = 3 <;> simp [h3, e2]
  | cons s p2 =>
    have hlt : p1.length < x.names.l.length := by rw [hp]; simp
    have hlt' : ((p1.length : Int) < (x.names.l.length : Int)) = True := by simp; omega
    have hw := wrap_more hlt hok
    have ea := elem_at strC_len x.names.rep x.names.l .i64 p1.length s (by rw [hp]; simp)
    have nS := fun H => (ref08_Name_run s (x.okN s (by rw [hp]; simp)) H).cK
    simp [itemC, Sl.enc, e2, e5, hlt', ea]
    simp [strC, nS]
    refine gK_of (fun h => ?_) (fun h => ?_)
    · simp
      exact stop (by rw [hn]; simp at h; simp [namesOk, h])
    · simp at h
      simp [e5]
      refine hin p1 s p2 hp H _ (fun ha E e1 e2 e5 => ?_) (fun ha E e4 => ?_) _ (by simp [e1]) (by simp [e2]) (by simp [e5]) (by simp)
      · simp [e1, e2, e5, hw]
        refine ⟨p2.length, by omega, p1 ++ [s], p2, by simp [hp], rfl, by simp, ?_⟩
        rw [hn]
        simp only [namesOk, h, ha]
        simp
      · simp [e4]
        exact stop (by rw [hn]; simp only [namesOk, ha]; simp)

end Go.Proofs.YtnkbdcaiepecdaaGreat.Tz
