/-
The walk of right queries of the references. Conditions: none.
-/
import Derived.Test.YtnkbdcaiepecdaaGreatTWb
namespace Go.Proofs.YtnkbdcaiepecdaaGreat.Tz
open Go.Aug Go.Aug.Api
set_option maxRecDepth 100000

/-- Is a variable one of those ahead? -/
theorem Right_in (q : TQuery) (pre : List TItem) (x : TItem) (suf : List TItem) (hl : q.items.l = pre ++ x :: suf) (H : Heap) (Q : PostX)
    (h1 : (pre.any fun p => decide (p.var = x.var)) = false → ∀ E, E 1 = .rf H.next 0 → E 3 = i64D pre.length → Q (.exit 2) E ((low0 H).add (.cells (queryC q))))
    (h2 : (pre.any fun p => decide (p.var = x.var)) = true → ∀ E, E 2 = bD false → Q .ret E ((low0 H).add (.cells (queryC q)))) (E : Fr) (e1 : E 1 = .rf H.next 0) (e3 : E 3 = i64D pre.length) (e4 : E 4 = i64D 0) :
    LR (WR 117 tab none F_auguryref08_Right.l12) E ((low0 H).add (.cells (queryC q))) Q := by
  refine LR_rule (WR_mono _) (fun j E H' => H' = (low0 H).add (.cells (queryC q)) ∧ ∃ p1 p2, pre = p1 ++ p2 ∧ j = p2.length ∧ E 1 = .rf H.next 0 ∧ E 3 = i64D pre.length ∧ E 4 = i64D p1.length ∧ (p1.any fun p => decide (p.var = x.var)) = false) ?_ (j := pre.length) ⟨rfl, [], pre, rfl, rfl, e1, e3, e4, rfl⟩
  rintro j E H' ⟨rfl, p1, p2, hp, rfl, e1, e3, e4, hn⟩
  have hok := q.items.ok
  cases p2 with
  | nil =>
    simp at hp
    subst hp
    simp [queryC, Sl.enc, e3, e4]
    simp [queryC, Sl.enc] at h1
    exact h1 (by simpa using hn) _ (by simp [e1]) (by simp [e3])
  | cons p p2 =>
    have hlt : p1.length < pre.length := by rw [hp]; simp
    have hlt' : ((p1.length : Int) < (pre.length : Int)) = True := by simp; omega
    have hw := wrap_more (a := p1.length) (n := q.items.l.length) (by rw [hl, hp]; simp) hok
    have ea := elem_at itemC_len q.items.rep q.items.l .i64 p1.length p (by rw [hl, hp]; simp)
    have eb := elem_at itemC_len q.items.rep q.items.l .i64 pre.length x (by rw [hl]; simp)
    simp [queryC, Sl.enc, e1, e3, e4, hlt', ea, eb]
    simp [itemC]
    refine gK_of (fun h => ?_) (fun h => ?_)
    · simp
      simp [-List.any_eq_true, queryC, Sl.enc] at h2
      simp at h
      exact h2 (by rw [List.any_eq_true]; exact ⟨p, by rw [hp]; simp, by simp [h]⟩) _ (by simp)
    · simp [e1, e3, e4, hw]
      exact ⟨p2.length, by omega, p1 ++ [p], p2, by simp [hp], rfl, by simp, fun y hy => by
        rcases List.mem_append.1 hy with hy | hy
        · have := List.any_eq_false.1 hn y hy; simpa using this
        · simp at hy; subst hy; simpa using h⟩

theorem Right_items (q : TQuery) (H : Heap) (Q : PostX)
    (h1 : itemsOk [] q.items.l = true → ∀ E, E 1 = .rf H.next 0 → Q (.exit 0) E ((low0 H).add (.cells (queryC q))))
    (h2 : itemsOk [] q.items.l = false → ∀ E, E 2 = bD false → Q .ret E ((low0 H).add (.cells (queryC q)))) (E : Fr) (e1 : E 1 = .rf H.next 0) (e3 : E 3 = i64D 0) :
    LR (WR 117 tab none F_auguryref08_Right.l14) E ((low0 H).add (.cells (queryC q))) Q := by
  have hin := Right_in q
  simp only [queryC, Sl.enc] at hin h1 h2 ⊢
  refine LR_rule (WR_mono _) (fun j E H' => H' = (low0 H).add (.cells (queryC q)) ∧ ∃ p1 p2, q.items.l = p1 ++ p2 ∧ j = p2.length ∧ E 1 = .rf H.next 0 ∧ E 3 = i64D p1.length ∧ itemsOk [] q.items.l = itemsOk p1 p2) ?_ (j := q.items.l.length) ⟨by simp [queryC, Sl.enc], [], q.items.l, rfl, rfl, e1, e3, rfl⟩
  rintro j E H' ⟨rfl, p1, p2, hp, rfl, e1, e3, hn⟩
  have hok := q.items.ok
  cases p2 with
  | nil =>
    simp at hp
    simp [queryC, Sl.enc, e1, e3, hp]
    rw [hp] at h1
    exact h1 (by rw [← hp, hn]; rfl) _ (by simp [e1])
  | cons x p2 =>
    have hlt : p1.length < q.items.l.length := by rw [hp]; simp
    have hlt' : ((p1.length : Int) < (q.items.l.length : Int)) = True := by simp; omega
    have hw := wrap_more hlt hok
    have ea := elem_at itemC_len q.items.rep q.items.l .i64 p1.length x (by rw [hp]; simp)
    have nS := fun b H => (ref08_rightItem_run x b H).cK
    have hemp : decide (p1 = []) = p1.isEmpty := by cases p1 <;> rfl
    simp [queryC, Sl.enc, e1, e3, hlt', ea, nS, load_elem _ _ _ _ (itemC_len x)]
    refine gK_of (fun h => ?_) (fun h => ?_)
    · simp at h
      rw [hemp] at h
      simp
      exact h2 (by rw [hn]; simp [itemsOk, h]) _ (by simp)
    · simp at h
      rw [hemp] at h
      simp [e3]
      refine hin p1 x p2 hp H _ (fun ha E e1 e3 => ?_) (fun ha E e2 => ?_) _ (by simp [e1]) (by simp [e3]) (by simp)
      · simp [e1, e3, hw]
        refine ⟨p2.length, by omega, p1 ++ [x], p2, by simp [hp], rfl, by simp, ?_⟩
        rw [hn]
        simp only [itemsOk, h, ha]
        simp
      · simp
        exact h2 (by rw [hn]; simp only [itemsOk, ha]; simp) _ e2

theorem Right_preds (q : TQuery) (H : Heap) (Q : PostX)
    (h1 : q.preds.l.all predOk = true → ∀ E H', E 1 = .rf H.next 0 → H'.get H.next = some (.cells (queryC q)) → H.next ≤ H'.low → H.next < H'.next → Q (.exit 4) E H')
    (h2 : q.preds.l.all predOk = false → ∀ E H', E 2 = bD false → H.next ≤ H'.low → H.next < H'.next → Q .ret E H') (E : Fr) (e1 : E 1 = .rf H.next 0) (e5 : E 5 = i64D 0) :
    LR (WR 117 tab none F_auguryref08_Right.l21) E ((low0 H).add (.cells (queryC q))) Q := by
  refine LR_rule (WR_mono _) (fun j E H' => ∃ p1 p2, q.preds.l = p1 ++ p2 ∧ j = p2.length ∧ E 1 = .rf H.next 0 ∧ E 5 = i64D p1.length ∧ p1.all predOk = true ∧ H'.get H.next = some (.cells (queryC q)) ∧ H.next ≤ H'.low ∧ H'.low ≤ H'.next ∧ H.next < H'.next) ?_ (j := q.preds.l.length) ⟨[], q.preds.l, rfl, rfl, e1, e5, rfl, by simp, by simp, by simp, by simp⟩
  rintro j E H' ⟨p1, p2, hp, rfl, e1, e5, hn, hg, hlo, hlw, hnx⟩
  have hok := q.preds.ok
  cases p2 with
  | nil =>
    simp at hp
    simp [hg, queryC, Sl.enc, e1, e5, hp]
    exact h1 (by rw [hp]; exact hn) _ _ (by simp [e1]) hg hlo hnx
  | cons x p2 =>
    have hlt : p1.length < q.preds.l.length := by rw [hp]; simp
    have hlt' : ((p1.length : Int) < (q.preds.l.length : Int)) = True := by simp; omega
    have hw := wrap_more hlt hok
    have ea := elem_at predC_len q.preds.rep q.preds.l .i64 p1.length x (by rw [hp]; simp)
    have nL := fun H => (ref08_RightExpr_run x.L x.okL 6 (by decide) H).cK
    have nR := fun H => (ref08_RightExpr_run x.R x.okR 6 (by decide) H).cK
    have hne : (H.next = H'.next) = False := by simp; omega
    have bad : predOk x = false → q.preds.l.all predOk = false := fun h => by rw [hp]; simp [h]
    simp [hg, queryC, Sl.enc, e1, e5, hlt', ea, load_elem _ _ _ _ (predC_len x), setAll_full, hlw]
    have stop : predOk x = false → ∀ (E' : Fr) (o : O), E' 2 = bD false → Q .ret E' (H'.add o) := fun h E' o e2 => h2 (bad h) _ _ e2 (by simpa using hlo) (by simp; omega)
    by_cases c1 : x.cmp < 1
    · simp [c1]
      exact stop (by simp [predOk]; omega) _ _ (by simp)
    by_cases c2 : 6 < x.cmp
    · simp [c1, c2]
      exact stop (by simp [predOk]; omega) _ _ (by simp)
    cases c3 : rightE 6 x.L
    · simp [c1, c2, nL, c3]
      exact stop (by simp [predOk, c3]) _ _ (by simp)
    cases c4 : rightE 6 x.R
    · simp [c1, c2, nL, c3, nR, c4]
      exact stop (by simp [predOk, c4]) _ _ (by simp)
    simp [c1, c2, nL, c3, nR, c4, e1, e5, hw]
    refine ⟨p2.length, by omega, p1 ++ [x], p2, by simp [hp], rfl, by simp, ?_, ?_, hlo, by omega, by omega⟩
    · have : predOk x = true := by simp [predOk, c3, c4]; omega
      intro y hy
      rcases List.mem_append.1 hy with hy | hy
      · exact List.all_eq_true.1 hn y hy
      · simp at hy; subst hy; exact this
    · simp [hne, hg]
      rfl

theorem ref08_Right_run (q : TQuery) (H : Heap) : Run tab (.fn n_auguryref08_Right) [.agg (queryC q)] H (bD (rightQ q)) H := by
  refine cK.run (cK_fn o_auguryref08_Right t_auguryref08_Right (Nat.le_of_ble_eq_true rfl) (by decide) ?_)
  have nB := fun H => (ref08_Name_run q.by_ q.okBy H).cK
  have bad : (q.items.l.length < 1 ∨ 6 < q.items.l.length ∨ 8 < q.preds.l.length) → rightQ q = false := fun h => by unfold rightQ; rw [if_pos h]
  by_cases c1 : (q.items.l.length : Int) < 1
  · rw [bad (.inl (by omega))]; simp [queryC, Sl.enc, c1]
  by_cases c2 : 6 < (q.items.l.length : Int)
  · rw [bad (.inr (.inl (by omega)))]; simp [queryC, Sl.enc, c1, c2]
  by_cases c3 : 8 < (q.preds.l.length : Int)
  · rw [bad (.inr (.inr (by omega)))]; simp [queryC, Sl.enc, c1, c2, c3]
  have hr : rightQ q = (itemsOk [] q.items.l && q.preds.l.all predOk && (decide (0 ≤ q.within) && decide (q.within ≤ maxNum) && (decide (q.by_ = emptyS) || nameS q.by_) && decide (1 ≤ q.pick) && decide (q.pick ≤ 3))) := by
    unfold rightQ
    rw [if_neg (by omega)]
  have hI := Right_items q
  have hP := Right_preds q
  simp only [queryC, Sl.enc] at hI hP
  simp [queryC, Sl.enc, c1, c2, c3]
  refine hI H _ (fun hi E e1 => ?_) (fun hi E e2 => ?_) _ (by simp) (by simp)
  · simp
    refine hP H _ (fun hp E H' e1 hg hlo hnx => ?_) (fun hp E H' e2 hlo hnx => ?_) _ (by simp [e1]) (by simp)
    · rw [hr, hi, hp]
      by_cases d1 : 0 ≤ q.within
      · by_cases d2 : q.within ≤ 1099511627776
        · by_cases d3 : q.by_ = ⟨#[]⟩
          · by_cases d4 : 1 ≤ q.pick <;> simp [hlo, e1, hg, emptyS, maxNum, d1, d2, d3, d4]
          · by_cases d5 : nameS q.by_ = true
            · by_cases d4 : 1 ≤ q.pick <;> simp [hlo, e1, hg, nB, emptyS, maxNum, d1, d2, d3, d4, d5]
            · simp at d5
              simp [hlo, e1, hg, nB, emptyS, maxNum, d1, d2, d3, d5]
        · simp [hlo, e1, hg, emptyS, maxNum, d1, d2]
      · simp [hlo, e1, hg, emptyS, maxNum, d1]
    · simp [-Bool.and_eq_true, hlo, e2, hr, hp]
  · simp [e2, hr, hi]

end Go.Proofs.YtnkbdcaiepecdaaGreat.Tz
