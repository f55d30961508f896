/-
The walks of right expressions of the references: values. Conditions: none.
-/
import Derived.Test.YtnkbdcaiepecdaaGreatTW8
namespace Go.Proofs.YtnkbdcaiepecdaaGreat.Tz
open Go.Aug Go.Aug.Api
set_option maxRecDepth 100000

/-- The bytes of a text, one by one. -/
theorem RightExpr_bytes (x : TExpr) (hs : x.val.s.size ≤ big) (H : Heap) (Q : PostX) (h1 : plainL x.val.s.data.toList = true → ∀ E, E 2 = .rf H.next 0 → Q (.exit 0) E ((low0 H).add (.cells (exprC x))))
    (h2 : plainL x.val.s.data.toList = false → ∀ E, E 4 = bD false → Q .ret E ((low0 H).add (.cells (exprC x)))) (E : Fr) (e2 : E 2 = .rf H.next 0) (e7 : E 7 = i64D 0) :
    LR (WR 146 tab none F_auguryref08_RightExpr.l18) E ((low0 H).add (.cells (exprC x))) Q := by
  have hpl : ∀ a b, plainL (a ++ b) = (plainL a && plainL b) := by
    intro a b
    induction a with
    | nil => simp [plainL]
    | cons c a ih => simp [plainL, ih, Bool.and_assoc]
  refine LR_rule (WR_mono _) (fun j E H' => H' = (low0 H).add (.cells (exprC x)) ∧ ∃ pre suf, x.val.s.data.toList = pre ++ suf ∧ j = suf.length ∧ E 2 = .rf H.next 0 ∧ E 7 = i64D pre.length ∧ plainL pre = true) ?_ (j := x.val.s.data.toList.length) ⟨rfl, [], x.val.s.data.toList, by simp, rfl, e2, by simp [e7], rfl⟩
  rintro j E H' ⟨rfl, pre, suf, hl, rfl, e2, e7, hp⟩
  have hsz := size_list x.val.s
  have hE : exprC x = [i64D x.kind, i64D x.val.kind, i64D x.val.n, strD x.val.s, strD x.var, strD x.field, slD x.rep x.kids.length (x.kids.flatMap exprC)] := exprC_eq x
  rw [hE] at h1 h2 ⊢
  cases suf with
  | nil =>
    simp at hl
    have hlt' : ((pre.length : Int) < (x.val.s.size : Int)) = False := by rw [hsz, hl]; simp
    simp [e2, e7, hlt']
    exact h1 (by rw [hl]; exact hp) _ (by simp [e2])
  | cons b suf =>
    have hlt : pre.length < x.val.s.size := by rw [hsz, hl]; simp
    have hlt' : ((pre.length : Int) < (x.val.s.size : Int)) = True := by simp; omega
    have hw := wrap_more hlt hs
    have hb : plainL x.val.s.data.toList = (!(decide ((b.toNat : Int) < 32) || decide (126 < (b.toNat : Int)) || decide ((b.toNat : Int) = 39)) && plainL suf) := by rw [hl, hpl, hp]; simp [plainL]
    simp [e2, e7, hlt', idxS_zip x.val.s pre b suf hl]
    refine gK_of (fun c1 => ?_) (fun c1 => ?_)
    · have c1' : decide ((b.toNat : Int) < 32) = false := by simpa using c1
      simp [c1', e2, e7, idxS_zip x.val.s pre b suf hl]
      refine gK_of (fun c2 => ?_) (fun c2 => ?_)
      · have c2' : decide (126 < (b.toNat : Int)) = false := by simpa using c2
        simp [c2', e2, e7, idxS_zip x.val.s pre b suf hl]
        refine gK_of (fun c3 => ?_) (fun c3 => ?_)
        · simp
          exact h2 (by rw [hb, c1', c2', c3]; rfl) _ (by simp)
        · simp [e2, e7, hw]
          exact ⟨suf.length, by omega, pre ++ [b], suf, by simp [hl], rfl, by simp, by rw [hpl, hp]; simp only [plainL, c1', c2', c3]; rfl⟩
      · have c2' : decide (126 < (b.toNat : Int)) = true := by simpa using c2
        simp [c2']
        exact h2 (by rw [hb, c1', c2']; rfl) _ (by simp)
    · have c1' : decide ((b.toNat : Int) < 32) = true := by simpa using c1
      simp [c1']
      exact h2 (by rw [hb, c1']; rfl) _ (by simp)

/-- A value, or what is none, with nothing beside it. -/
theorem RightExpr_leaf (k : Int) (v : TVal) (rep : Option (Option Nat)) (hs : v.s.size ≤ big) (most : Int) (hm1 : ¬ most < 1) (h2 : ¬ k = 2) (h3 : ¬ k = 3) (h4 : ¬ k = 4) (h5 : ¬ k = 5) (h6 : ¬ k = 6) (h7 : ¬ k = 7) (h8 : ¬ k = 8) (H : Heap) :
    Run tab (.fn n_auguryref08_RightExpr) [.agg (exprC (.mk k v ⟨#[]⟩ ⟨#[]⟩ rep [])), i64D most] H (bD (rightE most (.mk k v ⟨#[]⟩ ⟨#[]⟩ rep []))) H := by
  refine cK.run (cK_fn o_auguryref08_RightExpr t_auguryref08_RightExpr (Nat.le_of_ble_eq_true rfl) (by decide) ?_)
  have hV := fun H1 => (ref04_Right_run v.kind v.n v.s H1).cK
  have e0 : rightE most (.mk k v ⟨#[]⟩ ⟨#[]⟩ rep []) = (if k = 1 then plainL v.s.data.toList && rightV v else false) := by
    by_cases h1 : k = 1
    · subst h1; simp [rightE, hm1, emptyS]
    · by_cases hz : v = zVal <;> simp [rightE, hm1, emptyS, h1, h2, h3, h4, h5, h6, h7, h8, hz]
  have hB := fun Q => RightExpr_bytes (.mk k v ⟨#[]⟩ ⟨#[]⟩ rep []) hs H Q
  simp only [exprC_mk, TExpr.val] at hB
  by_cases h1 : k = 1
  · subst h1
    simp [exprC_mk, hm1]
    simp at hB
    refine hB _ (fun hp E e2 => ?_) (fun hp E e4 => ?_) _ (by simp) (by simp)
    · simp [e2, hV, e0, hp]
    · simp [e4, e0, hp]
  · by_cases hz : v = zVal
    · subst hz
      simp [exprC_mk, gK_not, hm1, eq_val, h1, h2, h3, h4, h5, h6, h7, h8, zVal]
      simp [zVal] at hB
      refine hB _ (fun hp E e2 => ?_) (fun hp E e4 => ?_) _ (by simp) (by simp)
      · rw [zVal] at e0
        simp [e2, e0, h1]
      · rw [zVal] at e0
        simp [e4, e0, h1]
    · have hzb : (decide (v.kind = 0) && decide (v.n = 0) && decide (v.s = ⟨#[]⟩)) = false := by
        cases v
        simp [zVal] at hz ⊢
        grind
      simp [exprC_mk, gK_not, hm1, eq_val, h1, h2, h4, h5, h6, h7, h8, hzb]
      rw [e0]; simp [h1]

end Go.Proofs.YtnkbdcaiepecdaaGreat.Tz
