/-
The walks of right expressions of the references. Conditions: none.
-/
import Derived.Test.YtnkbdcaiepecdaaGreatTWa
namespace Go.Proofs.YtnkbdcaiepecdaaGreat.Tz
open Go.Aug Go.Aug.Api
set_option maxRecDepth 100000

set_option maxHeartbeats 4000000 in
theorem ref08_RightExpr_run : ∀ (x : TExpr) (_hx : okE x) (most : Int) (_hm : -1000 ≤ most ∧ most ≤ 1000) (H : Heap), Run tab (.fn n_auguryref08_RightExpr) [.agg (exprC x), i64D most] H (bD (rightE most x)) H
  | .mk k v var f rep kids, hx, most, hm, H => by
    have ih : 1 ≤ most → ∀ x ∈ kids, ∀ (H : Heap), Run tab (.fn n_auguryref08_RightExpr) [.agg (exprC x), i64D (most - 1)] H (bD (rightE (most - 1) x)) H := fun h x hmem H => ref08_RightExpr_run x (okEs_mem hx.2.1 hmem) (most - 1) (by omega) H
    have hvar : var.size ≤ big := hx.2.2.1
    have hf : f.size ≤ big := hx.2.2.2.1
    have hs : v.s.size ≤ big := hx.2.2.2.2
    have nV := fun H => (ref08_Name_run var hvar H).cK
    have nF := fun H => (ref08_Name_run f hf H).cK
    by_cases hleaf : ¬ most < 1 ∧ (¬ k = 2 ∧ ¬ k = 3 ∧ ¬ k = 4 ∧ ¬ k = 5 ∧ ¬ k = 6 ∧ ¬ k = 7 ∧ ¬ k = 8) ∧ kids = [] ∧ var = ⟨#[]⟩ ∧ f = ⟨#[]⟩
    · obtain ⟨a1, ⟨a2, a3, a4, a5, a6, a7, a8⟩, rfl, rfl, rfl⟩ := hleaf
      exact RightExpr_leaf k v rep hs most a1 a2 a3 a4 a5 a6 a7 a8 H
    refine cK.run (cK_fn o_auguryref08_RightExpr t_auguryref08_RightExpr (Nat.le_of_ble_eq_true rfl) (by decide) ?_)
    have sub1 : 1 ≤ most → IntKind.i64.wrap (most - 1) = most - 1 := fun h => wrap64 (by omega) (by omega)
    by_cases hf4 : k = 2 ∨ k = 4 ∨ k = 5 ∨ k = 6
    · have hn7 : ¬ k = 7 := by omega
      have hn8 : ¬ k = 8 := by omega
      have hn1 : ¬ k = 1 := by omega
      by_cases hm1 : most < 1
      · rcases hf4 with rfl | rfl | rfl | rfl <;> simp [exprC_mk, hm1, rightE]
      · by_cases hkids : kids = []
        · subst hkids
          by_cases hz : v = zVal
          · subst hz
            rcases hf4 with rfl | rfl | rfl | rfl <;> simp [exprC_mk, gK_not, hm1, rightE, eq_val, zVal, nV] <;> (refine gK_of (fun h => ?_) (fun h => ?_) <;> simp [h, nF])
          · have hzb : (decide (v.kind = 0) && decide (v.n = 0) && decide (v.s = ⟨#[]⟩)) = false := by
              cases v
              simp [zVal] at hz ⊢
              grind
            rcases hf4 with rfl | rfl | rfl | rfl <;> simp [exprC_mk, gK_not, hm1, rightE, eq_val, hzb, hz]
        · have hk0 : (0 < kids.length) = True := by simp; exact List.length_pos_iff.2 hkids
          rcases hf4 with rfl | rfl | rfl | rfl <;> simp [exprC_mk, hm1, rightE, hk0, hkids]
    · by_cases hm1 : most < 1
      · by_cases h7 : k = 7
        · subst h7; simp [exprC_mk, hm1, rightE]
        · by_cases h8 : k = 8
          · subst h8; simp [exprC_mk, hm1, rightE]
          · have h2 : ¬ k = 2 := by omega
            have h4 : ¬ k = 4 := by omega
            have h5 : ¬ k = 5 := by omega
            have h6 : ¬ k = 6 := by omega
            simp [exprC_mk, hm1, rightE, h7, h8, h2, h4, h5, h6]
      · by_cases h3 : k = 3
        · subst h3
          by_cases hkids : kids = []
          · subst hkids
            by_cases hz : v = zVal
            · subst hz
              by_cases hfe : f = emptyS
              · subst hfe
                simp [exprC_mk, gK_not, hm1, rightE, eq_val, zVal, emptyS, nV] <;> (refine gK_of (fun h => ?_) (fun h => ?_) <;> simp [h])
              · have hfe' : ¬ f = ⟨#[]⟩ := hfe
                simp [exprC_mk, gK_not, hm1, rightE, eq_val, zVal, emptyS, nV, hfe'] <;> (refine gK_of (fun h => ?_) (fun h => ?_) <;> simp [h, hfe'])
            · have hzb : (decide (v.kind = 0) && decide (v.n = 0) && decide (v.s = ⟨#[]⟩)) = false := by
                cases v
                simp [zVal] at hz ⊢
                grind
              simp [exprC_mk, gK_not, hm1, rightE, eq_val, hzb, hz]
          · have hk0 : (0 < kids.length) = True := by simp; exact List.length_pos_iff.2 hkids
            simp [exprC_mk, hm1, rightE, hk0, hkids]
        · by_cases h78 : k = 7 ∨ k = 8
          · by_cases hz : v = zVal
            · subst hz
              by_cases hve : var = emptyS
              · subst hve
                by_cases hfe : f = emptyS
                · subst hfe
                  match kids with
                  | [] => rcases h78 with rfl | rfl <;> simp [exprC_mk, gK_not, hm1, rightE, rightTwo, eq_val, zVal, emptyS]
                  | [a] => rcases h78 with rfl | rfl <;> simp [exprC_mk, gK_not, hm1, rightE, rightTwo, eq_val, zVal, emptyS]
                  | a :: b :: c :: l =>
                    have hl3 : decide ((l.length : Int) + 3 = 2) = false := by simp; omega
                    rcases h78 with rfl | rfl <;> simp [exprC_mk, gK_not, hm1, rightE, rightTwo, eq_val, zVal, emptyS, hl3]
                  | [a, b] =>
                    have nA := fun H => (ih (by omega) a (by simp) H).cK
                    have nB := fun H => (ih (by omega) b (by simp) H).cK
                    have hs1 := sub1 (by omega)
                    have e0 := elem_at exprC_len rep [a, b] .i64 0 a rfl
                    have e1 := elem_at exprC_len rep [a, b] .i64 1 b rfl
                    simp at e0 e1
                    rcases h78 with rfl | rfl <;> simp [exprC_mk, gK_not, hm1, rightE, rightTwo, eq_val, zVal, emptyS, hs1, nA, e0, load_elem _ _ _ _ (exprC_len _)] <;> (refine gK_of (fun h => ?_) (fun h => ?_) <;> simp [h, hs1, nB, e1])
                · have hfe' : ¬ f = ⟨#[]⟩ := hfe
                  rcases h78 with rfl | rfl <;> simp [exprC_mk, gK_not, hm1, rightE, eq_val, zVal, emptyS, hfe']
              · have hve' : ¬ var = ⟨#[]⟩ := hve
                rcases h78 with rfl | rfl <;> simp [exprC_mk, gK_not, hm1, rightE, eq_val, zVal, emptyS, hve']
            · have hzb : (decide (v.kind = 0) && decide (v.n = 0) && decide (v.s = ⟨#[]⟩)) = false := by
                cases v
                simp [zVal] at hz ⊢
                grind
              rcases h78 with rfl | rfl <;> simp [exprC_mk, gK_not, hm1, rightE, eq_val, hzb, hz]
          · have h2 : ¬ k = 2 := by omega
            have h4 : ¬ k = 4 := by omega
            have h5 : ¬ k = 5 := by omega
            have h6 : ¬ k = 6 := by omega
            have h7 : ¬ k = 7 := by omega
            have h8 : ¬ k = 8 := by omega
            by_cases hkids : kids = []
            · subst hkids
              by_cases hve : var = ⟨#[]⟩
              · subst hve
                have hfe : ¬ f = ⟨#[]⟩ := fun hfe => hleaf ⟨hm1, ⟨h2, h3, h4, h5, h6, h7, h8⟩, rfl, rfl, hfe⟩
                by_cases hz : v = zVal
                · subst hz
                  by_cases h1 : k = 1
                  · subst h1; simp [exprC_mk, hm1, rightE, emptyS, zVal, hfe]
                  · simp [exprC_mk, gK_not, hm1, rightE, eq_val, emptyS, hfe, h1, h2, h3, h4, h5, h6, h7, h8, zVal]
                · have hzb : (decide (v.kind = 0) && decide (v.n = 0) && decide (v.s = ⟨#[]⟩)) = false := by
                    cases v
                    simp [zVal] at hz ⊢
                    grind
                  by_cases h1 : k = 1
                  · subst h1; simp [exprC_mk, hm1, rightE, emptyS, hfe]
                  · simp [exprC_mk, gK_not, hm1, rightE, eq_val, h1, h2, h4, h5, h6, h7, h8, hz, hzb]
              · by_cases hz : v = zVal
                · subst hz
                  by_cases h1 : k = 1
                  · subst h1; simp [exprC_mk, hm1, rightE, emptyS, zVal, hve]
                  · simp [exprC_mk, gK_not, hm1, rightE, eq_val, emptyS, hve, h1, h2, h3, h4, h5, h6, h7, h8, zVal]
                · have hzb : (decide (v.kind = 0) && decide (v.n = 0) && decide (v.s = ⟨#[]⟩)) = false := by
                    cases v
                    simp [zVal] at hz ⊢
                    grind
                  by_cases h1 : k = 1
                  · subst h1; simp [exprC_mk, hm1, rightE, emptyS, hve]
                  · simp [exprC_mk, gK_not, hm1, rightE, eq_val, h1, h2, h4, h5, h6, h7, h8, hz, hzb]
            · have hk0 : (0 < kids.length) = True := by simp; exact List.length_pos_iff.2 hkids
              simp [exprC_mk, hm1, rightE, hk0, hkids, h7, h8, h2, h4, h5, h6]

end Go.Proofs.YtnkbdcaiepecdaaGreat.Tz
