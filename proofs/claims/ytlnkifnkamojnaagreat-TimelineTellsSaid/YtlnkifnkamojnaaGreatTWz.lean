/-
The walks of what says whether expressions, predicates and queries are the same; and how deep an expression is. Conditions: none.
-/
import Derived.Test.YtlnkifnkamojnaaGreatGT
import Derived.Test.YtlnkifnkamojnaaGreatTSb
namespace Go.Proofs.YtlnkifnkamojnaaGreat.Tz
open Go.Aug Go.Aug.Api
set_option maxRecDepth 100000
theorem sameXs_split : ∀ (pre pre' : List TExpr) (a b : TExpr) (suf suf' : List TExpr), pre.length = pre'.length → sameXs (pre ++ a :: suf) (pre' ++ b :: suf') = (sameXs pre pre' && (sameX a b && sameXs suf suf'))
  | [], [], a, b, suf, suf', _ => by simp [sameXs]
  | x :: pre, y :: pre', a, b, suf, suf', h => by
    have := sameXs_split pre pre' a b suf suf' (by simpa using h)
    simp only [List.cons_append, sameXs, this, Bool.and_assoc]
  | [], _ :: _, _, _, _, _, h => by simp at h
  | _ :: _, [], _, _, _, _, h => by simp at h
theorem SameExpr_run : ∀ (x y : TExpr) (_hx : okE x) (_hy : okE y) (H : Heap), Run tab (.fn n_q21) [.agg (exprC x), .agg (exprC y)] H (bD (sameX x y)) H
  | .mk k v var f rep kids, .mk k' v' var' f' rep' kids', hx, hy, H => by
    have ih : ∀ x ∈ kids, ∀ y ∈ kids', ∀ (H : Heap), Run tab (.fn n_q21) [.agg (exprC x), .agg (exprC y)] H (bD (sameX x y)) H := fun x hm y hm' H => SameExpr_run x y (okEs_mem hx.2.1 hm) (okEs_mem hy.2.1 hm') H
    have hok : kids.length ≤ big := hx.1
    refine cK.run (cK_fn o_q21 t_q21 (Nat.le_of_ble_eq_true rfl) (by decide) ?_)
    rw [exprC_mk, exprC_mk]
    have hv : (decide (v.kind = v'.kind) && decide (v.n = v'.n) && decide (v.s = v'.s)) = decide (v = v') := by
      obtain ⟨a, b, c⟩ := v
      obtain ⟨a', b', c'⟩ := v'
      simp
      grind
    simp only [sameX]
    by_cases c1 : k = k'
    · subst c1
      generalize hZ : decide (v = v') = Z at hv ⊢
      clear hZ
      cases Z with
      | false => simp [eq_val, hv]
      | true =>
        by_cases c3 : var = var'
        · subst c3
          by_cases c4 : f = f'
          · subst c4
            by_cases c5 : kids.length = kids'.length
            · simp [eq_val, hv, c5]
              refine LR_rule (WR_mono _) (fun j E H' => ∃ pre suf pre' suf', kids = pre ++ suf ∧ kids' = pre' ++ suf' ∧ pre.length = pre'.length ∧ j = suf.length ∧ E 2 = .rf H.next 0 ∧ E 3 = .rf (H.next + 1) 0 ∧ E 5 = i64D pre.length ∧ sameXs pre pre' = true ∧
                H' = ((low0 H).add (.cells [i64D k, i64D v.kind, i64D v.n, strD v.s, strD var, strD f, slD rep kids.length (kids.flatMap exprC)])).add (.cells [i64D k, i64D v'.kind, i64D v'.n, strD v'.s, strD var, strD f, slD rep' kids'.length (kids'.flatMap exprC)])) ?_ (j := kids.length) ⟨[], kids, [], kids', rfl, rfl, rfl, rfl, by simp, by simp, by simp, rfl, by simp [c5]⟩
              rintro j E H' ⟨pre, suf, pre', suf', h0, h0', hpl, rfl, e2, e3, e5, hs, rfl⟩
              cases suf with
              | nil =>
                have hsuf' : suf' = [] := by
                  have h1 := congrArg List.length h0
                  have h2 := congrArg List.length h0'
                  simp at h1 h2
                  exact List.length_eq_zero_iff.1 (by omega)
                subst hsuf'
                simp at h0 h0'
                subst h0 h0'
                simp [e2, e3, e5, hs]
              | cons a suf =>
                obtain ⟨b, suf', rfl⟩ : ∃ b t, suf' = b :: t := by
                  cases suf' with
                  | nil =>
                    have h1 := congrArg List.length h0
                    have h2 := congrArg List.length h0'
                    simp at h1 h2
                    omega
                  | cons b t => exact ⟨b, t, rfl⟩
                have hlt : pre.length < kids.length := by rw [h0]; simp
                have hlt' : ((pre.length : Int) < (kids.length : Int)) = True := by simp; omega
                have hw := wrap_more hlt hok
                have ea := elem_at exprC_len rep kids .i64 pre.length a (by rw [h0]; simp)
                have eb := elem_at exprC_len rep' kids' .i64 pre.length b (by rw [h0', hpl]; simp)
                have hr := fun H => (ih a (by rw [h0]; simp) b (by rw [h0']; simp) H).cK
                have hsp : sameXs kids kids' = (sameX a b && sameXs suf suf') := by rw [h0, h0', sameXs_split _ _ _ _ _ _ hpl, hs, Bool.true_and]
                rw [hsp]
                cases c6 : sameX a b with
                | true =>
                  rw [c6] at hr
                  have c5' : (kids.length : Int) = (kids'.length : Int) := by omega
                  simp [e2, e3, e5, hlt', ea, eb, load_elem _ _ _ _ (exprC_len a), load_elem _ _ _ _ (exprC_len b), hr, hw]
                  refine ⟨suf.length, by omega, pre ++ [a], suf, by simp [h0], pre' ++ [b], ⟨suf', by simp [h0']⟩, by simp [hpl], rfl, by simp, ?_⟩
                  have := sameXs_split pre pre' a b [] [] hpl
                  simp [this, hs, c6, sameXs]
                | false =>
                  rw [c6] at hr
                  simp [e2, e3, e5, hlt', ea, eb, load_elem _ _ _ _ (exprC_len a), load_elem _ _ _ _ (exprC_len b), hr, hw]
            · have c5' : ¬ ((kids.length : Int) = (kids'.length : Int)) := by omega
              simp [eq_val, hv, c5, c5']
          · simp [eq_val, hv, c4]
        · simp [eq_val, hv, c3]
    · simp [c1]
theorem SamePred_run (a b : TPred) (H : Heap) : Run tab (.fn n_q23) [.agg (predC a), .agg (predC b)] H (bD (sameP a b)) H := by
  refine cK.run (cK_fn o_q23 t_q23 (Nat.le_of_ble_eq_true rfl) (by decide) ?_)
  have hL := fun H => (SameExpr_run a.L b.L a.okL b.okL H).cK
  have hR := fun H => (SameExpr_run a.R b.R a.okR b.okR H).cK
  unfold sameP
  by_cases c1 : a.cmp = b.cmp
  · cases c2 : sameX a.L b.L
    · simp [c1, hL, c2]
    · cases c3 : sameX a.R b.R <;> simp [c1, hL, c2, hR, c3]
  · simp [c1]
end Go.Proofs.YtlnkifnkamojnaaGreat.Tz
