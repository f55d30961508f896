/-
The walks of the reference's sums and folds. Conditions: none.
-/
import Derived.Test.YthdkeggdipogoaaGreatDoorTWp
import Derived.Test.YthdkeggdipogoaaGreatDoorGU
namespace Go.Proofs.YthdkeggdipogoaaGreatDoor.Tz
open Go.Aug Go.Aug.Api
set_option maxRecDepth 100000
theorem ref04_may_run (k n : Int) (s : ByteArray) (k' n' : Int) (s' : ByteArray) (H : Heap) : Run tab (.fn n_q7) [.agg [i64D k, i64D n, strD s], .agg [i64D k', i64D n', strD s']] H (i64D (bothV ⟨k, n, s⟩ ⟨k', n', s'⟩)) H := by
  refine cK.run (cK_fn o_q7 t_q7 (Nat.le_of_ble_eq_true rfl) (by decide) ?_)
  have hR := fun k n s H => (ref04_Right_run k n s H).cK
  unfold bothV
  cases r1 : rightV ⟨k, n, s⟩ with
  | false => simp [hR, r1]
  | true =>
    cases r2 : rightV ⟨k', n', s'⟩ with
    | false => simp [hR, r1, r2]
    | true =>
      by_cases h1 : k = 1
      · by_cases h2 : k' = 1
        · subst h1 h2
          simp [hR, r1, r2]
        · subst h1
          simp [hR, r1, r2, h2]
      · simp [hR, r1, r2, h1]
theorem ref04_number_run (n : Int) (H : Heap) : Run tab (.fn n_q8) [i64D n] H (ofSum n).enc H := by
  refine cK.run (cK_fn o_q8 t_q8 (Nat.le_of_ble_eq_true rfl) (by decide) ?_)
  unfold ofSum
  have hm : maxNum = 1099511627776 := rfl
  rw [hm]
  by_cases h1 : n < -1099511627776
  · have : ¬ (-1099511627776 ≤ n ∧ n ≤ 1099511627776) := by omega
    simp [h1, this, VE.enc, valC, zVal]
  · by_cases h2 : 1099511627776 < n
    · have : ¬ (-1099511627776 ≤ n ∧ n ≤ 1099511627776) := by omega
      simp [-Int.not_lt, h1, h2, this, VE.enc, valC, zVal]
    · have : -1099511627776 ≤ n ∧ n ≤ 1099511627776 := by omega
      simp [-Int.not_lt, h1, h2, this, VE.enc, valC, emptyS]
theorem ref04_Add_run (k n : Int) (s : ByteArray) (k' n' : Int) (s' : ByteArray) (H : Heap) : Run tab (.fn n_q4) [.agg [i64D k, i64D n, strD s], .agg [i64D k', i64D n', strD s']] H (addV ⟨k, n, s⟩ ⟨k', n', s'⟩).enc H := by
  refine cK.run (cK_fn o_q4 t_q4 (Nat.le_of_ble_eq_true rfl) (by decide) ?_)
  have hM := fun H => (ref04_may_run k n s k' n' s' H).cK
  have hN := fun n H => (ref04_number_run n H).cK
  unfold addV
  by_cases h : bothV ⟨k, n, s⟩ ⟨k', n', s'⟩ = 0
  · obtain ⟨r1, r2, rfl, rfl⟩ := both_zero h
    obtain ⟨a1, a2, -⟩ := right_num r1 rfl
    obtain ⟨b1, b2, -⟩ := right_num r2 rfl
    have hm : maxNum = 1099511627776 := rfl
    simp only [hm] at a1 a2 b1 b2
    have hw : IntKind.i64.wrap (n + n') = n + n' := wrap64 (by omega) (by omega)
    simp [hM, h, hw, hN]
    generalize ofSum (n + n') = r
    obtain ⟨r, e⟩ := r
    simp [VE.enc, valC]
  · simp [hM, h, VE.enc, valC, zVal]
theorem ref04_Sub_run (k n : Int) (s : ByteArray) (k' n' : Int) (s' : ByteArray) (H : Heap) : Run tab (.fn n_q6) [.agg [i64D k, i64D n, strD s], .agg [i64D k', i64D n', strD s']] H (subV ⟨k, n, s⟩ ⟨k', n', s'⟩).enc H := by
  refine cK.run (cK_fn o_q6 t_q6 (Nat.le_of_ble_eq_true rfl) (by decide) ?_)
  have hM := fun H => (ref04_may_run k n s k' n' s' H).cK
  have hN := fun n H => (ref04_number_run n H).cK
  unfold subV
  by_cases h : bothV ⟨k, n, s⟩ ⟨k', n', s'⟩ = 0
  · obtain ⟨r1, r2, rfl, rfl⟩ := both_zero h
    obtain ⟨a1, a2, -⟩ := right_num r1 rfl
    obtain ⟨b1, b2, -⟩ := right_num r2 rfl
    have hm : maxNum = 1099511627776 := rfl
    simp only [hm] at a1 a2 b1 b2
    have hw : IntKind.i64.wrap (n - n') = n - n' := wrap64 (by omega) (by omega)
    simp [hM, h, hw, hN]
    generalize ofSum (n - n') = r
    obtain ⟨r, e⟩ := r
    simp [VE.enc, valC]
  · simp [hM, h, VE.enc, valC, zVal]
theorem ref10_Fold_run : ∀ (x : TExpr) (_hx : okE x) (H : Heap), Run tab (.fn n_q50) [.agg (exprC x)] H (.agg (exprC (foldX x))) H
  | .mk k v var f rep kids, hx, H => by
    have ih : ∀ x ∈ kids, ∀ (H : Heap), Run tab (.fn n_q50) [.agg (exprC x)] H (.agg (exprC (foldX x))) H := fun x hmem H => ref10_Fold_run x (okEs_mem hx.2.1 hmem) H
    refine cK.run (cK_fn o_q50 t_q50 (Nat.le_of_ble_eq_true rfl) (by decide) ?_)
    by_cases k7 : k = 7 ∨ k = 8
    · by_cases b4 : kids.length = 2
      · obtain ⟨a, b, rfl⟩ : ∃ a b, kids = [a, b] := by
          match kids, b4 with
          | [a, b], _ => exact ⟨a, b, rfl⟩
        have hA := fun H => (ih a (by simp) H).cK
        have hB := fun H => (ih b (by simp) H).cK
        have e0 := elem_at exprC_len rep [a, b] .i64 0 a rfl
        have e1' := elem_at exprC_len rep [a, b] .i64 1 b rfl
        simp at e0 e1'
        have nAdd := fun k n s k' n' s' H => (ref04_Add_run k n s k' n' s' H).cK
        have nSub := fun k n s k' n' s' H => (ref04_Sub_run k n s k' n' s' H).cK
        rw [foldX_two k7, exprC_mk]
        generalize foldX a = a' at *
        generalize foldX b = b' at *
        obtain ⟨ka, ⟨va, na, sa⟩, xa, fa, ra, da⟩ := a'
        obtain ⟨kb, ⟨vb, nb, sb⟩, xb, fb, rb, db⟩ := b'
        simp only [exprC_mk] at hA hB
        unfold foldedTwo
        simp only [TExpr.kind, TExpr.val]
        rcases k7 with rfl | rfl
        · simp [e0, e1', load_elem _ _ _ _ (exprC_len a), load_elem _ _ _ _ (exprC_len b), hA, hB]
          by_cases c1 : ka = 1
          · by_cases c2 : kb = 1
            · simp [c1, c2, nAdd, reckV]
              generalize addV ⟨va, na, sa⟩ ⟨vb, nb, sb⟩ = r
              generalize hr2 : subV ⟨va, na, sa⟩ ⟨vb, nb, sb⟩ = r2
              obtain ⟨r, e⟩ := r
              obtain ⟨r2, e2⟩ := r2
              have nSub' : ∀ H R, cK tab (.fn n_q6) [.agg [i64D va, i64D na, strD sa], .agg [i64D vb, i64D nb, strD sb]] H R = R (.tup [.agg (valC r2), i64D e2]) H := fun H R => by rw [nSub, hr2, VE.enc_eq]
              simp only [VE.enc_eq]
              by_cases c3 : e = 0
              · simp [c3, nSub', valE, exprC_mk, valC]
                rfl
              · simp [c3, nSub', valC]
                refine fold_fin z_q50 ?_ (by omega) 7 v var f _ _ ?_ ⟨rfl, rfl⟩ <;> simp [exprC_mk]
            · simp [c1, c2]
              refine fold_fin z_q50 ?_ (by omega) 7 v var f _ _ ?_ ⟨rfl, rfl⟩ <;> simp [exprC_mk]
          · simp [c1]
            refine fold_fin z_q50 ?_ (by omega) 7 v var f _ _ ?_ ⟨rfl, rfl⟩ <;> simp [exprC_mk]
        · simp [e0, e1', load_elem _ _ _ _ (exprC_len a), load_elem _ _ _ _ (exprC_len b), hA, hB]
          by_cases c1 : ka = 1
          · by_cases c2 : kb = 1
            · simp [c1, c2, nAdd, reckV]
              generalize addV ⟨va, na, sa⟩ ⟨vb, nb, sb⟩ = r
              generalize hr2 : subV ⟨va, na, sa⟩ ⟨vb, nb, sb⟩ = r2
              obtain ⟨r, e⟩ := r
              obtain ⟨r2, e2⟩ := r2
              have nSub' : ∀ H R, cK tab (.fn n_q6) [.agg [i64D va, i64D na, strD sa], .agg [i64D vb, i64D nb, strD sb]] H R = R (.tup [.agg (valC r2), i64D e2]) H := fun H R => by rw [nSub, hr2, VE.enc_eq]
              simp only [VE.enc_eq]
              by_cases c3 : e2 = 0
              · simp [c3, nSub', valE, exprC_mk, valC]
                rfl
              · simp [c3, nSub', valC]
                refine fold_fin z_q50 ?_ (by omega) 8 v var f _ _ ?_ ⟨rfl, rfl⟩ <;> simp [exprC_mk]
            · simp [c1, c2]
              refine fold_fin z_q50 ?_ (by omega) 8 v var f _ _ ?_ ⟨rfl, rfl⟩ <;> simp [exprC_mk]
          · simp [c1]
            refine fold_fin z_q50 ?_ (by omega) 8 v var f _ _ ?_ ⟨rfl, rfl⟩ <;> simp [exprC_mk]
      · have b4' : ¬ (kids.length : Int) = 2 := by omega
        rw [foldX_not b4, exprC_mk]
        rcases k7 with rfl | rfl <;> simp [b4']
    · rw [foldX_other k7, exprC_mk]
      have h7 : k ≠ 7 := fun h => k7 (.inl h)
      have h8 : k ≠ 8 := fun h => k7 (.inr h)
      simp [h7, h8]
end Go.Proofs.YthdkeggdipogoaaGreatDoor.Tz
