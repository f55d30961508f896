/-
The walk of norm.Fold. Conditions: none.
-/
import Derived.Test.YthdkeggdipogoaaGreatDoorGP
import Derived.Test.YthdkeggdipogoaaGreatDoorTSa
namespace Go.Proofs.YthdkeggdipogoaaGreatDoor.Tz
open Go.Aug Go.Aug.Api
set_option maxRecDepth 100000

theorem VE.enc_eq (v : TVal) (e : Int) : VE.enc (v, e) = .tup [.agg (valC v), i64D e] := rfl

theorem fold_fin {H H' : Heap} {r : Nat} {fz : Bool} (hz : fz = true) (hl : H.next ≤ H'.low) (hr : H.next ≤ r) (k : Int) (v : TVal) (var f : ByteArray) (a b : TExpr) (hg : H'.get r = some (.cells (exprC a ++ exprC b))) {R : D → Heap → Prop} (h : R (.agg (exprC (.mk k v var f (some (some 2)) [a, b]))) H) :
    finX fz H (.agg [i64D k, i64D v.kind, i64D v.n, strD v.s, strD var, strD f, .rs r 0 2 (some 2) 7]) H' R := by
  subst hz
  have hp : ∀ L : List D, D.under.underAll 0 L = true → frzL (frz H' H.next 62) L = some L := by
    intro L
    induction L with
    | nil => intro _; rfl
    | cons d L ih =>
      intro h
      simp only [under_cons, Bool.and_eq_true] at h
      exact frzL_two _ _ _ _ _ (frz_under0 H' H.next 61 d (under_zero _ _ h.1)) (ih h.2)
  have hpp : D.under.underAll 0 (exprC a ++ exprC b) = true := by simp [under_append]
  rw [finX_frozen (d' := .agg (exprC (.mk k v var f (some (some 2)) [a, b]))) hl ?_]
  · exact h
  · have h1 : ¬ r < H.next := by omega
    have hlen : (exprC a ++ exprC b).length = 14 := by simp
    have hrs : frz H' H.next 63 (.rs r 0 2 (some 2) 7) = some (.sl 2 (exprC a ++ exprC b) (some 2)) := by
      rw [frz_rs, if_neg h1, hg]
      simp only [hlen]
      rw [if_pos (by omega), List.drop_zero, List.take_of_length_le (by omega), hp _ hpp]
      rfl
    rw [frz_agg, if_neg (by simp [under_cons, D.under, h1]), exprC_mk]
    simp only [frzL_cons, frzL_nil, frz_v, hrs]
    simp

theorem norm_Fold_run : ∀ (x : TExpr) (_hx : okE x) (H : Heap), Run tab (.fn n_norm_Fold) [.agg (exprC x)] H (.agg (exprC (foldX x))) H
  | .mk k v var f rep kids, hx, H => by
    have ih : ∀ x ∈ kids, ∀ (H : Heap), Run tab (.fn n_norm_Fold) [.agg (exprC x)] H (.agg (exprC (foldX x))) H := fun x hmem H => norm_Fold_run x (okEs_mem hx.2.1 hmem) H
    refine cK.run (cK_fn o_norm_Fold t_norm_Fold (Nat.le_of_ble_eq_true rfl) (by decide) ?_)
    by_cases k7 : k = 7 ∨ k = 8
    · by_cases b4 : kids.length = 2
      · obtain ⟨a, b, rfl⟩ : ∃ a b, kids = [a, b] := by
          match kids, b4 with
          | [a, b], _ => exact ⟨a, b, rfl⟩
        have hA := fun H => (ih a (by simp) H).cK
        have hB := fun H => (ih b (by simp) H).cK
        have e0 := elem_at exprC_len rep [a, b] .i64 0 a rfl
        have e1' := elem_at exprC_len rep [a, b] .i64 1 b rfl
        simp at e0 e1'
        have nAdd := fun k n s k' n' s' H => (value_Add_run k n s k' n' s' H).cK
        have nSub := fun k n s k' n' s' H => (value_Sub_run k n s k' n' s' H).cK
        rw [foldX_two k7, exprC_mk]
        generalize foldX a = a' at *
        generalize foldX b = b' at *
        obtain ⟨ka, ⟨va, na, sa⟩, xa, fa, ra, da⟩ := a'
        obtain ⟨kb, ⟨vb, nb, sb⟩, xb, fb, rb, db⟩ := b'
        simp only [exprC_mk] at hA hB
        unfold foldedTwo
        simp only [TExpr.kind, TExpr.val]
        rcases k7 with rfl | rfl
        · simp [e0, e1', load_elem _ _ _ _ (exprC_len a), load_elem _ _ _ _ (exprC_len b), hA, hB]
          by_cases c1 : ka = 1
          · by_cases c2 : kb = 1
            · simp [c1, c2, nAdd, reckV]
              generalize addV ⟨va, na, sa⟩ ⟨vb, nb, sb⟩ = r
              obtain ⟨r, e⟩ := r
              by_cases c3 : e = 0
              · simp [c3, VE.enc_eq, valE, exprC_mk, valC]
                rfl
              · simp [c3, VE.enc_eq]
                refine fold_fin z_norm_Fold ?_ (by omega) 7 v var f _ _ ?_ ⟨rfl, rfl⟩ <;> simp [exprC_mk]
            · simp [c1, c2]
              refine fold_fin z_norm_Fold ?_ (by omega) 7 v var f _ _ ?_ ⟨rfl, rfl⟩ <;> simp [exprC_mk]
          · simp [c1]
            refine fold_fin z_norm_Fold ?_ (by omega) 7 v var f _ _ ?_ ⟨rfl, rfl⟩ <;> simp [exprC_mk]
        · simp [e0, e1', load_elem _ _ _ _ (exprC_len a), load_elem _ _ _ _ (exprC_len b), hA, hB]
          by_cases c1 : ka = 1
          · by_cases c2 : kb = 1
            · simp [c1, c2, nSub, reckV]
              generalize subV ⟨va, na, sa⟩ ⟨vb, nb, sb⟩ = r
              obtain ⟨r, e⟩ := r
              by_cases c3 : e = 0
              · simp [c3, VE.enc_eq, valE, exprC_mk, valC]
                rfl
              · simp [c3, VE.enc_eq]
                refine fold_fin z_norm_Fold ?_ (by omega) 8 v var f _ _ ?_ ⟨rfl, rfl⟩ <;> simp [exprC_mk]
            · simp [c1, c2]
              refine fold_fin z_norm_Fold ?_ (by omega) 8 v var f _ _ ?_ ⟨rfl, rfl⟩ <;> simp [exprC_mk]
          · simp [c1]
            refine fold_fin z_norm_Fold ?_ (by omega) 8 v var f _ _ ?_ ⟨rfl, rfl⟩ <;> simp [exprC_mk]
      · have b4' : ¬ (kids.length : Int) = 2 := by omega
        rw [foldX_not b4, exprC_mk]
        rcases k7 with rfl | rfl <;> simp [b4']
    · rw [foldX_other k7, exprC_mk]
      have h7 : k ≠ 7 := fun h => k7 (.inl h)
      have h8 : k ≠ 8 := fun h => k7 (.inr h)
      simp [h7, h8]

end Go.Proofs.YthdkeggdipogoaaGreatDoor.Tz
