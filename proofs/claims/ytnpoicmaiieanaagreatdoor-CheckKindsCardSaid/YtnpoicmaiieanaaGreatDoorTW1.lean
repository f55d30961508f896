/-
slices.IndexFunc at some kinds: the place of the first that is so. Conditions: none.
-/
import Derived.Test.YtnpoicmaiieanaaGreatDoorTX0
import Derived.Test.YtnpoicmaiieanaaGreatDoorTS1
namespace Go.Proofs.YtnpoicmaiieanaaGreatDoor.Tz
open Go.Aug Go.Aug.Api
set_option maxRecDepth 100000

theorem IndexFunc_Schema_run {α : Type} {c : α → List D} (hc : ∀ x, (c x).length = 2) (p : α → Bool) (rep : Option (Option Nat)) (l : List α) (hl : l.length ≤ big) (g : FuncId) (first caps : List D) (H : Heap)
    (hp : ∀ x, Run tab (.fn g) (first ++ .agg (c x) :: caps) (low0 H) (bD (p x)) (low0 H)) :
    Run tab (.fn n_slices_IndexFunc_Schema) [slD rep l.length (l.flatMap c), .fn (.func g) first caps] H (i64D (idx p l)) H := by
  refine cK.run (cK_fn o_slices_IndexFunc_Schema t_slices_IndexFunc_Schema (Nat.le_of_ble_eq_true rfl) (by decide) ?_)
  simp
  refine LR_rule (WR_mono _) (fun j E H' => H' = low0 H ∧ ∃ pre suf, l = pre ++ suf ∧ j = suf.length ∧ E 0 = slD rep l.length (l.flatMap c) ∧ E 1 = .fn (.func g) first caps ∧ E 7 = i64D l.length ∧ E 8 = i64D pre.length ∧ (∀ x ∈ pre, p x = false)) ?_
    (j := l.length) ⟨rfl, [], l, by simp⟩
  rintro j E H' ⟨rfl, pre, suf, h0, rfl, e0, e1, e7, e8, hpre⟩
  cases suf with
  | nil =>
    simp at h0
    subst h0
    simp [e7, e8, idx_none hpre]
  | cons x suf =>
    have hlt : pre.length < l.length := by simp [h0]
    simp [e0, e1, e7, e8, h0, zip_at hc, load_elem _ _ _ _ (hc x), (hp x).cK]
    refine gK_of (fun hx => ?_) (fun hx => ?_)
    · simp [e8, idx_some pre x suf hpre hx]
    · simp [e0, e1, e7, e8, h0, wrap_len hlt hl]
      exact ⟨suf.length, by omega, pre ++ [x], suf, by simp, rfl, by simp, fun y hy => by simp at hy; rcases hy with hy | rfl; exact hpre y hy; exact hx⟩


theorem IndexFunc_Field_run {α : Type} {c : α → List D} (hc : ∀ x, (c x).length = 2) (p : α → Bool) (rep : Option (Option Nat)) (l : List α) (hl : l.length ≤ big) (g : FuncId) (first caps : List D) (H : Heap)
    (hp : ∀ x, Run tab (.fn g) (first ++ .agg (c x) :: caps) (low0 H) (bD (p x)) (low0 H)) :
    Run tab (.fn n_slices_IndexFunc_Field) [slD rep l.length (l.flatMap c), .fn (.func g) first caps] H (i64D (idx p l)) H := by
  refine cK.run (cK_fn o_slices_IndexFunc_Field t_slices_IndexFunc_Field (Nat.le_of_ble_eq_true rfl) (by decide) ?_)
  simp
  refine LR_rule (WR_mono _) (fun j E H' => H' = low0 H ∧ ∃ pre suf, l = pre ++ suf ∧ j = suf.length ∧ E 0 = slD rep l.length (l.flatMap c) ∧ E 1 = .fn (.func g) first caps ∧ E 7 = i64D l.length ∧ E 8 = i64D pre.length ∧ (∀ x ∈ pre, p x = false)) ?_
    (j := l.length) ⟨rfl, [], l, by simp⟩
  rintro j E H' ⟨rfl, pre, suf, h0, rfl, e0, e1, e7, e8, hpre⟩
  cases suf with
  | nil =>
    simp at h0
    subst h0
    simp [e7, e8, idx_none hpre]
  | cons x suf =>
    have hlt : pre.length < l.length := by simp [h0]
    simp [e0, e1, e7, e8, h0, zip_at hc, load_elem _ _ _ _ (hc x), (hp x).cK]
    refine gK_of (fun hx => ?_) (fun hx => ?_)
    · simp [e8, idx_some pre x suf hpre hx]
    · simp [e0, e1, e7, e8, h0, wrap_len hlt hl]
      exact ⟨suf.length, by omega, pre ++ [x], suf, by simp, rfl, by simp, fun y hy => by simp at hy; rcases hy with hy | rfl; exact hpre y hy; exact hx⟩


theorem IndexFunc_Item_run {α : Type} {c : α → List D} (hc : ∀ x, (c x).length = 4) (p : α → Bool) (rep : Option (Option Nat)) (l : List α) (hl : l.length ≤ big) (g : FuncId) (first caps : List D) (H : Heap)
    (hp : ∀ x, Run tab (.fn g) (first ++ .agg (c x) :: caps) (low0 H) (bD (p x)) (low0 H)) :
    Run tab (.fn n_slices_IndexFunc_Item) [slD rep l.length (l.flatMap c), .fn (.func g) first caps] H (i64D (idx p l)) H := by
  refine cK.run (cK_fn o_slices_IndexFunc_Item t_slices_IndexFunc_Item (Nat.le_of_ble_eq_true rfl) (by decide) ?_)
  simp
  refine LR_rule (WR_mono _) (fun j E H' => H' = low0 H ∧ ∃ pre suf, l = pre ++ suf ∧ j = suf.length ∧ E 0 = slD rep l.length (l.flatMap c) ∧ E 1 = .fn (.func g) first caps ∧ E 7 = i64D l.length ∧ E 8 = i64D pre.length ∧ (∀ x ∈ pre, p x = false)) ?_
    (j := l.length) ⟨rfl, [], l, by simp⟩
  rintro j E H' ⟨rfl, pre, suf, h0, rfl, e0, e1, e7, e8, hpre⟩
  cases suf with
  | nil =>
    simp at h0
    subst h0
    simp [e7, e8, idx_none hpre]
  | cons x suf =>
    have hlt : pre.length < l.length := by simp [h0]
    simp [e0, e1, e7, e8, h0, zip_at hc, load_elem _ _ _ _ (hc x), (hp x).cK]
    refine gK_of (fun hx => ?_) (fun hx => ?_)
    · simp [e8, idx_some pre x suf hpre hx]
    · simp [e0, e1, e7, e8, h0, wrap_len hlt hl]
      exact ⟨suf.length, by omega, pre ++ [x], suf, by simp, rfl, by simp, fun y hy => by simp at hy; rcases hy with hy | rfl; exact hpre y hy; exact hx⟩





end Go.Proofs.YtnpoicmaiieanaaGreatDoor.Tz
