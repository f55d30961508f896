/-
The walk of TimelineBack. Conditions: none.
-/
import Derived.Test.YtlnkifnkamojnaaGreatTVw
import Derived.Test.YtlnkifnkamojnaaGreatTWA
namespace Go.Proofs.YtlnkifnkamojnaaGreat.Tz
open Go.Aug Go.Aug.Api
set_option maxRecDepth 100000
theorem Same15_run (x y : Sl TVersion) (h : x.l = y.l) (H : Heap) : Run tab (.fn n_q46) [x.enc versionC, y.enc versionC] H (bD true) H := by
  refine cK.run (cK_fn o_q46 t_q46 (Nat.le_of_ble_eq_true rfl) (by decide) ?_)
  have hlen : (x.l.length : Int) = (y.l.length : Int) := by rw [h]
  simp [Sl.enc, hlen]
  refine LR_rule (WR_mono _) (fun j E H' => H' = low0 H ∧ ∃ pre suf, x.l = pre ++ suf ∧ j = suf.length ∧ E 0 = x.enc versionC ∧ E 1 = y.enc versionC ∧ E 5 = i64D pre.length) ?_ (j := x.l.length) ⟨rfl, [], x.l, by simp [Sl.enc]⟩
  rintro j E H' ⟨rfl, pre, suf, hl, rfl, e0, e1, e5⟩
  simp only [Sl.enc] at e0 e1
  cases suf with
  | nil =>
    have hp : x.l = pre := by simpa using hl
    have hlt' : ((pre.length : Int) < (x.l.length : Int)) = False := by simp [hp]
    simp [e0, e1, e5, hlt']
  | cons v suf =>
    have hlt : pre.length < x.l.length := by rw [hl]; simp
    have hlt' : ((pre.length : Int) < (x.l.length : Int)) = True := by simp; omega
    have hw := wrap_more hlt x.ok
    have ev := elem_at versionC_len x.rep x.l .i64 pre.length v (by rw [hl]; simp)
    have ew := elem_at versionC_len y.rep y.l .i64 pre.length v (by rw [← h, hl]; simp)
    have hS := fun H => (Same_run v.query v.query rfl rfl (samePs_refl _) rfl rfl rfl H).cK
    have f2 : ∀ (x : TVersion) rest, evFadr 2 (.cp (versionC x ++ rest)) = some (.cp (queryC x.query ++ rest)) := fun _ _ => rfl
    have f1 : ∀ (x : TVersion) rest, evFadr 1 (.cp (versionC x ++ rest)) = some (.cp (bD x.drop :: (queryC x.query ++ rest))) := fun _ _ => rfl
    have f0 : ∀ (x : TVersion) rest, evFadr 0 (.cp (versionC x ++ rest)) = some (.cp (i64D x.from_ :: bD x.drop :: (queryC x.query ++ rest))) := fun _ _ => rfl
    have hbb : eqAny .bool (bD v.drop) (bD v.drop) = some true := by cases v.drop <;> rfl
    simp [-fadr_cp, e0, e1, e5, hlt', ev, ew, f0, f1, f2, load_elem _ _ _ _ (queryC_len v.query), hS, hw, hbb]
    exact ⟨suf.length, by omega, pre ++ [v], suf, by simp [hl], rfl, by simp [Sl.enc]⟩
end Go.Proofs.YtlnkifnkamojnaaGreat.Tz
