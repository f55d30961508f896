/-
The walks of what says whether queries are the same, where they are; and how deep a right expression is. Conditions: none.
-/
import Derived.Test.YtlnkifnkamojnaaGreatTWz
namespace Go.Aug.Api
open Go.Aug
end Go.Aug.Api
namespace Go.Proofs.YtlnkifnkamojnaaGreat.Tz
open Go.Aug Go.Aug.Api
set_option maxRecDepth 100000
theorem SameItem_run (x : TItem) (H : Heap) : Run tab (.fn n_q22) [.agg (itemC x), .agg (itemC x)] H (bD true) H := by
  refine cK.run (cK_fn o_q22 t_q22 (Nat.le_of_ble_eq_true rfl) (by decide) ?_)
  have hok := x.names.ok
  simp [itemC, Sl.enc, eqAny]
  refine LR_rule (WR_mono _) (fun j E H' => ∃ pre suf, x.names.l = pre ++ suf ∧ j = suf.length ∧ E 2 = .rf H.next 0 ∧ E 3 = .rf (H.next + 1) 0 ∧ E 5 = i64D pre.length ∧ H' = ((low0 H).add (.cells (itemC x))).add (.cells (itemC x))) ?_ (j := x.names.l.length) ⟨[], x.names.l, rfl, rfl, by simp, by simp, by simp, by simp [itemC, Sl.enc]⟩
  rintro j E H' ⟨pre, suf, hl, rfl, e2, e3, e5, rfl⟩
  cases suf with
  | nil =>
    have hl' : x.names.l = pre := by simpa using hl
    have hlt' : ((pre.length : Int) < (x.names.l.length : Int)) = False := by simp [hl']
    simp [itemC, Sl.enc, e2, e3, e5, hlt']
  | cons a suf =>
    have hlt : pre.length < x.names.l.length := by rw [hl]; simp
    have hlt' : ((pre.length : Int) < (x.names.l.length : Int)) = True := by simp; omega
    have hw := wrap_more hlt hok
    have ea := elem_at strC_len x.names.rep x.names.l .i64 pre.length a (by rw [hl]; simp)
    simp [itemC, Sl.enc, e2, e3, e5, hlt', ea]
    simp [strC, e2, e3, e5, hw]
    exact ⟨suf.length, by omega, pre ++ [a], suf, by simp [hl], rfl, by simp⟩
theorem samePs_at {l m : List TPred} (h : samePs l m = true) {i : Nat} {a b : TPred} (h1 : l[i]? = some a) (h2 : m[i]? = some b) : sameP a b = true := by
  induction l generalizing m i with
  | nil => simp at h1
  | cons x l ih =>
    cases m with
    | nil => simp at h2
    | cons y m =>
      simp only [samePs, Bool.and_eq_true] at h
      cases i with
      | zero => simp at h1 h2; subst h1 h2; exact h.1
      | succ i => simp at h1 h2; exact ih h.2 h1 h2
theorem Same_run (q q' : TQuery) (hi : q.items.l = q'.items.l) (hlen : q.preds.l.length = q'.preds.l.length) (hp : samePs q.preds.l q'.preds.l = true) (hw : q.within = q'.within) (hb : q.by_ = q'.by_) (hk : q.pick = q'.pick) (H : Heap) :
    Run tab (.fn n_q20) [.agg (queryC q), .agg (queryC q')] H (bD true) H := by
  refine cK.run (cK_fn o_q20 t_q20 (Nat.le_of_ble_eq_true rfl) (by decide) ?_)
  have h0 : ∀ q : TQuery, (queryC q)[0]? = some (q.items.enc itemC) := fun _ => rfl
  have h1 : ∀ q : TQuery, (queryC q)[1]? = some (q.preds.enc predC) := fun _ => rfl
  have hil : (q.items.l.length : Int) = (q'.items.l.length : Int) := by rw [hi]
  have hpl : (q.preds.l.length : Int) = (q'.preds.l.length : Int) := by omega
  let H2 := ((low0 H).add (.cells (queryC q))).add (.cells (queryC q'))
  have hq : ∀ q : TQuery, queryC q = [slD q.items.rep q.items.l.length (q.items.l.flatMap itemC), slD q.preds.rep q.preds.l.length (q.preds.l.flatMap predC), i64D q.within, strD q.by_, i64D q.pick] := fun _ => rfl
  rw [hq q, hq q']
  simp [hil, hlen, hw, hb, hk]
  refine LR_rule (WR_mono _) (fun j E H' => ∃ pre suf, q.items.l = pre ++ suf ∧ j = suf.length ∧ E 2 = .rf H.next 0 ∧ E 3 = .rf (H.next + 1) 0 ∧ E 5 = i64D pre.length ∧ H' = ((low0 H).add (.cells (queryC q))).add (.cells (queryC q'))) ?_ (j := q.items.l.length) ⟨[], q.items.l, rfl, rfl, by simp, by simp, by simp, by simp [hq q, hq q', hw, hb, hk, hil, hlen]⟩
  rintro j E H' ⟨pre, suf, hl, rfl, e2, e3, e5, rfl⟩
  cases suf with
  | nil =>
    have hl' : q.items.l = pre := by simpa using hl
    have hlt' : ((pre.length : Int) < (q.items.l.length : Int)) = False := by simp [hl']
    simp [hq q, hq q', e2, e3, e5, hlt']
    refine LR_rule (WR_mono _) (fun j E H' => ∃ pre suf, q.preds.l = pre ++ suf ∧ j = suf.length ∧ E 2 = .rf H.next 0 ∧ E 3 = .rf (H.next + 1) 0 ∧ E 6 = i64D pre.length ∧ H' = ((low0 H).add (.cells (queryC q))).add (.cells (queryC q'))) ?_ (j := q.preds.l.length) ⟨[], q.preds.l, rfl, rfl, by simp [e2], by simp [e3], by simp, by simp [hq q, hq q']⟩
    rintro j E H' ⟨pre, suf, hl, rfl, e2, e3, e6, rfl⟩
    cases suf with
    | nil =>
      have hl' : q.preds.l = pre := by simpa using hl
      have hlt' : ((pre.length : Int) < (q.preds.l.length : Int)) = False := by simp [hl']
      simp [hq q, hq q', e2, e3, e6, hlt']
    | cons a suf =>
      have hlt : pre.length < q.preds.l.length := by rw [hl]; simp
      have hlt' : ((pre.length : Int) < (q.preds.l.length : Int)) = True := by simp; omega
      have hwr := wrap_more hlt q.preds.ok
      have ga : q.preds.l[pre.length]? = some a := by rw [hl]; simp
      obtain ⟨b, gb⟩ : ∃ b, q'.preds.l[pre.length]? = some b := ⟨_, List.getElem?_eq_getElem (by omega)⟩
      have ea := elem_at predC_len q.preds.rep q.preds.l .i64 pre.length a ga
      have eb := elem_at predC_len q'.preds.rep q'.preds.l .i64 pre.length b gb
      have hs := fun H => (SamePred_run a b H).cK
      rw [samePs_at hp ga gb] at hs
      simp [hq q, hq q', e2, e3, e6, hlt', ea, eb, load_elem _ _ _ _ (predC_len a), load_elem _ _ _ _ (predC_len b), hs, hwr]
      exact ⟨suf.length, by omega, pre ++ [a], suf, by simp [hl], rfl, by simp⟩
  | cons a suf =>
    have hlt : pre.length < q.items.l.length := by rw [hl]; simp
    have hlt' : ((pre.length : Int) < (q.items.l.length : Int)) = True := by simp; omega
    have hwr := wrap_more hlt q.items.ok
    have ga : q.items.l[pre.length]? = some a := by rw [hl]; simp
    have ea := elem_at itemC_len q.items.rep q.items.l .i64 pre.length a ga
    have eb := elem_at itemC_len q'.items.rep q'.items.l .i64 pre.length a (by rw [← hi]; exact ga)
    have hs := fun H => (SameItem_run a H).cK
    simp [hq q, hq q', e2, e3, e5, hlt', ea, eb, load_elem _ _ _ _ (itemC_len a), hs, hwr]
    exact ⟨suf.length, by omega, pre ++ [a], suf, by simp [hl], rfl, by simp⟩
end Go.Proofs.YtlnkifnkamojnaaGreat.Tz
