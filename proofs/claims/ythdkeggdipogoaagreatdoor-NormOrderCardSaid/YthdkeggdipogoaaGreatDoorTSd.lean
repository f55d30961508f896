/-
What says whether expressions and predicates are the same. Conditions: none; definitions and plain lemmas.
-/
import Derived.Test.YthdkeggdipogoaaGreatDoorTSb
import Derived.Test.YthdkeggdipogoaaGreatDoorGT
namespace Go.Aug.Api
open Go.Aug
mutual
def sameX : TExpr → TExpr → Bool
  | .mk k v var f _ kids, .mk k' v' var' f' _ kids' => decide (k = k') && decide (v = v') && decide (var = var') && decide (f = f') && decide (kids.length = kids'.length) && sameXs kids kids'
def sameXs : List TExpr → List TExpr → Bool
  | a :: l, b :: m => sameX a b && sameXs l m
  | _, _ => true
end
def sameP (a b : TPred) : Bool := decide (a.cmp = b.cmp) && sameX a.L b.L && sameX a.R b.R
def samePs : List TPred → List TPred → Bool
  | a :: l, b :: m => sameP a b && samePs l m
  | _, _ => true
end Go.Aug.Api

namespace Go.Proofs.YthdkeggdipogoaaGreatDoor.Tz
open Go.Aug Go.Aug.Api
set_option maxRecDepth 100000
theorem sameXs_split : ∀ (pre pre' : List TExpr) (a b : TExpr) (suf suf' : List TExpr), pre.length = pre'.length → sameXs (pre ++ a :: suf) (pre' ++ b :: suf') = (sameXs pre pre' && (sameX a b && sameXs suf suf'))
  | [], [], a, b, suf, suf', _ => by simp [sameXs]
  | x :: pre, y :: pre', a, b, suf, suf', h => by
    have := sameXs_split pre pre' a b suf suf' (by simpa using h)
    simp only [List.cons_append, sameXs, this, Bool.and_assoc]
  | [], _ :: _, _, _, _, _, h => by simp at h
  | _ :: _, [], _, _, _, _, h => by simp at h
theorem SameExpr_run : ∀ (x y : TExpr) (_hx : okE x) (_hy : okE y) (H : Heap), Run tab (.fn n_auguryref08_SameExpr) [.agg (exprC x), .agg (exprC y)] H (bD (sameX x y)) H
  | .mk k v var f rep kids, .mk k' v' var' f' rep' kids', hx, hy, H => by
    have ih : ∀ x ∈ kids, ∀ y ∈ kids', ∀ (H : Heap), Run tab (.fn n_auguryref08_SameExpr) [.agg (exprC x), .agg (exprC y)] H (bD (sameX x y)) H := fun x hm y hm' H => SameExpr_run x y (okEs_mem hx.2.1 hm) (okEs_mem hy.2.1 hm') H
    have hok : kids.length ≤ big := hx.1
    refine cK.run (cK_fn o_auguryref08_SameExpr t_auguryref08_SameExpr (Nat.le_of_ble_eq_true rfl) (by decide) ?_)
    rw [exprC_mk, exprC_mk]
    have hv : (decide (v.kind = v'.kind) && decide (v.n = v'.n) && decide (v.s = v'.s)) = decide (v = v') := by
      obtain ⟨a, b, c⟩ := v
      obtain ⟨a', b', c'⟩ := v'
      simp
      grind
    simp only [sameX]
    by_cases c1 : k = k'
    · subst c1
      generalize hZ : decide (v = v') = Z at hv ⊢
      clear hZ
      cases Z with
      | false => simp [eq_val, hv]
      | true =>
        by_cases c3 : var = var'
        · subst c3
          by_cases c4 : f = f'
          · subst c4
            by_cases c5 : kids.length = kids'.length
            · simp [eq_val, hv, c5]
              refine LR_rule (WR_mono _) (fun j E H' => ∃ pre suf pre' suf', kids = pre ++ suf ∧ kids' = pre' ++ suf' ∧ pre.length = pre'.length ∧ j = suf.length ∧ E 2 = .rf H.next 0 ∧ E 3 = .rf (H.next + 1) 0 ∧ E 5 = i64D pre.length ∧ sameXs pre pre' = true ∧
                H' = ((low0 H).add (.cells [i64D k, i64D v.kind, i64D v.n, strD v.s, strD var, strD f, slD rep kids.length (kids.flatMap exprC)])).add (.cells [i64D k, i64D v'.kind, i64D v'.n, strD v'.s, strD var, strD f, slD rep' kids'.length (kids'.flatMap exprC)])) ?_ (j := kids.length) ⟨[], kids, [], kids', rfl, rfl, rfl, rfl, by simp, by simp, by simp, rfl, by simp [c5]⟩
              rintro j E H' ⟨pre, suf, pre', suf', h0, h0', hpl, rfl, e2, e3, e5, hs, rfl⟩
              cases suf with
              | nil =>
                have hsuf' : suf' = [] := by
                  have h1 := congrArg List.length h0
                  have h2 := congrArg List.length h0'
                  simp at h1 h2
                  exact List.length_eq_zero_iff.1 (by omega)
                subst hsuf'
                simp at h0 h0'
                subst h0 h0'
                simp [e2, e3, e5, hs]
              | cons a suf =>
                obtain ⟨b, suf', rfl⟩ : ∃ b t, suf' = b :: t := by
                  cases suf' with
                  | nil =>
                    have h1 := congrArg List.length h0
                    have h2 := congrArg List.length h0'
                    simp at h1 h2
                    omega
                  | cons b t => exact ⟨b, t, rfl⟩
                have hlt : pre.length < kids.length := by rw [h0]; simp
                have hlt' : ((pre.length : Int) < (kids.length : Int)) = True := by simp; omega
                have hw := wrap_more hlt hok
                have ea := elem_at exprC_len rep kids .i64 pre.length a (by rw [h0]; simp)
                have eb := elem_at exprC_len rep' kids' .i64 pre.length b (by rw [h0', hpl]; simp)
                have hr := fun H => (ih a (by rw [h0]; simp) b (by rw [h0']; simp) H).cK
                have hsp : sameXs kids kids' = (sameX a b && sameXs suf suf') := by rw [h0, h0', sameXs_split _ _ _ _ _ _ hpl, hs, Bool.true_and]
                rw [hsp]
                cases c6 : sameX a b with
                | true =>
                  rw [c6] at hr
                  have c5' : (kids.length : Int) = (kids'.length : Int) := by omega
                  simp [e2, e3, e5, hlt', ea, eb, load_elem _ _ _ _ (exprC_len a), load_elem _ _ _ _ (exprC_len b), hr, hw]
                  refine ⟨suf.length, by omega, pre ++ [a], suf, by simp [h0], pre' ++ [b], ⟨suf', by simp [h0']⟩, by simp [hpl], rfl, by simp, ?_⟩
                  have := sameXs_split pre pre' a b [] [] hpl
                  simp [this, hs, c6, sameXs]
                | false =>
                  rw [c6] at hr
                  simp [e2, e3, e5, hlt', ea, eb, load_elem _ _ _ _ (exprC_len a), load_elem _ _ _ _ (exprC_len b), hr, hw]
            · have c5' : ¬ ((kids.length : Int) = (kids'.length : Int)) := by omega
              simp [eq_val, hv, c5, c5']
          · simp [eq_val, hv, c4]
        · simp [eq_val, hv, c3]
    · simp [c1]
theorem SamePred_run (a b : TPred) (H : Heap) : Run tab (.fn n_auguryref08_SamePred) [.agg (predC a), .agg (predC b)] H (bD (sameP a b)) H := by
  refine cK.run (cK_fn o_auguryref08_SamePred t_auguryref08_SamePred (Nat.le_of_ble_eq_true rfl) (by decide) ?_)
  have hL := fun H => (SameExpr_run a.L b.L a.okL b.okL H).cK
  have hR := fun H => (SameExpr_run a.R b.R a.okR b.okR H).cK
  unfold sameP
  by_cases c1 : a.cmp = b.cmp
  · cases c2 : sameX a.L b.L
    · simp [c1, hL, c2]
    · cases c3 : sameX a.R b.R <;> simp [c1, hL, c2, hR, c3]
  · simp [c1]
end Go.Proofs.YthdkeggdipogoaaGreatDoor.Tz

namespace Go.Aug.Api
open Go.Aug
end Go.Aug.Api
namespace Go.Proofs.YthdkeggdipogoaaGreatDoor.Tz
open Go.Aug Go.Aug.Api
set_option maxRecDepth 100000
theorem SameItem_run (x : TItem) (H : Heap) : Run tab (.fn n_auguryref08_SameItem) [.agg (itemC x), .agg (itemC x)] H (bD true) H := by
  refine cK.run (cK_fn o_auguryref08_SameItem t_auguryref08_SameItem (Nat.le_of_ble_eq_true rfl) (by decide) ?_)
  have hok := x.names.ok
  simp [itemC, Sl.enc, eqAny]
  refine LR_rule (WR_mono _) (fun j E H' => ∃ pre suf, x.names.l = pre ++ suf ∧ j = suf.length ∧ E 2 = .rf H.next 0 ∧ E 3 = .rf (H.next + 1) 0 ∧ E 5 = i64D pre.length ∧ H' = ((low0 H).add (.cells (itemC x))).add (.cells (itemC x))) ?_ (j := x.names.l.length) ⟨[], x.names.l, rfl, rfl, by simp, by simp, by simp, by simp [itemC, Sl.enc]⟩
  rintro j E H' ⟨pre, suf, hl, rfl, e2, e3, e5, rfl⟩
  cases suf with
  | nil =>
    have hl' : x.names.l = pre := by simpa using hl
    have hlt' : ((pre.length : Int) < (x.names.l.length : Int)) = False := by simp [hl']
    simp [itemC, Sl.enc, e2, e3, e5, hlt']
  | cons a suf =>
    have hlt : pre.length < x.names.l.length := by rw [hl]; simp
    have hlt' : ((pre.length : Int) < (x.names.l.length : Int)) = True := by simp; omega
    have hw := wrap_more hlt hok
    have ea := elem_at strC_len x.names.rep x.names.l .i64 pre.length a (by rw [hl]; simp)
    simp [itemC, Sl.enc, e2, e3, e5, hlt', ea]
    simp [strC, e2, e3, e5, hw]
    exact ⟨suf.length, by omega, pre ++ [a], suf, by simp [hl], rfl, by simp⟩
theorem samePs_at {l m : List TPred} (h : samePs l m = true) {i : Nat} {a b : TPred} (h1 : l[i]? = some a) (h2 : m[i]? = some b) : sameP a b = true := by
  induction l generalizing m i with
  | nil => simp at h1
  | cons x l ih =>
    cases m with
    | nil => simp at h2
    | cons y m =>
      simp only [samePs, Bool.and_eq_true] at h
      cases i with
      | zero => simp at h1 h2; subst h1 h2; exact h.1
      | succ i => simp at h1 h2; exact ih h.2 h1 h2
theorem Same_run (q q' : TQuery) (hi : q.items.l = q'.items.l) (hlen : q.preds.l.length = q'.preds.l.length) (hp : samePs q.preds.l q'.preds.l = true) (hw : q.within = q'.within) (hb : q.by_ = q'.by_) (hk : q.pick = q'.pick) (H : Heap) :
    Run tab (.fn n_auguryref08_Same) [.agg (queryC q), .agg (queryC q')] H (bD true) H := by
  refine cK.run (cK_fn o_auguryref08_Same t_auguryref08_Same (Nat.le_of_ble_eq_true rfl) (by decide) ?_)
  have h0 : ∀ q : TQuery, (queryC q)[0]? = some (q.items.enc itemC) := fun _ => rfl
  have h1 : ∀ q : TQuery, (queryC q)[1]? = some (q.preds.enc predC) := fun _ => rfl
  have hil : (q.items.l.length : Int) = (q'.items.l.length : Int) := by rw [hi]
  have hpl : (q.preds.l.length : Int) = (q'.preds.l.length : Int) := by omega
  let H2 := ((low0 H).add (.cells (queryC q))).add (.cells (queryC q'))
  have hq : ∀ q : TQuery, queryC q = [slD q.items.rep q.items.l.length (q.items.l.flatMap itemC), slD q.preds.rep q.preds.l.length (q.preds.l.flatMap predC), i64D q.within, strD q.by_, i64D q.pick] := fun _ => rfl
  rw [hq q, hq q']
  simp [hil, hlen, hw, hb, hk]
  refine LR_rule (WR_mono _) (fun j E H' => ∃ pre suf, q.items.l = pre ++ suf ∧ j = suf.length ∧ E 2 = .rf H.next 0 ∧ E 3 = .rf (H.next + 1) 0 ∧ E 5 = i64D pre.length ∧ H' = ((low0 H).add (.cells (queryC q))).add (.cells (queryC q'))) ?_ (j := q.items.l.length) ⟨[], q.items.l, rfl, rfl, by simp, by simp, by simp, by simp [hq q, hq q', hw, hb, hk, hil, hlen]⟩
  rintro j E H' ⟨pre, suf, hl, rfl, e2, e3, e5, rfl⟩
  cases suf with
  | nil =>
    have hl' : q.items.l = pre := by simpa using hl
    have hlt' : ((pre.length : Int) < (q.items.l.length : Int)) = False := by simp [hl']
    simp [hq q, hq q', e2, e3, e5, hlt']
    refine LR_rule (WR_mono _) (fun j E H' => ∃ pre suf, q.preds.l = pre ++ suf ∧ j = suf.length ∧ E 2 = .rf H.next 0 ∧ E 3 = .rf (H.next + 1) 0 ∧ E 6 = i64D pre.length ∧ H' = ((low0 H).add (.cells (queryC q))).add (.cells (queryC q'))) ?_ (j := q.preds.l.length) ⟨[], q.preds.l, rfl, rfl, by simp [e2], by simp [e3], by simp, by simp [hq q, hq q']⟩
    rintro j E H' ⟨pre, suf, hl, rfl, e2, e3, e6, rfl⟩
    cases suf with
    | nil =>
      have hl' : q.preds.l = pre := by simpa using hl
      have hlt' : ((pre.length : Int) < (q.preds.l.length : Int)) = False := by simp [hl']
      simp [hq q, hq q', e2, e3, e6, hlt']
    | cons a suf =>
      have hlt : pre.length < q.preds.l.length := by rw [hl]; simp
      have hlt' : ((pre.length : Int) < (q.preds.l.length : Int)) = True := by simp; omega
      have hwr := wrap_more hlt q.preds.ok
      have ga : q.preds.l[pre.length]? = some a := by rw [hl]; simp
      obtain ⟨b, gb⟩ : ∃ b, q'.preds.l[pre.length]? = some b := ⟨_, List.getElem?_eq_getElem (by omega)⟩
      have ea := elem_at predC_len q.preds.rep q.preds.l .i64 pre.length a ga
      have eb := elem_at predC_len q'.preds.rep q'.preds.l .i64 pre.length b gb
      have hs := fun H => (SamePred_run a b H).cK
      rw [samePs_at hp ga gb] at hs
      simp [hq q, hq q', e2, e3, e6, hlt', ea, eb, load_elem _ _ _ _ (predC_len a), load_elem _ _ _ _ (predC_len b), hs, hwr]
      exact ⟨suf.length, by omega, pre ++ [a], suf, by simp [hl], rfl, by simp⟩
  | cons a suf =>
    have hlt : pre.length < q.items.l.length := by rw [hl]; simp
    have hlt' : ((pre.length : Int) < (q.items.l.length : Int)) = True := by simp; omega
    have hwr := wrap_more hlt q.items.ok
    have ga : q.items.l[pre.length]? = some a := by rw [hl]; simp
    have ea := elem_at itemC_len q.items.rep q.items.l .i64 pre.length a ga
    have eb := elem_at itemC_len q'.items.rep q'.items.l .i64 pre.length a (by rw [← hi]; exact ga)
    have hs := fun H => (SameItem_run a H).cK
    simp [hq q, hq q', e2, e3, e5, hlt', ea, eb, load_elem _ _ _ _ (itemC_len a), hs, hwr]
    exact ⟨suf.length, by omega, pre ++ [a], suf, by simp [hl], rfl, by simp⟩
end Go.Proofs.YthdkeggdipogoaaGreatDoor.Tz
