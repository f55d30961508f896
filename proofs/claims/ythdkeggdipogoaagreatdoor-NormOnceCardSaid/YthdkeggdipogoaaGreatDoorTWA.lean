/-
The walks of what says whether queries are the same, where they are; and how deep a right expression is. Conditions: none.
-/
import Derived.Test.YthdkeggdipogoaaGreatDoorTSd
import Derived.Test.YthdkeggdipogoaaGreatDoorGT
namespace Go.Aug.Api
open Go.Aug
theorem deep_right : ∀ (x : TExpr) (n : Nat), rightX n x = true → deepX x ≤ n
  | .mk k v var f rep kids, n, h => by
    have ih : ∀ x ∈ kids, ∀ n : Nat, rightX n x = true → deepX x ≤ n := fun x _ n h => deep_right x n h
    have m0 : ¬ (n : Int) = 0 := fun e => by unfold rightX at h; rw [if_pos e] at h; cases h
    unfold deepX
    by_cases k7 : k = 7 ∨ k = 8
    · rw [if_pos k7]
      obtain ⟨m, rfl⟩ : ∃ m, n = m + 1 := ⟨n - 1, by omega⟩
      have k1 : ¬ k = 1 := by omega
      have k3 : ¬ k = 3 := by omega
      have k26 : ¬ (2 ≤ k ∧ k ≤ 6) := by omega
      unfold rightX at h
      rw [if_neg m0, if_neg k1, if_neg k3, if_neg k26, if_pos k7] at h
      simp only [Bool.and_eq_true] at h
      have h := h.2
      match kids, ih, h with
      | [a, b], ih, h =>
        simp only [rightTwoX, Bool.and_eq_true] at h
        have hm : ((m + 1 : Nat) : Int) - 1 = (m : Nat) := by omega
        rw [hm] at h
        have ha := ih a (by simp) m h.1
        have hb := ih b (by simp) m h.2
        simp only [deepsX]
        split <;> split <;> omega
      | [], _, h => cases h
      | [_], _, h => cases h
      | _ :: _ :: _ :: _, _, h => cases h
    · rw [if_neg k7]; omega
end Go.Aug.Api
namespace Go.Proofs.YthdkeggdipogoaaGreatDoor.Tz
open Go.Aug Go.Aug.Api
set_option maxRecDepth 100000
theorem tree_Deep_run : ∀ (x : TExpr) (_hx : okE x) (n : Nat) (_hn : n ≤ 6) (_hr : rightX n x = true) (H : Heap), Run tab (.fn n_tree_Deep) [.agg (exprC x)] H (i64D (deepX x)) H
  | .mk k v var f rep kids, hx, n, hn, hr, H => by
    have ih : ∀ x ∈ kids, ∀ (n : Nat) (_hn : n ≤ 6) (_hr : rightX n x = true) (H : Heap), Run tab (.fn n_tree_Deep) [.agg (exprC x)] H (i64D (deepX x)) H := fun x hmem n hn hr H => tree_Deep_run x (okEs_mem hx.2.1 hmem) n hn hr H
    have hok : kids.length ≤ big := hx.1
    have hd := deep_right _ n hr
    refine cK.run (cK_fn o_tree_Deep t_tree_Deep (Nat.le_of_ble_eq_true rfl) (by decide) ?_)
    have m0 : ¬ (n : Int) = 0 := fun e => by unfold rightX at hr; rw [if_pos e] at hr; cases hr
    rw [exprC_mk]
    have hw1 : IntKind.i64.wrap 1 = 1 := by decide
    by_cases k7 : k = 7 ∨ k = 8
    · have hk : ∀ x ∈ kids, ∃ m : Nat, m ≤ 6 ∧ rightX m x = true := fun x hm => by
        obtain ⟨m, rfl⟩ : ∃ m, n = m + 1 := ⟨n - 1, by omega⟩
        have k1 : ¬ k = 1 := by omega
        have k3 : ¬ k = 3 := by omega
        have k26 : ¬ (2 ≤ k ∧ k ≤ 6) := by omega
        unfold rightX at hr
        rw [if_neg m0, if_neg k1, if_neg k3, if_neg k26, if_pos k7] at hr
        simp only [Bool.and_eq_true] at hr
        have h := hr.2
        have hm1 : ((m + 1 : Nat) : Int) - 1 = (m : Nat) := by omega
        rw [hm1] at h
        match kids, h, hm with
        | [a, b], h, hm =>
          simp only [rightTwoX, Bool.and_eq_true] at h
          simp at hm
          rcases hm with rfl | rfl
          · exact ⟨m, by omega, h.1⟩
          · exact ⟨m, by omega, h.2⟩
        | [], h, _ => cases h
        | [_], h, _ => cases h
        | _ :: _ :: _ :: _, h, _ => cases h
      have hdx : deepX (.mk k v var f rep kids) = deepsX 0 kids + 1 := by unfold deepX; rw [if_pos k7]
      rw [hdx] at hd ⊢
      have main : ∀ Q : PostX, (∀ E H', E 3 = i64D (deepsX 0 kids) → H'.low = H.next → Q (.exit 0) E H') → ∀ (E : Fr) (H1 : Heap), E 3 = i64D 0 → E 15 = slD rep kids.length (kids.flatMap exprC) → E 16 = i64D kids.length → E 17 = i64D 0 → H1.low = H.next → H.next ≤ H1.next → LR (WR 28 tab none F_tree_Deep.l8) E H1 Q := by
        intro Q hQ E H1 e3 e15 e16 e17 w1 w2
        refine LR_rule (WR_mono _) (fun j E H' => ∃ pre suf m, kids = pre ++ suf ∧ j = suf.length ∧ E 3 = i64D m ∧ 0 ≤ m ∧ m ≤ 6 ∧ deepsX 0 kids = deepsX m suf ∧ E 15 = slD rep kids.length (kids.flatMap exprC) ∧ E 16 = i64D kids.length ∧ E 17 = i64D pre.length ∧ H'.low = H.next ∧ H.next ≤ H'.next) ?_ (j := kids.length) ⟨[], kids, 0, rfl, rfl, e3, by omega, by omega, rfl, e15, e16, e17, w1, w2⟩
        rintro j E H' ⟨pre, suf, m, hl, rfl, e3, m1, m2, hm, e15, e16, e17, w1, w2⟩
        cases suf with
        | nil =>
          have hl' : kids = pre := by simpa using hl
          have hlt' : ((pre.length : Int) < (kids.length : Int)) = False := by simp [hl']
          simp [e16, e17, hlt']
          exact hQ _ _ (by simp [e3, hm, deepsX]) w1
        | cons a suf =>
          have hlt : pre.length < kids.length := by rw [hl]; simp
          have hlt' : ((pre.length : Int) < (kids.length : Int)) = True := by simp; omega
          have hw := wrap_more hlt hok
          have ea := elem_at exprC_len rep kids .i64 pre.length a (by rw [hl]; simp)
          obtain ⟨na, ha1, ha2⟩ := hk a (by rw [hl]; simp)
          have hA := fun H => (ih a (by rw [hl]; simp) na ha1 ha2 H).cK
          have hda := deep_right a na ha2
          have hle : H'.low ≤ H'.next := by omega
          simp [e3, e15, e16, e17, hlt', ea, load_elem _ _ _ _ (exprC_len a), setAll_full, hle, hA, hw]
          refine ⟨suf.length, by omega, pre ++ [a], suf, by simp [hl], rfl, by split <;> omega, by split <;> omega, ?_, by simp, w1, by omega⟩
          rw [hm]
          simp only [deepsX]
      have hw2 : IntKind.i64.wrap (deepsX 0 kids + 1) = deepsX 0 kids + 1 := by
        have := deep_pos (.mk k v var f rep kids)
        rw [hdx] at this
        exact wrap64 (by omega) (by omega)
      rcases k7 with rfl | rfl
      · simp
        refine main _ (fun E H' e3 w1 => ?_) _ _ (by simp) (by simp) (by simp) (by simp) (by simp) (by simp)
        simp [e3, w1, hw2]
      · simp
        refine main _ (fun E H' e3 w1 => ?_) _ _ (by simp) (by simp) (by simp) (by simp) (by simp) (by simp)
        simp [e3, w1, hw2]
    · have h7 : k ≠ 7 := fun h => k7 (.inl h)
      have h8 : k ≠ 8 := fun h => k7 (.inr h)
      have hdx : deepX (.mk k v var f rep kids) = 1 := by unfold deepX; rw [if_neg k7]; rfl
      rw [hdx]
      simp [h7, h8, hw1]
theorem SameItem_run (x : TItem) (H : Heap) : Run tab (.fn n_auguryref08_SameItem) [.agg (itemC x), .agg (itemC x)] H (bD true) H := by
  refine cK.run (cK_fn o_auguryref08_SameItem t_auguryref08_SameItem (Nat.le_of_ble_eq_true rfl) (by decide) ?_)
  have hok := x.names.ok
  simp [itemC, Sl.enc, eqAny]
  refine LR_rule (WR_mono _) (fun j E H' => ∃ pre suf, x.names.l = pre ++ suf ∧ j = suf.length ∧ E 2 = .rf H.next 0 ∧ E 3 = .rf (H.next + 1) 0 ∧ E 5 = i64D pre.length ∧ H' = ((low0 H).add (.cells (itemC x))).add (.cells (itemC x))) ?_ (j := x.names.l.length) ⟨[], x.names.l, rfl, rfl, by simp, by simp, by simp, by simp [itemC, Sl.enc]⟩
  rintro j E H' ⟨pre, suf, hl, rfl, e2, e3, e5, rfl⟩
  cases suf with
  | nil =>
    have hl' : x.names.l = pre := by simpa using hl
    have hlt' : ((pre.length : Int) < (x.names.l.length : Int)) = False := by simp [hl']
    simp [itemC, Sl.enc, e2, e3, e5, hlt']
  | cons a suf =>
    have hlt : pre.length < x.names.l.length := by rw [hl]; simp
    have hlt' : ((pre.length : Int) < (x.names.l.length : Int)) = True := by simp; omega
    have hw := wrap_more hlt hok
    have ea := elem_at strC_len x.names.rep x.names.l .i64 pre.length a (by rw [hl]; simp)
    simp [itemC, Sl.enc, e2, e3, e5, hlt', ea]
    simp [strC, e2, e3, e5, hw]
    exact ⟨suf.length, by omega, pre ++ [a], suf, by simp [hl], rfl, by simp⟩
theorem samePs_at {l m : List TPred} (h : samePs l m = true) {i : Nat} {a b : TPred} (h1 : l[i]? = some a) (h2 : m[i]? = some b) : sameP a b = true := by
  induction l generalizing m i with
  | nil => simp at h1
  | cons x l ih =>
    cases m with
    | nil => simp at h2
    | cons y m =>
      simp only [samePs, Bool.and_eq_true] at h
      cases i with
      | zero => simp at h1 h2; subst h1 h2; exact h.1
      | succ i => simp at h1 h2; exact ih h.2 h1 h2
theorem Same_run (q q' : TQuery) (hi : q.items.l = q'.items.l) (hlen : q.preds.l.length = q'.preds.l.length) (hp : samePs q.preds.l q'.preds.l = true) (hw : q.within = q'.within) (hb : q.by_ = q'.by_) (hk : q.pick = q'.pick) (H : Heap) :
    Run tab (.fn n_auguryref08_Same) [.agg (queryC q), .agg (queryC q')] H (bD true) H := by
  refine cK.run (cK_fn o_auguryref08_Same t_auguryref08_Same (Nat.le_of_ble_eq_true rfl) (by decide) ?_)
  have h0 : ∀ q : TQuery, (queryC q)[0]? = some (q.items.enc itemC) := fun _ => rfl
  have h1 : ∀ q : TQuery, (queryC q)[1]? = some (q.preds.enc predC) := fun _ => rfl
  have hil : (q.items.l.length : Int) = (q'.items.l.length : Int) := by rw [hi]
  have hpl : (q.preds.l.length : Int) = (q'.preds.l.length : Int) := by omega
  let H2 := ((low0 H).add (.cells (queryC q))).add (.cells (queryC q'))
  have hq : ∀ q : TQuery, queryC q = [slD q.items.rep q.items.l.length (q.items.l.flatMap itemC), slD q.preds.rep q.preds.l.length (q.preds.l.flatMap predC), i64D q.within, strD q.by_, i64D q.pick] := fun _ => rfl
  rw [hq q, hq q']
  simp [hil, hlen, hw, hb, hk]
  refine LR_rule (WR_mono _) (fun j E H' => ∃ pre suf, q.items.l = pre ++ suf ∧ j = suf.length ∧ E 2 = .rf H.next 0 ∧ E 3 = .rf (H.next + 1) 0 ∧ E 5 = i64D pre.length ∧ H' = ((low0 H).add (.cells (queryC q))).add (.cells (queryC q'))) ?_ (j := q.items.l.length) ⟨[], q.items.l, rfl, rfl, by simp, by simp, by simp, by simp [hq q, hq q', hw, hb, hk, hil, hlen]⟩
  rintro j E H' ⟨pre, suf, hl, rfl, e2, e3, e5, rfl⟩
  cases suf with
  | nil =>
    have hl' : q.items.l = pre := by simpa using hl
    have hlt' : ((pre.length : Int) < (q.items.l.length : Int)) = False := by simp [hl']
    simp [hq q, hq q', e2, e3, e5, hlt']
    refine LR_rule (WR_mono _) (fun j E H' => ∃ pre suf, q.preds.l = pre ++ suf ∧ j = suf.length ∧ E 2 = .rf H.next 0 ∧ E 3 = .rf (H.next + 1) 0 ∧ E 6 = i64D pre.length ∧ H' = ((low0 H).add (.cells (queryC q))).add (.cells (queryC q'))) ?_ (j := q.preds.l.length) ⟨[], q.preds.l, rfl, rfl, by simp [e2], by simp [e3], by simp, by simp [hq q, hq q']⟩
    rintro j E H' ⟨pre, suf, hl, rfl, e2, e3, e6, rfl⟩
    cases suf with
    | nil =>
      have hl' : q.preds.l = pre := by simpa using hl
      have hlt' : ((pre.length : Int) < (q.preds.l.length : Int)) = False := by simp [hl']
      simp [hq q, hq q', e2, e3, e6, hlt']
    | cons a suf =>
      have hlt : pre.length < q.preds.l.length := by rw [hl]; simp
      have hlt' : ((pre.length : Int) < (q.preds.l.length : Int)) = True := by simp; omega
      have hwr := wrap_more hlt q.preds.ok
      have ga : q.preds.l[pre.length]? = some a := by rw [hl]; simp
      obtain ⟨b, gb⟩ : ∃ b, q'.preds.l[pre.length]? = some b := ⟨_, List.getElem?_eq_getElem (by omega)⟩
      have ea := elem_at predC_len q.preds.rep q.preds.l .i64 pre.length a ga
      have eb := elem_at predC_len q'.preds.rep q'.preds.l .i64 pre.length b gb
      have hs := fun H => (SamePred_run a b H).cK
      rw [samePs_at hp ga gb] at hs
      simp [hq q, hq q', e2, e3, e6, hlt', ea, eb, load_elem _ _ _ _ (predC_len a), load_elem _ _ _ _ (predC_len b), hs, hwr]
      exact ⟨suf.length, by omega, pre ++ [a], suf, by simp [hl], rfl, by simp⟩
  | cons a suf =>
    have hlt : pre.length < q.items.l.length := by rw [hl]; simp
    have hlt' : ((pre.length : Int) < (q.items.l.length : Int)) = True := by simp; omega
    have hwr := wrap_more hlt q.items.ok
    have ga : q.items.l[pre.length]? = some a := by rw [hl]; simp
    have ea := elem_at itemC_len q.items.rep q.items.l .i64 pre.length a ga
    have eb := elem_at itemC_len q'.items.rep q'.items.l .i64 pre.length a (by rw [← hi]; exact ga)
    have hs := fun H => (SameItem_run a H).cK
    simp [hq q, hq q', e2, e3, e5, hlt', ea, eb, load_elem _ _ _ _ (itemC_len a), hs, hwr]
    exact ⟨suf.length, by omega, pre ++ [a], suf, by simp [hl], rfl, by simp⟩
end Go.Proofs.YthdkeggdipogoaaGreatDoor.Tz
