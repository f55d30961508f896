/-
The walks of the guards: they end, with some answer. Conditions: none.
-/
import Derived.Test.YtlnkifnkamojnaaGreatGP
namespace Go.Proofs.YtlnkifnkamojnaaGreat.Tz
open Go.Aug Go.Aug.Api
set_option maxRecDepth 100000
theorem wrap_more {a n : Nat} (h : a < n) (hn : n ≤ big) : IntKind.i64.wrap ((a : Int) + 1) = (a : Int) + 1 := by
  have hn : n ≤ 9223372036854775807 := hn
  rw [wrap64 (by omega) (by omega)]
abbrev SomeB (T : Tab) (f : Nat) (args : List D) (H : Heap) : Prop := cK T (.fn f) args H fun d H' => (∃ b, d = bD b) ∧ H' = H
abbrev SomeI (T : Tab) (f : Nat) (args : List D) (H : Heap) : Prop := cK T (.fn f) args H fun d H' => (∃ n, d = i64D n) ∧ H' = H
theorem SomeB.run {T : Tab} {f : Nat} {args : List D} {H : Heap} (h : SomeB T f args H) : ∃ b, Run T (.fn f) args H (bD b) H := by
  obtain ⟨d, H', h1, ⟨b, rfl⟩, rfl⟩ := h
  exact ⟨b, h1⟩
theorem SomeI.run {T : Tab} {f : Nat} {args : List D} {H : Heap} (h : SomeI T f args H) : ∃ n, Run T (.fn f) args H (i64D n) H := by
  obtain ⟨d, H', h1, ⟨b, rfl⟩, rfl⟩ := h
  exact ⟨b, h1⟩
theorem greatExpr_run : ∀ (x : TExpr) (_hx : okE x) (most : Int) (H : Heap), SomeI tab n_q1 [.agg (exprC x), i64D most] H
  | .mk k v var field rep kids, hx, most, H => by
    have ih : ∀ x ∈ kids, ∀ (most : Int) (H : Heap), ∃ n, Run tab (.fn n_q1) [.agg (exprC x), i64D most] H (i64D n) H := fun x hm most H => (greatExpr_run x (okEs_mem hx.2.1 hm) most H).run
    have hok : kids.length ≤ big := hx.1
    refine cK_fn o_q1 t_q1 (Nat.le_of_ble_eq_true rfl) (by decide) ?_
    simp [exprC_mk]
    refine LR_rule (WR_mono _) (fun j E H' => H' = (low0 H).add (.cells (exprC (.mk k v var field rep kids))) ∧ ∃ pre suf n, kids = pre ++ suf ∧ j = suf.length ∧ E 1 = i64D most ∧ E 2 = .rf H.next 0 ∧ E 5 = i64D n ∧ E 6 = i64D pre.length) ?_ (j := kids.length)
      ⟨by simp [exprC_mk], [], kids, _, by simp, rfl, by simp, by simp, by simp; rfl, by simp⟩
    rintro j E H' ⟨rfl, pre, suf, n, hl, rfl, e1, e2, e5, e6⟩
    cases suf with
    | nil =>
      simp at hl
      simp [exprC_mk, e2, e5, e6, hl]
    | cons a suf =>
      have hlt : pre.length < kids.length := by rw [hl]; simp
      have hlt' : ((pre.length : Int) < (kids.length : Int)) = True := by simp; omega
      have hw := wrap_more hlt hok
      have e0 := elem_at exprC_len rep kids .i64 pre.length a (by rw [hl]; simp)
      have ha := ih a (by rw [hl]; simp)
      simp [exprC_mk, e1, e2, e5, e6, hlt']
      refine gK_of (fun h1 => ?_) (fun h1 => ?_)
      · simp [h1, e1, e2, e5, e6, e0, load_elem _ _ _ _ (exprC_len a)]
        obtain ⟨na, hna⟩ := ha (IntKind.i64.wrap (most - n)) ((low0 H).add (.cells [i64D k, i64D v.kind, i64D v.n, strD v.s, strD var, strD field, slD rep kids.length (kids.flatMap exprC)]))
        simp [hna.cK, hw]
        exact ⟨suf.length, by omega, pre ++ [a], suf, by simp [hl], rfl, by simp⟩
      · simp [h1, e5]
theorem Great_second (q : TQuery) (H : Heap) (Q : PostX) (hQ : ∀ E n, E 3 = i64D n → Q (.exit 4) E ((low0 H).add (.cells (queryC q)))) (E : Fr) (n : Int) (g1 : E 1 = .rf H.next 0) (g3 : E 3 = i64D n) (g6 : E 6 = i64D 0) :
    LR (WR 106 tab none F_q0.l16) E ((low0 H).add (.cells (queryC q))) Q := by
  refine LR_rule (WR_mono _) (fun j E H' => H' = (low0 H).add (.cells (queryC q)) ∧ ∃ pre suf n, q.preds.l = pre ++ suf ∧ j = suf.length ∧ E 1 = .rf H.next 0 ∧ E 3 = i64D n ∧ E 6 = i64D pre.length) ?_ (j := q.preds.l.length) ⟨rfl, [], q.preds.l, n, by simp, rfl, g1, g3, by simp [g6]⟩
  rintro j E H' ⟨rfl, pre, suf, n, hl, rfl, e1, e3, e6⟩
  cases suf with
  | nil =>
    simp at hl
    simp [queryC, Sl.enc, e1, e6, hl]
    have := hQ (upd E 3 (i64D n)) n (by simp)
    simp [queryC, Sl.enc, hl] at hQ
    exact hQ _ n (by simp [e3])
  | cons a suf =>
    have hlt : pre.length < q.preds.l.length := by rw [hl]; simp
    have hlt' : ((pre.length : Int) < (q.preds.l.length : Int)) = True := by simp; omega
    have hw := wrap_more hlt q.preds.ok
    have ea := elem_at predC_len q.preds.rep q.preds.l .i64 pre.length a (by rw [hl]; simp)
    simp only [predC] at ea
    simp at ea
    simp [queryC, Sl.enc, e1, e3, e6, hlt']
    refine gK_of (fun h1 => ?_) (fun h1 => ?_)
    · obtain ⟨nL, hL⟩ := (greatExpr_run a.L a.okL 3000 (low0 ((low0 H).add (.cells (queryC q))))).run
      obtain ⟨nR, hR⟩ := (greatExpr_run a.R a.okR 3000 ((low0 H).add (.cells (queryC q)))).run
      simp only [queryC, Sl.enc] at hL hR
      simp [h1, e1, e3, e6, ea, hL.cK, hR.cK, hw]
      exact ⟨suf.length, by omega, pre ++ [a], suf, by simp [hl], rfl, by simp⟩
    · simp [h1]
      simp only [queryC, Sl.enc] at hQ
      exact hQ _ n (by simp [e3])
theorem Great_run (q : TQuery) (H : Heap) : SomeB tab n_q0 [.agg (queryC q)] H := by
  refine cK_fn o_q0 t_q0 (Nat.le_of_ble_eq_true rfl) (by decide) ?_
  simp [queryC, Sl.enc]
  refine LR_rule (WR_mono _) (fun j E H' => H' = (low0 H).add (.cells (queryC q)) ∧ ∃ pre suf n, q.items.l = pre ++ suf ∧ j = suf.length ∧ E 1 = .rf H.next 0 ∧ E 3 = i64D n ∧ E 4 = i64D pre.length) ?_ (j := q.items.l.length) ⟨rfl, [], q.items.l, _, by simp, rfl, by simp, by simp; rfl, by simp⟩
  rintro j E H' ⟨rfl, pre, suf, n, hl, rfl, e1, e3, e4⟩
  have hq : (low0 H).add (.cells (queryC q)) = (low0 H).add (.cells [slD q.items.rep q.items.l.length (q.items.l.flatMap itemC), slD q.preds.rep q.preds.l.length (q.preds.l.flatMap predC), i64D q.within, strD q.by_, i64D q.pick]) := rfl
  cases suf with
  | nil =>
    simp at hl
    have hlt' : ((pre.length : Int) < (q.items.l.length : Int)) = False := by simp [hl]
    simp [queryC, Sl.enc, e1, e4, hlt']
    refine Great_second q H _ (fun E n g3 => ?_) _ n (by simp [e1]) (by simp [e3]) (by simp)
    simp [queryC, g3]
    omega
  | cons a suf =>
    have hlt : pre.length < q.items.l.length := by rw [hl]; simp
    have hlt' : ((pre.length : Int) < (q.items.l.length : Int)) = True := by simp; omega
    have hw := wrap_more hlt q.items.ok
    have ea := elem_at itemC_len q.items.rep q.items.l .i64 pre.length a (by rw [hl]; simp)
    simp only [itemC] at ea
    simp at ea
    simp [queryC, Sl.enc, e1, e3, e4, hlt']
    refine gK_of (fun h1 => ?_) (fun h1 => ?_)
    · simp [h1, e1, e3, e4, ea, Sl.enc]
      refine LR_rule (WR_mono _) (fun j E H' => H' = (low0 H).add (.cells (queryC q)) ∧ ∃ pre2 suf2 n, a.names.l = pre2 ++ suf2 ∧ j = suf2.length ∧ E 1 = .rf H.next 0 ∧ E 3 = i64D n ∧ E 4 = i64D pre.length ∧ E 5 = i64D pre2.length) ?_ (j := a.names.l.length) ⟨rfl, [], a.names.l, _, by simp, rfl, by simp [e1], by simp; rfl, by simp [e4], by simp⟩
      rintro j2 E2 H2 ⟨rfl, pre2, suf2, n2, hl2, rfl, f1, f3, f4, f5⟩
      cases suf2 with
      | nil =>
        simp at hl2
        simp [queryC, f1, f3, f4, f5, ea, Sl.enc, hl2, hw]
        exact ⟨suf.length, by omega, pre ++ [a], suf, by simp [hl], rfl, by simp⟩
      | cons b suf2 =>
        have hlt2 : pre2.length < a.names.l.length := by rw [hl2]; simp
        have hlt2' : ((pre2.length : Int) < (a.names.l.length : Int)) = True := by simp; omega
        have hw2 := wrap_more hlt2 a.names.ok
        have eb := elem_at strC_len a.names.rep a.names.l .i64 pre2.length b (by rw [hl2]; simp)
        simp only [strC] at eb
        simp at eb
        simp [queryC, f1, f3, f4, f5, ea, Sl.enc, hlt2']
        refine gK_of (fun h2 => ?_) (fun h2 => ?_)
        · simp [h2, f1, f3, f4, f5, ea, eb, Sl.enc, hw2]
          exact ⟨suf2.length, by omega, pre2 ++ [b], suf2, by simp [hl2], rfl, by simp⟩
        · simp [h2, f1, f3, f4, hw]
          exact ⟨suf.length, by omega, pre ++ [a], suf, by simp [hl], rfl, by simp⟩
    · simp [h1]
      refine Great_second q H _ (fun E n g3 => ?_) _ n (by simp [e1]) (by simp [e3]) (by simp)
      simp [queryC, g3]
      omega
end Go.Proofs.YtlnkifnkamojnaaGreat.Tz
