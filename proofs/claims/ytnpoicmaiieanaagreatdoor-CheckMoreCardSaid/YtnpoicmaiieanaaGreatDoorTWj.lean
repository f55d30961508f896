/-
What the guard of great ones says of an expression. Conditions: none.
-/
import Derived.Test.YtnpoicmaiieanaaGreatDoorTW7
import Derived.Test.YtnpoicmaiieanaaGreatDoorGS
namespace Go.Proofs.YtnpoicmaiieanaaGreatDoor.Tz
open Go.Aug Go.Aug.Api
set_option maxRecDepth 100000

theorem eachVs_app : ∀ a b : List TExpr, eachVs (a ++ b) = eachVs a ++ eachVs b
  | [], _ => rfl
  | x :: a, b => by simp [eachVs, eachVs_app a b]

theorem greatExpr_bound : ∀ (x : TExpr) (_hx : okE x) (most : Int) (_h0 : 0 ≤ most) (_h1 : most ≤ 3000) (H : Heap), ∃ n, Run tab (.fn n_augurylaw08_greatExpr) [.agg (exprC x), i64D most] H (i64D n) H ∧ 1 ≤ n ∧ n ≤ most + 9001 ∧ (n < most → (eachV x).length ≤ n)
  | .mk k v var field rep kids, hx, most, h0, h1, H => by
    have ih : ∀ x ∈ kids, ∀ (most : Int) (_h0 : 0 ≤ most) (_h1 : most ≤ 3000) (H : Heap), ∃ n, Run tab (.fn n_augurylaw08_greatExpr) [.agg (exprC x), i64D most] H (i64D n) H ∧ 1 ≤ n ∧ n ≤ most + 9001 ∧ (n < most → (eachV x).length ≤ n) := fun x hm most h0 h1 H => greatExpr_bound x (okEs_mem hx.2.1 hm) most h0 h1 H
    have hok : kids.length ≤ big := hx.1
    have key : cK tab (.fn n_augurylaw08_greatExpr) [.agg (exprC (.mk k v var field rep kids)), i64D most] H fun d H' => (∃ n, d = i64D n ∧ 1 ≤ n ∧ n ≤ most + 9001 ∧ (n < most → (eachV (.mk k v var field rep kids)).length ≤ n)) ∧ H' = H := by
      have hv : ∀ n : Int, 1 ≤ n → ((eachVs kids).length : Int) + 1 ≤ n → (eachV (.mk k v var field rep kids)).length ≤ n := fun n h1 h2 => by
        unfold eachV
        split
        · simpa using h1
        · split
          · omega
          · simp; omega
      have hm : ∀ s : ByteArray, 0 ≤ (if (3000 : Int) < s.size then 3000 else (s.size : Int)) ∧ (if (3000 : Int) < s.size then 3000 else (s.size : Int)) ≤ 3000 := fun s => by split <;> omega
      refine cK_fn o_augurylaw08_greatExpr t_augurylaw08_greatExpr (Nat.le_of_ble_eq_true rfl) (by decide) ?_
      simp [exprC_mk]
      have a1 := hm var
      have a2 := hm field
      have a3 := hm v.s
      generalize (if (3000 : Int) < var.size then 3000 else (var.size : Int)) = A at a1 ⊢
      generalize (if (3000 : Int) < field.size then 3000 else (field.size : Int)) = B at a2 ⊢
      generalize (if (3000 : Int) < v.s.size then 3000 else (v.s.size : Int)) = C at a3 ⊢
      have w1 : IntKind.i64.wrap (1 + A) = 1 + A := wrap64 (by omega) (by omega)
      have w2 : IntKind.i64.wrap (1 + A + B) = 1 + A + B := wrap64 (by omega) (by omega)
      have w3 : IntKind.i64.wrap (1 + A + B + C) = 1 + A + B + C := wrap64 (by omega) (by omega)
      rw [w1, w2, w3]
      refine LR_rule (WR_mono _) (fun j E H' => H' = (low0 H).add (.cells (exprC (.mk k v var field rep kids))) ∧ ∃ pre suf n, kids = pre ++ suf ∧ j = suf.length ∧ E 1 = i64D most ∧ E 2 = .rf H.next 0 ∧ E 5 = i64D n ∧ E 6 = i64D pre.length ∧ 1 ≤ n ∧ n ≤ most + 9001 ∧ (n < most → ((eachVs pre).length : Int) + 1 ≤ n)) ?_ (j := kids.length)
        ⟨by simp [exprC_mk], [], kids, 1 + A + B + C, by simp, rfl, by simp, by simp, by simp, by simp, by omega, by omega, fun _ => by simp [eachVs]; omega⟩
      rintro j E H' ⟨rfl, pre, suf, n, hl, rfl, e1, e2, e5, e6, n1, n2, n3⟩
      cases suf with
      | nil =>
        simp at hl
        simp [exprC_mk, e2, e5, e6, hl]
        subst hl
        exact ⟨n1, n2, fun h => hv n n1 (n3 h)⟩
      | cons a suf =>
        have hlt : pre.length < kids.length := by rw [hl]; simp
        have hlt' : ((pre.length : Int) < (kids.length : Int)) = True := by simp; omega
        have hw := wrap_more hlt hok
        have e0 := elem_at exprC_len rep kids .i64 pre.length a (by rw [hl]; simp)
        simp [exprC_mk, e1, e2, e5, e6, hlt']
        refine gK_of (fun g1 => ?_) (fun g1 => ?_)
        · simp at g1
          have w4 : IntKind.i64.wrap (most - n) = most - n := wrap64 (by omega) (by omega)
          obtain ⟨na, hna, m1, m2, m3⟩ := ih a (by rw [hl]; simp) (most - n) (by omega) (by omega) ((low0 H).add (.cells [i64D k, i64D v.kind, i64D v.n, strD v.s, strD var, strD field, slD rep kids.length (kids.flatMap exprC)]))
          have w5 : IntKind.i64.wrap (n + na) = n + na := wrap64 (by omega) (by omega)
          simp [g1, e1, e2, e5, e6, e0, load_elem _ _ _ _ (exprC_len a), w4, w5, hna.cK, hw]
          refine ⟨suf.length, by omega, pre ++ [a], suf, by simp [hl], rfl, by simp, by omega, by omega, fun h => ?_⟩
          have k1 := m3 (by omega)
          have k2 := n3 g1
          simp [eachVs_app, eachVs]
          omega
        · simp at g1
          simp [g1, e5]
          exact ⟨n1, n2, fun h => by omega⟩
    obtain ⟨d, H', hr, ⟨n, rfl, h⟩, rfl⟩ := key
    exact ⟨n, hr, h⟩

theorem Great_one (q : TQuery) (p : TPred) (hi : q.items.l = []) (hp : q.preds.l = [p]) (hb : q.by_ = ⟨#[]⟩) (H : Heap) : ∃ b, Run tab (.fn n_augurylaw08_Great) [.agg (queryC q)] H (bD b) H ∧ (b = false → (eachV p.L).length ≤ 3000 ∧ (eachV p.R).length ≤ 3000) := by
  have key : cK tab (.fn n_augurylaw08_Great) [.agg (queryC q)] H fun d H' => (∃ b, d = bD b ∧ (b = false → (eachV p.L).length ≤ 3000 ∧ (eachV p.R).length ≤ 3000)) ∧ H' = H := by
    refine cK_fn o_augurylaw08_Great t_augurylaw08_Great (Nat.le_of_ble_eq_true rfl) (by decide) ?_
    have hs : (⟨#[]⟩ : ByteArray).size = 0 := rfl
    simp [queryC, Sl.enc, hi, hp, hb, hs]
    refine LR_rule (WR_mono _) (fun j E H' => H' = (low0 H).add (.cells (queryC q)) ∧ E 1 = .rf H.next 0 ∧ E 3 = i64D 1 ∧ E 4 = i64D 0) ?_ (j := 0) ⟨by simp [queryC, Sl.enc, hi, hp, hb], by simp, by simp; rfl, by simp⟩
    rintro j E H' ⟨rfl, e1, e3, e4⟩
    simp [queryC, Sl.enc, hi, hp, hb, e1, e3, e4]
    refine LR_rule (WR_mono _) (fun j E H' => H' = (low0 H).add (.cells (queryC q)) ∧ E 1 = .rf H.next 0 ∧ ((j = 1 ∧ E 3 = i64D 1 ∧ E 6 = i64D 0) ∨ (j = 0 ∧ E 6 = i64D 1 ∧ ∃ n, E 3 = i64D n ∧ (n < 3000 → (eachV p.L).length ≤ 3000 ∧ (eachV p.R).length ≤ 3000)))) ?_ (j := 1) ⟨by simp [queryC, Sl.enc, hi, hp, hb], by simp [e1], .inl ⟨rfl, by simp [e3], by simp⟩⟩
    rintro j E H' ⟨rfl, e1, h⟩
    rcases h with ⟨rfl, e3, e6⟩ | ⟨rfl, e6, n, e3, hn⟩
    · have ea := elem_at predC_len q.preds.rep [p] .i64 0 p rfl
      simp only [predC] at ea
      simp at ea
      obtain ⟨nL, hL, l1, l2, l3⟩ := greatExpr_bound p.L p.okL 3000 (by decide) (by decide) (low0 ((low0 H).add (.cells (queryC q))))
      obtain ⟨nR, hR, r1, r2, r3⟩ := greatExpr_bound p.R p.okR 3000 (by decide) (by decide) ((low0 H).add (.cells (queryC q)))
      simp only [queryC, Sl.enc, hi, hp, hb] at hL hR
      simp at hL hR
      have w1 : IntKind.i64.wrap (1 + nL) = 1 + nL := wrap64 (by omega) (by omega)
      have w2 : IntKind.i64.wrap (1 + nL + nR) = 1 + nL + nR := wrap64 (by omega) (by omega)
      simp [queryC, Sl.enc, hi, hp, hb, e1, e3, e6, ea, hL.cK, hR.cK, w1, w2]
      exact ⟨wrap64 (by omega) (by omega), fun h => ⟨by omega, by omega⟩⟩
    · simp [queryC, Sl.enc, hi, hp, hb, e1, e3, e6]
      by_cases h : n < 3000
      · exact .inl ⟨h, hn h⟩
      · exact .inr (by omega)
  obtain ⟨d, H', hr, ⟨b, rfl, h⟩, rfl⟩ := key
  exact ⟨b, hr, h⟩

end Go.Proofs.YtnpoicmaiieanaaGreatDoor.Tz
