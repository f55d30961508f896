/-
The walk of EvalTurned. Conditions: none.
-/
import Derived.Test.YtnkbdcaiepecdaaGreatTV4
import Derived.Test.YtnkbdcaiepecdaaGreatTV5
namespace Go.Proofs.YtnkbdcaiepecdaaGreat.Tz
open Go.Aug Go.Aug.Api
set_option maxRecDepth 100000

theorem o_turned : tab.orc n_augurylaw11_EvalTurned = none := by kernel_rfl

def turnC : List D := [i64D 0, i64D 1, i64D 2, i64D 5, i64D 6, i64D 3, i64D 4]
def notC : List D := [i64D 0, i64D 2, i64D 1, i64D 6, i64D 5, i64D 4, i64D 3]
theorem turn_at {op : Int} (h1 : 1 ≤ op) (h6 : op ≤ 6) : turnC[op.toNat]? = some (i64D (turnI op)) := by
  rcases six h1 h6 with rfl | rfl | rfl | rfl | rfl | rfl <;> rfl
theorem not_at {op : Int} (h1 : 1 ≤ op) (h6 : op ≤ 6) : notC[op.toNat]? = some (i64D (notI op)) := by
  rcases six h1 h6 with rfl | rfl | rfl | rfl | rfl | rfl <;> rfl

theorem build_pred (op a1 a2 a3 a4 a5 a6 a7 a8 a9 a10 a11 a12 a13 a14 : D) (x y : TExpr) : setAll (setAll [op, a1, a2, a3, a4, a5, a6, a7, a8, a9, a10, a11, a12, a13, a14] 1 (exprC x)) 8 (exprC y) = op :: (exprC x ++ exprC y) := by
  rw [exprC_eq, exprC_eq]
  simp
theorem build_len (op a1 a2 a3 a4 a5 a6 a7 a8 a9 a10 a11 a12 a13 a14 : D) (x : TExpr) : (setAll [op, a1, a2, a3, a4, a5, a6, a7, a8, a9, a10, a11, a12, a13, a14] 1 (exprC x)).length = 15 := by
  rw [exprC_eq]
  simp

theorem eq_bool (a b : Bool) : eqAny .bool (bD a) (bD b) = some (decide (a = b)) := by cases a <;> cases b <;> rfl

theorem turned_walk (l : Sl TSchema) (q : TQuery) (b : Sl (Sl TEvent)) (H : Heap) :
    cK tab (.fn n_augurylaw11_EvalTurned) [l.enc schemaC, .agg (queryC q), b.enc rowC] H fun d H' => d = bD true ∧ H' = H := by
  refine cK_fn o_turned t_augurylaw11_EvalTurned (Nat.le_of_ble_eq_true rfl) (by decide) ?_
  obtain ⟨g1, hg1⟩ := (GreatSchemas_run l ((low0 H).add (.cells (queryC q)))).run
  obtain ⟨g2, hg2⟩ := (Great_run q ((low0 H).add (.cells (queryC q)))).run
  obtain ⟨d3, H3, hg3, ⟨g3, rfl, -⟩, rfl⟩ := GreatBound_run b ((low0 H).add (.cells (queryC q)))
  have c1 := hg1.cK
  have c2 := hg2.cK
  have c3 := hg3.cK
  simp only [Sl.enc, queryC] at c1 c2 c3
  cases g1 with
  | true => simp [queryC, Sl.enc, (headT_run _).cK, c1]
  | false =>
  cases g2 with
  | true => simp [queryC, Sl.enc, (headT_run _).cK, c1, c2]
  | false =>
  cases g3 with
  | true => simp [queryC, Sl.enc, (headT_run _).cK, c1, c2, c3]
  | false =>
  simp [queryC, Sl.enc, (headT_run _).cK, c1, c2, c3]
  refine LR_rule (WR_mono _) (fun j E H' => ∃ pre suf, q.preds.l = pre ++ suf ∧ j = suf.length ∧ E 0 = l.enc schemaC ∧ E 2 = b.enc rowC ∧ E 4 = .rf H.next 0 ∧ E 7 = bD true ∧ E 8 = .rs (H.next + 1) 0 7 (some 7) 1 ∧ E 9 = .rs (H.next + 2) 0 7 (some 7) 1 ∧ E 10 = i64D pre.length ∧
    H'.get H.next = some (.cells (queryC q)) ∧ H'.get (H.next + 1) = some (.cells turnC) ∧ H'.get (H.next + 2) = some (.cells notC) ∧ H.next + 3 ≤ H'.next ∧ H.next ≤ H'.low ∧ H'.low ≤ H'.next) ?_ (j := q.preds.l.length) ⟨[], q.preds.l, by simp [Sl.enc, queryC, turnC, notC]⟩
  rintro j E H' ⟨pre, suf, hl, rfl, e0, e2, e4, e7, e8, e9, e10, gN, gt, gn, hn, hlow, hlw⟩
  cases suf with
  | nil =>
    simp at hl
    simp [queryC, Sl.enc, e4, e7, e10, gN, hl, hlow]
  | cons p suf =>
    have hlt : pre.length < q.preds.l.length := by rw [hl]; simp
    have hlt' : ((pre.length : Int) < (q.preds.l.length : Int)) = True := by simp; omega
    have hw := wrap_more hlt q.preds.ok
    have ep := elem_at predC_len q.preds.rep q.preds.l .i64 pre.length p (by rw [hl]; simp)
    have hx0 : (H.next = H'.next) = False := by simp; omega
    have hx1 : ∀ k, (H.next = H'.next + k) = False := by simp; omega
    have hx2 : (H.next + 1 = H'.next) = False := by simp; omega
    have hx3 : (H.next + 2 = H'.next) = False := by simp; omega
    have hx4 : ∀ k, (H.next + 1 = H'.next + k) = False := by simp; omega
    have hx5 : ∀ k, (H.next + 2 = H'.next + k) = False := by simp; omega
    have hlk : ∀ k, (H'.low ≤ H'.next + k) = True := by simp; omega
    have next : ∀ k, 1 ≤ k → ∃ j', j' < suf.length + 1 ∧ ∃ pre_1 suf, q.preds.l = pre_1 ++ suf ∧ j' = suf.length ∧ (pre.length : Int) + 1 = (pre_1.length : Int) ∧ H.next + 2 ≤ H'.next + (k - 1) ∧ H.next ≤ H'.low := fun k _ =>
      ⟨suf.length, by omega, pre ++ [p], suf, by simp [hl], rfl, by simp, by omega, hlow⟩
    have vV := fun x H => (eval_Value_run l q b x H).cK
    have vH := fun H => (eval_Holds_run l q b p H).cK
    simp only [Sl.enc, queryC, VE.enc] at vV vH
    simp [queryC, Sl.enc, e4, e10, gN, hlt', ep, hlw, load_elem _ _ _ _ (predC_len p), setAll_full]
    by_cases c1 : p.cmp < 1
    · simp [c1, queryC, Sl.enc, e0, e2, e4, e7, e8, e9, e10, gN, gt, gn, hw, hlk, hx0, hx2, hx3]
      exact next 1 (by omega)
    by_cases c2 : 6 < p.cmp
    · simp [c1, c2, queryC, Sl.enc, e0, e2, e4, e7, e8, e9, e10, gN, gt, gn, hw, hlk, hx0, hx2, hx3]
      exact next 1 (by omega)
    have h1 : 1 ≤ p.cmp := by omega
    have h6 : p.cmp ≤ 6 := by omega
    have h0 : 0 ≤ p.cmp := by omega
    have h7 : p.cmp < 7 := by omega
    have vT := fun H => (eval_Holds_run l q b ⟨turnI p.cmp, p.R, p.L, p.okR, p.okL⟩ H).cK
    simp only [holds_turn h1 h6, Sl.enc, queryC, predC] at vT
    have vN := fun H => (eval_Holds_run l q b ⟨notI p.cmp, p.L, p.R, p.okL, p.okR⟩ H).cK
    simp only [Sl.enc, queryC, predC] at vN
    have vR := fun k n s H => (ref04_Right_run k n s H).cK
    have hN := holds_not h1 h6 ⟨l, q, b⟩ p.L p.R
    have vL := vV p.L
    have vW := vV p.R
    generalize valueS ⟨l, q, b⟩ p.L = x at hN vL
    generalize valueS ⟨l, q, b⟩ p.R = y at hN vW
    obtain ⟨⟨xk, xn, xs⟩, xe⟩ := x
    obtain ⟨⟨yk, yn, ys⟩, ye⟩ := y
    simp only at hN
    by_cases d1 : xe = 0
    · by_cases d2 : ye = 0
      · by_cases d3 : xk = yk
        · subst d3
          by_cases d4 : xk = 3
          · simp [d1, d2, d4, queryC, Sl.enc, e0, e2, e4, e7, e8, e9, e10, gN, gt, gn, hw, hlk, hx0, hx1, hx2, hx3, hx5, build_pred, build_len, vT, vL, vW, eq_bool, c1, c2, vH, h0, h7, turn_at h1 h6, valC]
            exact ⟨suf.length, by omega, pre ++ [p], suf, by simp [hl], rfl, by simp, by omega, hlow⟩
          · cases d5 : rightV ⟨xk, xn, xs⟩
            · simp [d1, d2, d4, d5, queryC, Sl.enc, e0, e2, e4, e7, e8, e9, e10, gN, gt, gn, hw, hlk, hx0, hx1, hx2, hx3, hx5, build_pred, build_len, vT, vL, vW, vR, eq_bool, c1, c2, vH, h0, h7, turn_at h1 h6, valC]
              exact ⟨suf.length, by omega, pre ++ [p], suf, by simp [hl], rfl, by simp, by omega, hlow⟩
            · cases d6 : rightV ⟨xk, yn, ys⟩
              · simp [d1, d2, d4, d5, d6, queryC, Sl.enc, e0, e2, e4, e7, e8, e9, e10, gN, gt, gn, hw, hlk, hx0, hx1, hx2, hx3, hx5, build_pred, build_len, vT, vL, vW, vR, eq_bool, c1, c2, vH, h0, h7, turn_at h1 h6, valC]
                exact ⟨suf.length, by omega, pre ++ [p], suf, by simp [hl], rfl, by simp, by omega, hlow⟩
              · have := hN d1 d2 rfl d4 d5 d6
                simp [d1, d2, d4, d5, d6, this, queryC, Sl.enc, e0, e2, e4, e7, e8, e9, e10, gN, gt, gn, hw, hlk, hx0, hx1, hx2, hx3, hx5, build_pred, build_len, vT, vL, vW, vR, vN, eq_bool, c1, c2, vH, h0, h7, turn_at h1 h6, not_at h1 h6, valC]
                exact ⟨suf.length, by omega, pre ++ [p], suf, by simp [hl], rfl, by simp, by omega, hlow⟩
        · simp [d1, d2, d3, queryC, Sl.enc, e0, e2, e4, e7, e8, e9, e10, gN, gt, gn, hw, hlk, hx0, hx1, hx2, hx3, hx5, build_pred, build_len, vT, vL, vW, eq_bool, c1, c2, vH, h0, h7, turn_at h1 h6, valC]
          exact ⟨suf.length, by omega, pre ++ [p], suf, by simp [hl], rfl, by simp, by omega, hlow⟩
      · simp [d1, d2, queryC, Sl.enc, e0, e2, e4, e7, e8, e9, e10, gN, gt, gn, hw, hlk, hx0, hx1, hx2, hx3, hx5, build_pred, build_len, vT, vL, vW, eq_bool, c1, c2, vH, h0, h7, turn_at h1 h6, valC]
        exact ⟨suf.length, by omega, pre ++ [p], suf, by simp [hl], rfl, by simp, by omega, hlow⟩
    · simp [d1, queryC, Sl.enc, e0, e2, e4, e7, e8, e9, e10, gN, gt, gn, hw, hlk, hx0, hx1, hx2, hx3, hx5, build_pred, build_len, vT, vL, vW, eq_bool, c1, c2, vH, h0, h7, turn_at h1 h6, valC]
      exact ⟨suf.length, by omega, pre ++ [p], suf, by simp [hl], rfl, by simp, by omega, hlow⟩

end Go.Proofs.YtnkbdcaiepecdaaGreat.Tz
