/-
EvalNothing: the plain law, and the walk. Conditions: none.
-/
import Derived.Test.YtnkbdcaiepecdaaGreatTWd
import Derived.Test.YtnkbdcaiepecdaaGreatTWc
namespace Go.Aug.Api
open Go.Aug

theorem idx_var (l : List TItem) (x : TItem) (h : x ∈ l) : ¬ idx (fun y : TItem => decide (y.var = x.var)) l < 0 := by
  rcases idx_cases (fun y : TItem => decide (y.var = x.var)) l with ⟨h1, h2, -⟩ | ⟨pre, y, suf, -, -, -, h4, -⟩
  · have := h2 x h; simp at this
  · rw [h4]; omega

theorem row_nothing (l : Sl TSchema) (q : TQuery) (x : TItem) (h : x ∈ q.items.l) : rowS ⟨l, q, .nil⟩ x.var = (.nil, true) := by
  unfold rowS
  rw [if_neg (idx_var _ x h)]
  rfl

theorem count_nothing (l : Sl TSchema) (q : TQuery) (x : TItem) (h : x ∈ q.items.l) : valueS ⟨l, q, .nil⟩ (.mk 3 zVal x.var ⟨#[]⟩ none []) = (⟨1, 0, ⟨#[]⟩⟩, 0) := by
  unfold valueS leafS
  simp only [row_nothing l q x h]
  simp [Sl.nil, emptyS]
theorem field_nothing (l : Sl TSchema) (q : TQuery) (x : TItem) (h : x ∈ q.items.l) : valueS ⟨l, q, .nil⟩ (.mk 2 zVal x.var ⟨#[120]⟩ none []) = (⟨0, 0, ⟨#[]⟩⟩, 12) := by
  unfold valueS leafS
  simp only [row_nothing l q x h]
  simp [Sl.nil, zVal]

end Go.Aug.Api
namespace Go.Proofs.YtnkbdcaiepecdaaGreat.Tz
open Go.Aug Go.Aug.Api
set_option maxRecDepth 100000

theorem o_nothing : tab.orc n_augurylaw11_EvalNothing = none := by kernel_rfl

theorem headT_run (H : Heap) : Run tab (.fn n_augurylaw11_head) [] H (bD true) H := cK.run (cK_orc o_augurylaw11_head ⟨(bD true, H), rfl, rfl, rfl⟩)

theorem nothing_walk (l : Sl TSchema) (q : TQuery) (H : Heap) :
    cK tab (.fn n_augurylaw11_EvalNothing) [l.enc schemaC, .agg (queryC q)] H fun d H' => d = bD true ∧ H' = H := by
  refine cK_fn o_nothing t_augurylaw11_EvalNothing (Nat.le_of_ble_eq_true rfl) (by decide) ?_
  obtain ⟨g1, hg1⟩ := (GreatSchemas_run l ((low0 H).add (.cells (queryC q)))).run
  obtain ⟨g2, hg2⟩ := (Great_run q ((low0 H).add (.cells (queryC q)))).run
  have c1 := hg1.cK
  have c2 := hg2.cK
  have c3 := fun H => (ref08_Right_run q H).cK
  simp only [Sl.enc, queryC] at c1 c2 c3
  cases g1 with
  | true => simp [queryC, Sl.enc, (headT_run _).cK, c1]
  | false =>
  cases g2 with
  | true => simp [queryC, Sl.enc, (headT_run _).cK, c1, c2]
  | false =>
  cases g3 : rightQ q with
  | false => simp [queryC, Sl.enc, (headT_run _).cK, c1, c2, c3, g3]
  | true =>
  simp [queryC, Sl.enc, (headT_run _).cK, c1, c2, c3, g3]
  refine LR_rule (WR_mono _) (fun j E H' => ∃ pre suf, q.items.l = pre ++ suf ∧ j = suf.length ∧ E 0 = l.enc schemaC ∧ E 3 = .rf H.next 0 ∧ E 5 = bD true ∧ E 6 = i64D pre.length ∧
    H'.get H.next = some (.cells (queryC q)) ∧ H.next < H'.next ∧ H.next ≤ H'.low ∧ H'.low ≤ H'.next) ?_ (j := q.items.l.length) ⟨[], q.items.l, by simp [Sl.enc, queryC]⟩
  rintro j E H' ⟨pre, suf, hl, rfl, e0, e3, e5, e6, gN, hn, hlow, hlw⟩
  cases suf with
  | nil =>
    simp at hl
    simp [queryC, Sl.enc, e3, e5, e6, gN, hl, hlow]
  | cons x suf =>
    have hlt : pre.length < q.items.l.length := by rw [hl]; simp
    have hlt' : ((pre.length : Int) < (q.items.l.length : Int)) = True := by simp; omega
    have hw := wrap_more hlt q.items.ok
    have ep := elem_at itemC_len q.items.rep q.items.l .i64 pre.length x (by rw [hl]; simp)
    have hx0 : (H.next = H'.next) = False := by simp; omega
    have hx1 : ∀ k, (H.next = H'.next + k) = False := by simp; omega
    have hm : x ∈ q.items.l := by rw [hl]; simp
    have okX : okE (.mk 2 zVal x.var ⟨#[120]⟩ none []) := ⟨Nat.zero_le _, trivial, x.okV, Nat.le_of_ble_eq_true rfl, Nat.zero_le _⟩
    have v3 := fun H => (eval_Value_run l q .nil (.mk 3 zVal x.var ⟨#[]⟩ none []) H).cK
    have v2 := fun H => (eval_Value_run l q .nil (.mk 2 zVal x.var ⟨#[120]⟩ none []) H).cK
    rw [count_nothing l q x hm] at v3
    rw [field_nothing l q x hm] at v2
    simp only [Sl.nil_enc] at v2 v3
    simp only [exprC_mk, zVal, Sl.enc, queryC, slD_none0, List.length_nil, VE.enc, valC] at v2 v3
    simp [queryC, Sl.enc, e0, e3, e6, gN, hlt', ep]
    have eN := eval_Holds_run l q .nil ⟨2, .mk 2 zVal x.var ⟨#[120]⟩ none [], .mk 2 zVal x.var ⟨#[120]⟩ none [], okX, okX⟩
    have hH : holdsS ⟨l, q, .nil⟩ 2 (.mk 2 zVal x.var ⟨#[120]⟩ none []) (.mk 2 zVal x.var ⟨#[120]⟩ none []) = true := by
      unfold holdsS
      rw [field_nothing l q x hm]
      simp
    have vH := fun H => (eN H).cK
    rw [hH] at vH
    simp only [Sl.nil_enc] at vH
    simp only [predC, exprC_mk, zVal, Sl.enc, queryC, slD_none0, List.length_nil, List.cons_append, List.nil_append] at vH
    have hlw2 : ∀ k, (H'.low ≤ H'.next + k) = True := by simp; omega
    simp [itemC, v3, v2, vH, hlw, hlw2, hx0, hx1, gN, e0, e3, e5, e6, queryC, Sl.enc, ep]
    exact ⟨suf.length, by omega, pre ++ [x], suf, by simp [hl], rfl, by rw [hw]; simp, by omega, hlow⟩

end Go.Proofs.YtnkbdcaiepecdaaGreat.Tz
