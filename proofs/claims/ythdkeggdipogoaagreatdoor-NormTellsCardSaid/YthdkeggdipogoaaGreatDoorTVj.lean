/-
The walk of NormTells. Conditions: the query's lists are no longer than memory is.
-/
import Derived.Test.YthdkeggdipogoaaGreatDoorTWF
namespace Go.Proofs.YthdkeggdipogoaaGreatDoor.Tz
open Go.Aug Go.Aug.Api
set_option maxRecDepth 100000
set_option maxHeartbeats 2000000 in
theorem tells_walk (q : TQuery) (hz1 : q.items.l.length ≤ 140737488355328) (hz2 : q.preds.l.length ≤ 140737488355328) (H : Heap) : cK tabR (.fn n_q2) [.agg (queryC q)] H fun d H' => d = bD true ∧ H' = H := by
  refine cK_fn oR_NormTells (tLR t_q2) (Nat.le_of_ble_eq_true rfl) (by decide) ?_
  have hq5 : ∀ q : TQuery, (queryC q).take 5 = queryC q := fun q => List.take_of_length_le (by rw [queryC_len]; exact Nat.le_refl _)
  have hq1 : ∀ q : TQuery, (queryC q)[1]? = some (q.preds.enc predC) := fun _ => rfl
  have hq1' : ∀ (q : TQuery) (h : 1 < (queryC q).length), (queryC q)[1] = q.preds.enc predC := fun _ _ => rfl
  have hh := fun H => (head10R_run H).cK
  obtain ⟨g, hg, hsm⟩ := Great_small q hz1 hz2 H0
  have hG0 : ∀ H, Run tabR (.fn n_q0) [.agg (queryC q)] H (bD g) H := fun H => runR oR_Great (by simp) hg H
  have hG := fun H => (hG0 H).cK
  cases g with
  | true => simp [hq5, hh, hG]
  | false =>
  have hlen := hsm rfl
  have hN0 : ∀ H, Run tabR (.fn n_q76) [.agg (queryC q)] H (.agg (queryC (normQ q))) H := fun H => runR oR_Norm (by simp) (norm_Norm_run q H0) H
  have hN := fun H => (hN0 H).cK
  have hRN := fun H => (ref10_Norm_run q H).cK
  have hS0 : ∀ H, Run tabR (.fn n_q23) [.agg (queryC (normQ q)), .agg (queryC (refQ q))] H (bD true) H := fun H => runR oR_Same (by simp) (norm_ref_same q H0) H
  have hS := fun H => (hS0 H).cK
  simp [hq5, hh, hG, setAll_full]
  have main : ∀ Q : PostX, (∀ E H', E 1 = .rf H.next 0 → E 3 = bD true → H'.get H.next = some (.cells (queryC q)) → H'.low = H.next → H.next + 1 ≤ H'.next → Q (.exit 0) E H') → ∀ (E : Fr) (H1 : Heap), E 1 = .rf H.next 0 → E 3 = bD true → E 4 = i64D 0 → H1.get H.next = some (.cells (queryC q)) → H1.low = H.next → H.next + 1 ≤ H1.next → LR (WR 57 tabR none F_q2.l10) E H1 Q := by
    intro Q hQ E H1 e1 e3 e4 g0 w1 w2
    refine LR_rule (WR_mono _) (fun j E H' => ∃ pre suf, q.preds.l = pre ++ suf ∧ j = suf.length ∧ E 1 = .rf H.next 0 ∧ E 3 = bD true ∧ E 4 = i64D pre.length ∧ H'.get H.next = some (.cells (queryC q)) ∧ H'.low = H.next ∧ H.next + 1 ≤ H'.next) ?_ (j := q.preds.l.length) ⟨[], q.preds.l, rfl, rfl, e1, e3, e4, g0, w1, w2⟩
    rintro j E H' ⟨pre, suf, hl, rfl, e1, e3, e4, g0, w1, w2⟩
    cases suf with
    | nil =>
      have hl' : q.preds.l = pre := by simpa using hl
      have hlt' : ((pre.length : Int) < (q.preds.l.length : Int)) = False := by simp [hl']
      simp [e1, e4, g0, hq1, hq1', Sl.enc, hlt']
      exact hQ _ _ (by simp [e1]) (by simp [e3]) g0 w1 w2
    | cons p suf =>
      have hlt : pre.length < q.preds.l.length := by rw [hl]; simp
      have hlt' : ((pre.length : Int) < (q.preds.l.length : Int)) = True := by simp; omega
      have hw : IntKind.i64.wrap ((pre.length : Int) + 1) = (pre.length : Int) + 1 := wrap64 (by omega) (by omega)
      have ea := elem_at predC_len q.preds.rep q.preds.l .i64 pre.length p (by rw [hl]; simp)
      have hP0 : ∀ H, Run tabR (.fn n_q78) [.agg (queryC q), .agg (predC p)] H (i64D (placeN q.items.l p)) H := fun H => runR oR_Place (by simp) (norm_Place_small q p H0 (by omega)) H
      have hP := fun H => (hP0 H).cK
      have hR0 : ∀ H, Run tabR (.fn n_q52) [.agg (queryC q), .agg (predC p)] H (i64D (placeN q.items.l p)) H := fun H => by
        rw [← placeR_eq]
        exact runR oR_rPlace (by simp) (ref10_Place_run q (by omega) p H0) H
      have hR := fun H => (hR0 H).cK
      have hF := fun (x : TExpr) (hx : okE x) H => (runR oR_Fold (by simp) (norm_Fold_run x hx H0) H).cK
      have hG := fun (x : TExpr) (hx : okE x) H => (runR oR_rFold (by simp) (ref10_Fold_run x hx H0) H).cK
      have hX := fun (x : TExpr) (hx : okE x) H => (runR oR_SameExpr (by simp) (SameExpr_run x x hx hx H0) H).cK
      have f1 := hF p.L p.okL
      have f2 := hF p.R p.okR
      have f3 := hG p.L p.okL
      have f4 := hG p.R p.okR
      have f5 := hX (foldX p.L) (okE_fold _ p.okL)
      have f6 := hX (foldX p.R) (okE_fold _ p.okR)
      rw [sameX_refl] at f5 f6
      have n0 : (H.next = H'.next) = False := by simp; omega
      have hle : H'.low ≤ H'.next := by omega
      have hT : ∀ rest : List D, (predC p ++ rest).tail = exprC p.L ++ (exprC p.R ++ rest) := fun rest => by simp [predC]
      have htk : ∀ rest : List D, (exprC p.L ++ rest).take 7 = exprC p.L := fun rest => List.take_left' (exprC_len p.L)
      have htp : ∀ p : TPred, (predC p).take 15 = predC p := fun p => List.take_of_length_le (by rw [predC_len]; exact Nat.le_refl _)
      have hfull2 : ∀ (z : List D) (p : TPred), z.length = 15 → setAll z 0 (predC p) = predC p := fun z p h => setAll_full z _ (by rw [predC_len, h])
      simp [e1, e3, e4, g0, hq1, hq1', hq5, Sl.enc, hlt', ea, load_elem _ _ _ _ (predC_len p), hfull2, htp, pred_L, pred_R, hle, hP, hR, f1, f2, f3, f4, f5, f6, n0, hw]
      exact ⟨suf.length, by omega, pre ++ [p], suf, by simp [hl], rfl, by simp, w1, by omega⟩
  refine main _ (fun E H' e1 e3 g0 w1 w2 => ?_) _ _ (by simp) (by simp) (by simp) (by simp) (by simp) (by simp)
  have hle : H'.low ≤ H'.next := by omega
  simp [e1, e3, g0, hq5, hN, hRN, hS, w1, hle]
end Go.Proofs.YthdkeggdipogoaaGreatDoor.Tz

namespace Go.Proofs.YthdkeggdipogoaaGreatDoor.Tz
open Go.Aug Go.Aug.Api
set_option maxRecDepth 100000
abbrev Gd (n : Nat) (t : TypeId) (x : List D) : Prop := Aug.Good Tryz.prog n t x
theorem k_int {n : Nat} {x : List D} (h : Gd n 3 x) : ∃ a, x = intC a := by
  cases n with
  | zero => exact h.elim
  | succ n =>
    rw [Gd, good_int Tryz.underlying3] at h
    obtain ⟨m, rfl, -⟩ := h
    exact ⟨m, rfl⟩
theorem k_int64 {n : Nat} {x : List D} (h : Gd n 2 x) : ∃ a, x = intC a := by
  cases n with
  | zero => exact h.elim
  | succ n =>
    rw [Gd, good_int Tryz.underlying2] at h
    obtain ⟨m, rfl, -⟩ := h
    exact ⟨m, rfl⟩
theorem k_bool {n : Nat} {x : List D} (h : Gd n 4 x) : ∃ b, x = [bD b] := by
  cases n with
  | zero => exact h.elim
  | succ n =>
    rw [Gd, good_bool Tryz.underlying4] at h
    exact h
theorem k_str' {n : Nat} {x : List D} (h : Gd n 9 x) : ∃ s, x = strC s ∧ s.size ≤ big := by
  cases n with
  | zero => exact h.elim
  | succ n =>
    rw [Gd, good_string Tryz.underlying9] at h
    obtain ⟨s, rfl, hs⟩ := h
    have : maxLen = 9223372036854775807 := by decide
    exact ⟨s, rfl, by show s.size ≤ 9223372036854775807; omega⟩
theorem k_sl' {n : Nat} {t e : TypeId} {ds : List D} {α : Type} {c : α → List D} {p : α → Prop} (hu : Tryz.prog.underlying t = some (.slice e)) (hc : ∀ n x, Gd n e x → ∃ a, x = c a ∧ p a) (h : Gd n t ds) : ∃ x : Sl α, ds = [x.enc c] ∧ ∀ a ∈ x.l, p a := by
  cases n with
  | zero => exact h.elim
  | succ n =>
    obtain ⟨x, hx⟩ := good_sl (c := fun a : {a : α // p a} => c a.1) hu (fun y hy => by
      obtain ⟨a, h1, h2⟩ := hc n y hy
      exact ⟨⟨a, h2⟩, h1⟩) h
    refine ⟨⟨x.rep, x.l.map (·.1), by simpa using x.ok⟩, ?_, fun a ha => ?_⟩
    · rw [hx]
      simp [Sl.enc, List.flatMap, Function.comp_def]
    · obtain ⟨y, -, rfl⟩ := List.mem_map.1 ha
      exact y.2
theorem k_sl {n : Nat} {t e : TypeId} {ds : List D} {α : Type} {c : α → List D} (hu : Tryz.prog.underlying t = some (.slice e)) (hc : ∀ n x, Gd n e x → ∃ a, x = c a) (h : Gd n t ds) : ∃ x : Sl α, ds = [x.enc c] := by
  cases n with
  | zero => exact h.elim
  | succ n => exact good_sl hu (hc n) h
theorem k_val' {n : Nat} {x : List D} (h : Gd n 29 x) : ∃ v, x = valC v ∧ v.s.size ≤ big := by
  cases n with
  | zero => exact h.elim
  | succ n =>
    rw [Gd, good_struct Tryz.underlying29] at h
    simp only [fieldsG] at h
    obtain ⟨a1, r1, rfl, -, h1, a2, r2, rfl, -, h2, a3, r3, rfl, -, h3, rfl⟩ := h
    obtain ⟨k, rfl⟩ := k_int h1
    obtain ⟨m, rfl⟩ := k_int64 h2
    obtain ⟨s, rfl, hs⟩ := k_str' h3
    exact ⟨⟨k, m, s⟩, rfl, hs⟩
theorem k_item {n : Nat} {x : List D} (h : Gd n 63 x) : ∃ v, x = itemC v := by
  cases n with
  | zero => exact h.elim
  | succ n =>
    rw [Gd, good_struct Tryz.underlying63] at h
    simp only [fieldsG] at h
    obtain ⟨a1, r1, rfl, -, h1, a2, r2, rfl, -, h2, a3, r3, rfl, -, h3, a4, r4, rfl, -, h4, rfl⟩ := h
    obtain ⟨b, rfl⟩ := k_bool h1
    obtain ⟨l, rfl, hl⟩ := k_sl' Tryz.underlying61 (fun _ _ => k_str') h2
    obtain ⟨s, rfl, hs⟩ := k_str' h3
    obtain ⟨k, rfl⟩ := k_int h4
    exact ⟨⟨b, l, s, k, hl, hs⟩, rfl⟩
theorem okEs_of : ∀ {l : List TExpr}, (∀ x ∈ l, okE x) → okEs l
  | [], _ => trivial
  | x :: _l, h => ⟨h x (List.mem_cons_self ..), okEs_of fun y hy => h y (List.mem_cons_of_mem _ hy)⟩
theorem k_expr : ∀ (n : Nat) (x : List D), Gd n 32 x → ∃ e, x = exprC e ∧ okE e
  | 0, x, h => h.elim
  | 1, x, h => by
    rw [Gd, good_struct Tryz.underlying32] at h
    simp only [fieldsG] at h
    obtain ⟨a1, r1, rfl, -, h1, -⟩ := h
    exact h1.elim
  | n + 2, x, h => by
    rw [Gd, good_struct Tryz.underlying32] at h
    simp only [fieldsG] at h
    obtain ⟨a1, r1, rfl, -, h1, a2, r2, rfl, -, h2, a3, r3, rfl, -, h3, a4, r4, rfl, -, h4, a5, r5, rfl, -, h5, rfl⟩ := h
    obtain ⟨k, rfl⟩ := k_int h1
    obtain ⟨v, rfl, hv⟩ := k_val' h2
    obtain ⟨s, rfl, hs⟩ := k_str' h3
    obtain ⟨f, rfl, hf⟩ := k_str' h4
    rw [good_slice Tryz.underlying30] at h5
    obtain ⟨rep, l, rfl, hl, hx⟩ := h5
    obtain ⟨es, rfl⟩ := good_map (c := fun e : {e : TExpr // okE e} => exprC e.1) fun y hy => by
      obtain ⟨e, h1, h2⟩ := k_expr n y (hx y hy).2
      exact ⟨⟨e, h2⟩, h1⟩
    refine ⟨.mk k v s f rep (es.map (·.1)), ?_, ?_, okEs_of fun x hx => ?_, hs, hf, hv⟩
    · rw [exprC_mk]
      simp [intC, valC, strC, List.flatMap]
    · have : maxLen = 9223372036854775807 := by decide
      simp at hl
      show (es.map (·.1)).length ≤ 9223372036854775807
      simp
      omega
    · obtain ⟨e, -, rfl⟩ := List.mem_map.1 hx
      exact e.2
theorem k_pred {n : Nat} {x : List D} (h : Gd n 34 x) : ∃ v, x = predC v := by
  cases n with
  | zero => exact h.elim
  | succ n =>
    rw [Gd, good_struct Tryz.underlying34] at h
    simp only [fieldsG] at h
    obtain ⟨a1, r1, rfl, -, h1, a2, r2, rfl, -, h2, a3, r3, rfl, -, h3, rfl⟩ := h
    obtain ⟨k, rfl⟩ := k_int h1
    obtain ⟨e1, rfl, o1⟩ := k_expr _ _ h2
    obtain ⟨e2, rfl, o2⟩ := k_expr _ _ h3
    exact ⟨⟨k, e1, e2, o1, o2⟩, by simp [predC, intC]⟩
theorem k_query {n : Nat} {x : List D} (h : Gd n 25 x) : ∃ v, x = queryC v := by
  cases n with
  | zero => exact h.elim
  | succ n =>
    rw [Gd, good_struct Tryz.underlying25] at h
    simp only [fieldsG] at h
    obtain ⟨a1, r1, rfl, -, h1, a2, r2, rfl, -, h2, a3, r3, rfl, -, h3, a4, r4, rfl, -, h4, a5, r5, rfl, -, h5, rfl⟩ := h
    obtain ⟨l1, rfl⟩ := k_sl Tryz.underlying22 (fun _ _ => k_item) h1
    obtain ⟨l2, rfl⟩ := k_sl Tryz.underlying23 (fun _ _ => k_pred) h2
    obtain ⟨w, rfl⟩ := k_int64 h3
    obtain ⟨s, rfl, hs⟩ := k_str' h4
    obtain ⟨p, rfl⟩ := k_int h5
    exact ⟨⟨l1, l2, w, s, p, hs⟩, rfl⟩
def kindsAll : List TypeId := [2, 3, 4, 5, 9, 22, 23, 25, 29, 30, 32, 34, 43, 46, 47, 61, 63, 86, 87, 89, 90, 92, 94]
theorem kindsAll_ok : closedB Tryz.prog kindsAll = true := by kernel_rfl
variable {W : World} {H : Type} {enc : TypeId × Value → H} {d : DataW H} {p : List MemPlace} {v : Value}
theorem in_query {cs : Array Value} (h : DataW.Trod enc Tryz.prog W 0 (fun _ => true) true 25 (.agg cs) d p) : ∃ q, relIn W (.agg (queryC q)) (.agg cs) := by
  obtain ⟨fuel, hf⟩ := h
  obtain ⟨ds, h1, h2⟩ := trod_good kindsAll_ok fuel 25 _ _ (by decide) hf
  obtain ⟨q, rfl⟩ := k_query h2
  exact ⟨q, arg_agg h1⟩
end Go.Proofs.YthdkeggdipogoaaGreatDoor.Tz
