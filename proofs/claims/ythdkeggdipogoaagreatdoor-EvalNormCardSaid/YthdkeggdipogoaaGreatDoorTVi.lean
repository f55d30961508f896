/-
The walk of EvalNorm, to its end. Conditions: none.
-/
import Derived.Test.YthdkeggdipogoaaGreatDoorTV5
import Derived.Test.YthdkeggdipogoaaGreatDoorGL
import Derived.Test.YthdkeggdipogoaaGreatDoorTX0
namespace Go.Proofs.YthdkeggdipogoaaGreatDoor.Tz
open Go.Aug Go.Aug.Api
set_option maxRecDepth 100000
theorem IndexB_run {α : Type} {c : α → List D} (hc : ∀ x, (c x).length = 15) (p : α → Bool) (rep : Option (Option Nat)) (l : List α) (hl : l.length ≤ big) (g : FuncId) (first caps : List D) (H : Heap)
    (hp : ∀ x ∈ l, Run tabB (.fn g) (first ++ .agg (c x) :: caps) (low0 H) (bD (p x)) (low0 H)) :
    Run tabB (.fn n_slices_IndexFunc_Pred) [slD rep l.length (l.flatMap c), .fn (.func g) first caps] H (i64D (idx p l)) H := by
  refine cK.run (cK_fn oB_Index (tLB t_slices_IndexFunc_Pred) (Nat.le_of_ble_eq_true rfl) (by decide) ?_)
  simp
  refine LR_rule (WR_mono _) (fun j E H' => H' = low0 H ∧ ∃ pre suf, l = pre ++ suf ∧ j = suf.length ∧ E 0 = slD rep l.length (l.flatMap c) ∧ E 1 = .fn (.func g) first caps ∧ E 7 = i64D l.length ∧ E 8 = i64D pre.length ∧ (∀ x ∈ pre, p x = false)) ?_
    (j := l.length) ⟨rfl, [], l, by simp⟩
  rintro j E H' ⟨rfl, pre, suf, h0, rfl, e0, e1, e7, e8, hpre⟩
  cases suf with
  | nil =>
    simp at h0
    subst h0
    simp [e7, e8, idx_none hpre]
  | cons x suf =>
    have hlt : pre.length < l.length := by simp [h0]
    have hpx := (hp x (by rw [h0]; simp)).cK
    simp [e0, e1, e7, e8, h0, zip_at hc, load_elem _ _ _ _ (hc x), hpx]
    refine gK_of (fun hx => ?_) (fun hx => ?_)
    · simp [e8, idx_some pre x suf hpre hx]
    · simp [e0, e1, e7, e8, h0, wrap_len hlt hl]
      exact ⟨suf.length, by omega, pre ++ [x], suf, by simp, rfl, by simp, fun y hy => by simp at hy; rcases hy with hy | rfl; exact hpre y hy; exact hx⟩
theorem ContainsB_run (p : TPred → Bool) (rep : Option (Option Nat)) (l : List TPred) (hl : l.length ≤ big) (g : FuncId) (first caps : List D) (H : Heap)
    (hp : ∀ x ∈ l, ∀ H', (∀ r, H'.get r = H.get r) → H'.next = H.next → Run tabB (.fn g) (first ++ .agg (predC x) :: caps) H' (bD (p x)) H') :
    Run tabB (.fn n_slices_ContainsFunc_Pred) [slD rep l.length (l.flatMap predC), .fn (.func g) first caps] H (bD (l.any p)) H := by
  refine cK.run (cK_fn oB_Contains (tLB t_slices_ContainsFunc_Pred) (Nat.le_of_ble_eq_true rfl) (by decide) ?_)
  have hi := (IndexB_run predC_len p rep l hl g first caps (low0 H) fun x hx => hp x hx _ (fun _ => rfl) rfl).cK
  have hany : decide (0 ≤ idx p l) = l.any p := by
    rcases idx_cases p l with ⟨h1, h2, -⟩ | ⟨pre, x, suf, h1, h2, h3, h4, -⟩
    · rw [h1, List.any_eq_false.2 fun x hx => by rw [h2 x hx]; decide]
      rfl
    · rw [h4, h1]
      simp [h3]
  simp [hi]
  rw [← hany]
theorem All_1_run (l : Sl TSchema) (q : TQuery) (b : Sl (Sl TEvent)) (i : Int) (p : TPred) (hp : predX p = true) (H : Heap) {rq rp rl rb : Nat} (gq : H.get rq = some (.cells (queryC q))) (gp : H.get rp = some (.cells [i64D i])) (gl : H.get rl = some (.cells [l.enc schemaC])) (gb : H.get rb = some (.cells [b.enc rowC]))
    (h1 : rq < H.next) (h2 : rp < H.next) (h3 : rl < H.next) (h4 : rb < H.next) :
    Run tabB (.fn n_eval_All_1) [.agg (predC p), .rf rq 0, .rf rp 0, .rf rl 0, .rf rb 0] H (bD (decide (placeN q.items.l p = i) && !holdsP ⟨l, q, b⟩ p)) H := by
  refine cK.run (cK_fn oB_All_1 (tLB t_eval_All_1) (Nat.le_of_ble_eq_true rfl) (by decide) ?_)
  have hq5 : (queryC q).take 5 = queryC q := List.take_of_length_le (by rw [queryC_len]; exact Nat.le_refl _)
  have hP := fun H => (runB oB_Place (by simp) (place_run (q := q) hp H0) H).cK
  have hH := fun H => (runB oB_Holds (by simp) (eval_Holds_run l q b p H0) H).cK
  have e1 : (rq = H.next) = False := by simp; omega
  have e2 : (rp = H.next) = False := by simp; omega
  have e3 : (rl = H.next) = False := by simp; omega
  have e4 : (rb = H.next) = False := by simp; omega
  by_cases hc : placeN q.items.l p = i
  · simp [gq, gp, gl, gb, e1, e2, e3, e4, hq5, hP, hH, hc]
  · simp [gq, gp, gl, gb, e1, e2, e3, e4, hq5, hP, hH, hc]
theorem All_run (l : Sl TSchema) (q : TQuery) (b : Sl (Sl TEvent)) (i : Int) (hx : ∀ p ∈ q.preds.l, predX p = true) (H : Heap) : Run tabB (.fn n_eval_All) [l.enc schemaC, .agg (queryC q), b.enc rowC, i64D i] H (bD (allS ⟨l, q, b⟩ q.items.l q.preds.l i)) H := by
  refine cK.run (cK_fn oB_All (tLB t_eval_All) (Nat.le_of_ble_eq_true rfl) (by decide) ?_)
  have hq1 : (queryC q)[1]? = some (q.preds.enc predC) := rfl
  have hq1' : ∀ h : 1 < (queryC q).length, (queryC q)[1] = q.preds.enc predC := fun _ => rfl
  have hcon : ∀ (H1 : Heap), H1.next = H.next + 4 → H1.get H.next = some (.cells [l.enc schemaC]) → H1.get (H.next + 1) = some (.cells (queryC q)) → H1.get (H.next + 2) = some (.cells [b.enc rowC]) → H1.get (H.next + 3) = some (.cells [i64D i]) → ∀ R, cK tabB (.fn n_slices_ContainsFunc_Pred) [q.preds.enc predC, .fn (.func n_eval_All_1) [] [.rf (H.next + 1) 0, .rf (H.next + 3) 0, .rf H.next 0, .rf (H.next + 2) 0]] H1 R = R (bD (q.preds.l.any fun p => decide (placeN q.items.l p = i) && !holdsP ⟨l, q, b⟩ p)) H1 := fun H1 hn g0 g1 g2 g3 R =>
    (ContainsB_run (fun p => decide (placeN q.items.l p = i) && !holdsP ⟨l, q, b⟩ p) q.preds.rep q.preds.l q.preds.ok n_eval_All_1 [] _ H1 fun p hp H' hg hn' => All_1_run l q b i p (hx p hp) H' (by rw [hg]; exact g1) (by rw [hg]; exact g3) (by rw [hg]; exact g0) (by rw [hg]; exact g2) (by omega) (by omega) (by omega) (by omega)).cK R
  have hall : allS ⟨l, q, b⟩ q.items.l q.preds.l i = !(q.preds.l.any fun p => decide (placeN q.items.l p = i) && !holdsP ⟨l, q, b⟩ p) := by
    unfold allS
    rw [List.not_any_eq_all_not]
  rw [hall]
  simp only [Sl.enc] at hcon
  simp [hq1, hq1', Sl.enc]
  rw [hcon _ (by simp) (by simp) (by simp) (by simp) (by simp)]
  simp
set_option maxHeartbeats 4000000 in
theorem evalNorm_walk (l : Sl TSchema) (q : TQuery) (b : Sl (Sl TEvent)) (H : Heap) : cK tabB (.fn n_augurylaw11_EvalNorm) [l.enc schemaC, .agg (queryC q), b.enc rowC] H fun d H' => d = bD true ∧ H' = H := by
  refine cK_fn oB_EvalNorm (tLB t_augurylaw11_EvalNorm) (Nat.le_of_ble_eq_true rfl) (by decide) ?_
  have hq5 : ∀ q : TQuery, (queryC q).take 5 = queryC q := fun q => List.take_of_length_le (by rw [queryC_len]; exact Nat.le_refl _)
  have hq1 : ∀ q : TQuery, (queryC q)[1]? = some (q.preds.enc predC) := fun _ => rfl
  have hq1' : ∀ (q : TQuery) (h : 1 < (queryC q).length), (queryC q)[1] = q.preds.enc predC := fun _ _ => rfl
  have hq0 : ∀ q : TQuery, (queryC q)[0]? = some (q.items.enc itemC) := fun _ => rfl
  have hq0' : ∀ (q : TQuery) (h : 0 < (queryC q).length), (queryC q)[0] = q.items.enc itemC := fun _ _ => rfl
  have hh := fun H => (head11B_run H).cK
  obtain ⟨g1, hg1⟩ := (GreatSchemas_run l H0).run
  obtain ⟨g2, hg2⟩ := (Great_run q H0).run
  obtain ⟨d3, H3, hg3, ⟨g3, rfl, -⟩, rfl⟩ := GreatBound_run b H0
  have c1 := fun H => (runB oB_GreatS (by simp) hg1 H).cK
  have c2 := fun H => (runB oB_Great (by simp) hg2 H).cK
  have c3 := fun H => (runB oB_GreatB (by simp) hg3 H).cK
  have c4 := fun H => (runB oB_Right (by simp) (ref08_Right_run q H0) H).cK
  have hN := fun H => (runB oB_Norm (by simp) (norm_Norm_run q H0) H).cK
  cases g1 with
  | true => simp [hh, c1]
  | false =>
  cases g2 with
  | true => simp [hh, c1, hq5, c2]
  | false =>
  cases g3 with
  | true => simp [hh, c1, hq5, c2, c3]
  | false =>
  cases hr : rightQ q with
  | false =>
    rw [hr] at c4
    simp [hh, c1, hq5, c2, c3, c4]
  | true =>
  rw [hr] at c4
  have hq := rightQ_P hr
  obtain ⟨a1, a2, a3, a4, a5, a6, a7, a8, a9, a10⟩ := right_parts hq
  obtain ⟨n1, n2, n3, n4⟩ := norm_same' hq
  have hx : ∀ p ∈ q.preds.l, predX p = true := List.all_eq_true.1 a2
  have hnl : (normQ q).preds.l = normL q.items.l (textS q) q.preds.l := by rw [normQ_right hq]
  have hxn : ∀ p ∈ (normQ q).preds.l, predX p = true := fun p hp => by
    rw [hnl] at hp
    obtain ⟨p0, hp0, rfl⟩ := normL_mem hp
    exact (predX_norm (hx p0 hp0)).1
  have hA := fun i H => (All_run l q b i hx H).cK
  have hAn := fun i H => (All_run l (normQ q) b i hxn H).cK
  have heq : ∀ i, allS ⟨l, normQ q, b⟩ (normQ q).items.l (normQ q).preds.l i = allS ⟨l, q, b⟩ q.items.l q.preds.l i := fun i => by
    have e1 : allS ⟨l, normQ q, b⟩ (normQ q).items.l (normQ q).preds.l i = allS ⟨l, q, b⟩ q.items.l (normQ q).preds.l i := by
      unfold allS
      rw [n1]
      refine List.all_congr rfl fun p => ?_
      rw [holds_q l q (normQ q) b n1 p]
    rw [e1, hnl]
    exact norm_all ⟨l, q, b⟩ hx (fun a b ha hb h => text_inj ha hb h) i
  simp only [heq] at hAn
  have hF := fun (x : TExpr) (hx : okE x) H => (runB oB_Fold (by simp) (norm_Fold_run x hx H0) H).cK
  have hV := fun (x : TExpr) H => (runB oB_Value (by simp) (eval_Value_run l q b x H0) H).cK
  have hsa : ∀ z : List D, z.length = 5 → setAll z 0 (queryC (normQ q)) = queryC (normQ q) := fun z h => setAll_full z _ (by rw [h]; rfl)
  simp [hh, c1, hq5, c2, c3, c4, hN, hsa]
  have first : ∀ (Q : PostX) (E : Fr) (H1 : Heap), E 0 = l.enc schemaC → E 2 = b.enc rowC → E 4 = .rf H.next 0 → E 7 = bD true → E 8 = .rf (H.next + 1) 0 → E 9 = i64D 0 → H1.get H.next = some (.cells (queryC q)) → H1.get (H.next + 1) = some (.cells (queryC (normQ q))) →
      (∀ E', E' 0 = l.enc schemaC → E' 2 = b.enc rowC → E' 4 = .rf H.next 0 → E' 7 = bD true → Q (.exit 0) E' H1) → LR (WR 95 tabB none F_augurylaw11_EvalNorm.l10) E H1 Q := by
    intro Q E H1 f0 f2 f4 f7 f8 f9 k0 k1 hend
    refine LR_rule (WR_mono _) (fun j E H' => H' = H1 ∧ ∃ pre suf, q.items.l = pre ++ suf ∧ j = suf.length ∧ E 0 = l.enc schemaC ∧ E 2 = b.enc rowC ∧ E 4 = .rf H.next 0 ∧ E 7 = bD true ∧ E 8 = .rf (H.next + 1) 0 ∧ E 9 = i64D pre.length) ?_ (j := q.items.l.length) ⟨rfl, [], q.items.l, rfl, rfl, f0, f2, f4, f7, f8, f9⟩
    rintro j E H' ⟨rfl, pre, suf, hl, rfl, f0, f2, f4, f7, f8, f9⟩
    cases suf with
    | nil =>
      have hl' : q.items.l = pre := by simpa using hl
      have hlt' : ((pre.length : Int) < (q.items.l.length : Int)) = False := by simp [hl']
      simp [f4, f9, k0, hq0, hq0', Sl.enc, hlt']
      exact hend _ (by simp [f0]) (by simp [f2]) (by simp [f4]) (by simp [f7])
    | cons x suf =>
      have hlt : pre.length < q.items.l.length := by rw [hl]; simp
      have hlt' : ((pre.length : Int) < (q.items.l.length : Int)) = True := by simp; omega
      have hw : IntKind.i64.wrap ((pre.length : Int) + 1) = (pre.length : Int) + 1 := wrap64 (by omega) (by omega)
      have hA0 := hA (pre.length : Int)
      have hA1 := hAn (pre.length : Int)
      simp only [Sl.enc] at hA0 hA1 f0 f2
      generalize allS ⟨l, q, b⟩ q.items.l q.preds.l (pre.length : Int) = v at hA0 hA1
      cases v <;> simp [f0, f2, f4, f7, f8, f9, k0, k1, hq0, hq0', hq5, Sl.enc, hlt', hA0, hA1, hw, eqAny]
      · exact ⟨suf.length, by omega, pre ++ [x], suf, by simp [hl], rfl, by simp⟩
      · exact ⟨suf.length, by omega, pre ++ [x], suf, by simp [hl], rfl, by simp⟩
  have second : ∀ (Q : PostX) (E : Fr) (H1 : Heap), E 0 = l.enc schemaC → E 2 = b.enc rowC → E 4 = .rf H.next 0 → E 7 = bD true → E 10 = i64D 0 → H1.get H.next = some (.cells (queryC q)) → H1.low = H.next → H.next + 2 ≤ H1.next →
      (∀ E' H', E' 7 = bD true → H'.low = H.next → Q (.exit 2) E' H') → LR (WR 95 tabB none F_augurylaw11_EvalNorm.l18) E H1 Q := by
    intro Q E H1 f0 f2 f4 f7 f10 k0 w1 w2 hend
    refine LR_rule (WR_mono _) (fun j E H' => ∃ pre suf, q.preds.l = pre ++ suf ∧ j = suf.length ∧ E 0 = l.enc schemaC ∧ E 2 = b.enc rowC ∧ E 4 = .rf H.next 0 ∧ E 7 = bD true ∧ E 10 = i64D pre.length ∧ H'.get H.next = some (.cells (queryC q)) ∧ H'.low = H.next ∧ H.next + 2 ≤ H'.next) ?_ (j := q.preds.l.length) ⟨[], q.preds.l, rfl, rfl, f0, f2, f4, f7, f10, k0, w1, w2⟩
    rintro j E H' ⟨pre, suf, hl, rfl, f0, f2, f4, f7, f10, k0, w1, w2⟩
    cases suf with
    | nil =>
      have hl' : q.preds.l = pre := by simpa using hl
      have hlt' : ((pre.length : Int) < (q.preds.l.length : Int)) = False := by simp [hl']
      simp [f4, f10, k0, hq1, hq1', Sl.enc, hlt']
      exact hend _ _ (by simp [f7]) w1
    | cons p suf =>
      have hlt : pre.length < q.preds.l.length := by rw [hl]; simp
      have hlt' : ((pre.length : Int) < (q.preds.l.length : Int)) = True := by simp; omega
      have hw : IntKind.i64.wrap ((pre.length : Int) + 1) = (pre.length : Int) + 1 := wrap64 (by omega) (by omega)
      have ea := elem_at predC_len q.preds.rep q.preds.l .i64 pre.length p (by rw [hl]; simp)
      have hT : ∀ rest : List D, (predC p ++ rest).tail = exprC p.L ++ (exprC p.R ++ rest) := fun rest => by simp [predC]
      have htk : ∀ rest : List D, (exprC p.L ++ rest).take 7 = exprC p.L := fun rest => List.take_left' (exprC_len p.L)
      have hV0 := hV p.L
      have hV1 := hV (foldX p.L)
      rw [fold_value] at hV1
      have hF0 := hF p.L p.okL
      generalize valueS ⟨l, q, b⟩ p.L = v at hV0 hV1
      obtain ⟨⟨vk, vn, vs⟩, ve⟩ := v
      simp only [Sl.enc, VE.enc, valC] at hV0 hV1 f0 f2
      have n0 : (H.next = H'.next) = False := by simp; omega
      have n1 : ∀ j, (H.next = H'.next + j) = False := by simp; omega
      have hle : H'.low ≤ H'.next := by omega
      simp [f0, f2, f4, f7, f10, k0, hq1, hq1', hq5, Sl.enc, hlt', ea, hT, htk, load_elem _ _ _ _ (exprC_len p.L), hV0, hV1, hF0, hle, n0, n1, hw, eq_val, get_set]
      exact ⟨suf.length, by omega, pre ++ [p], suf, by simp [hl], rfl, by simp, by split <;> omega, by omega⟩
  refine first _ _ _ (by simp) (by simp) (by simp) (by simp) (by simp) (by simp) (by simp) (by simp) fun E f0 f2 f4 f7 => ?_
  simp
  refine second _ _ _ (by simp [f0]) (by simp [f2]) (by simp [f4]) (by simp [f7]) (by simp) (by simp) (by simp) (by simp) fun E' H' f7 w1 => ?_
  simp [f7, w1]
end Go.Proofs.YthdkeggdipogoaaGreatDoor.Tz

namespace Go.Proofs.YthdkeggdipogoaaGreatDoor.Tz
open Go.Aug Go.Aug.Api
set_option maxRecDepth 100000
abbrev Gd (n : Nat) (t : TypeId) (x : List D) : Prop := Aug.Good Tryz.prog n t x
theorem k_int {n : Nat} {x : List D} (h : Gd n 3 x) : ∃ a, x = intC a := by
  cases n with
  | zero => exact h.elim
  | succ n =>
    rw [Gd, good_int Tryz.underlying3] at h
    obtain ⟨m, rfl, -⟩ := h
    exact ⟨m, rfl⟩
theorem k_int' {n : Nat} {x : List D} (h : Gd n 3 x) : ∃ a, x = intC a ∧ i64ok a := by
  cases n with
  | zero => exact h.elim
  | succ n =>
    rw [Gd, good_int Tryz.underlying3] at h
    obtain ⟨m, rfl, hm⟩ := h
    refine ⟨m, rfl, ?_⟩
    simp only [Lit.wf, IntKind.min, IntKind.max, IntKind.signed, IntKind.bits, Bool.and_eq_true, decide_eq_true_eq] at hm
    exact hm
theorem k_int64 {n : Nat} {x : List D} (h : Gd n 2 x) : ∃ a, x = intC a := by
  cases n with
  | zero => exact h.elim
  | succ n =>
    rw [Gd, good_int Tryz.underlying2] at h
    obtain ⟨m, rfl, -⟩ := h
    exact ⟨m, rfl⟩
theorem k_bool {n : Nat} {x : List D} (h : Gd n 4 x) : ∃ b, x = [bD b] := by
  cases n with
  | zero => exact h.elim
  | succ n =>
    rw [Gd, good_bool Tryz.underlying4] at h
    exact h
theorem k_str' {n : Nat} {x : List D} (h : Gd n 9 x) : ∃ s, x = strC s ∧ s.size ≤ big := by
  cases n with
  | zero => exact h.elim
  | succ n =>
    rw [Gd, good_string Tryz.underlying9] at h
    obtain ⟨s, rfl, hs⟩ := h
    have : maxLen = 9223372036854775807 := by decide
    exact ⟨s, rfl, by show s.size ≤ 9223372036854775807; omega⟩
theorem k_str {n : Nat} {x : List D} (h : Gd n 9 x) : ∃ s, x = strC s := let ⟨s, h1, _⟩ := k_str' h; ⟨s, h1⟩
theorem k_sl' {n : Nat} {t e : TypeId} {ds : List D} {α : Type} {c : α → List D} {p : α → Prop} (hu : Tryz.prog.underlying t = some (.slice e)) (hc : ∀ n x, Gd n e x → ∃ a, x = c a ∧ p a) (h : Gd n t ds) : ∃ x : Sl α, ds = [x.enc c] ∧ ∀ a ∈ x.l, p a := by
  cases n with
  | zero => exact h.elim
  | succ n =>
    obtain ⟨x, hx⟩ := good_sl (c := fun a : {a : α // p a} => c a.1) hu (fun y hy => by
      obtain ⟨a, h1, h2⟩ := hc n y hy
      exact ⟨⟨a, h2⟩, h1⟩) h
    refine ⟨⟨x.rep, x.l.map (·.1), by simpa using x.ok⟩, ?_, fun a ha => ?_⟩
    · rw [hx]
      simp [Sl.enc, List.flatMap, Function.comp_def]
    · obtain ⟨y, -, rfl⟩ := List.mem_map.1 ha
      exact y.2
theorem k_sl {n : Nat} {t e : TypeId} {ds : List D} {α : Type} {c : α → List D} (hu : Tryz.prog.underlying t = some (.slice e)) (hc : ∀ n x, Gd n e x → ∃ a, x = c a) (h : Gd n t ds) : ∃ x : Sl α, ds = [x.enc c] := by
  cases n with
  | zero => exact h.elim
  | succ n => exact good_sl hu (hc n) h
theorem k_val {n : Nat} {x : List D} (h : Gd n 29 x) : ∃ v, x = valC v := by
  cases n with
  | zero => exact h.elim
  | succ n =>
    rw [Gd, good_struct Tryz.underlying29] at h
    simp only [fieldsG] at h
    obtain ⟨a1, r1, rfl, -, h1, a2, r2, rfl, -, h2, a3, r3, rfl, -, h3, rfl⟩ := h
    obtain ⟨k, rfl⟩ := k_int h1
    obtain ⟨m, rfl⟩ := k_int64 h2
    obtain ⟨s, rfl⟩ := k_str h3
    exact ⟨⟨k, m, s⟩, rfl⟩
theorem k_val' {n : Nat} {x : List D} (h : Gd n 29 x) : ∃ v, x = valC v ∧ v.s.size ≤ big := by
  cases n with
  | zero => exact h.elim
  | succ n =>
    rw [Gd, good_struct Tryz.underlying29] at h
    simp only [fieldsG] at h
    obtain ⟨a1, r1, rfl, -, h1, a2, r2, rfl, -, h2, a3, r3, rfl, -, h3, rfl⟩ := h
    obtain ⟨k, rfl⟩ := k_int h1
    obtain ⟨m, rfl⟩ := k_int64 h2
    obtain ⟨s, rfl, hs⟩ := k_str' h3
    exact ⟨⟨k, m, s⟩, rfl, hs⟩
theorem k_field {n : Nat} {x : List D} (h : Gd n 86 x) : ∃ v, x = fieldC v := by
  cases n with
  | zero => exact h.elim
  | succ n =>
    rw [Gd, good_struct Tryz.underlying86] at h
    simp only [fieldsG] at h
    obtain ⟨a1, r1, rfl, -, h1, a2, r2, rfl, -, h2, rfl⟩ := h
    obtain ⟨s, rfl⟩ := k_str h1
    obtain ⟨k, rfl, hk⟩ := k_int' h2
    exact ⟨⟨s, k, hk⟩, rfl⟩
theorem k_schema {n : Nat} {x : List D} (h : Gd n 89 x) : ∃ v, x = schemaC v := by
  cases n with
  | zero => exact h.elim
  | succ n =>
    rw [Gd, good_struct Tryz.underlying89] at h
    simp only [fieldsG] at h
    obtain ⟨a1, r1, rfl, -, h1, a2, r2, rfl, -, h2, rfl⟩ := h
    obtain ⟨s, rfl⟩ := k_str h1
    obtain ⟨l, rfl⟩ := k_sl Tryz.underlying87 (fun _ _ => k_field) h2
    exact ⟨⟨s, l⟩, rfl⟩
theorem k_event {n : Nat} {x : List D} (h : Gd n 92 x) : ∃ v, x = eventC v := by
  cases n with
  | zero => exact h.elim
  | succ n =>
    rw [Gd, good_struct Tryz.underlying92] at h
    simp only [fieldsG] at h
    obtain ⟨a1, r1, rfl, -, h1, a2, r2, rfl, -, h2, a3, r3, rfl, -, h3, a4, r4, rfl, -, h4, a5, r5, rfl, -, h5, rfl⟩ := h
    obtain ⟨t, rfl⟩ := k_int64 h1
    obtain ⟨d, rfl⟩ := k_int h2
    obtain ⟨q, rfl⟩ := k_int64 h3
    obtain ⟨s, rfl⟩ := k_str h4
    obtain ⟨l, rfl⟩ := k_sl Tryz.underlying90 (fun _ _ => k_val) h5
    exact ⟨⟨t, d, q, s, l⟩, rfl⟩
theorem k_row {n : Nat} {x : List D} (h : Gd n 94 x) : ∃ v, x = rowC v := k_sl Tryz.underlying94 (fun _ _ => k_event) h
theorem k_item {n : Nat} {x : List D} (h : Gd n 63 x) : ∃ v, x = itemC v := by
  cases n with
  | zero => exact h.elim
  | succ n =>
    rw [Gd, good_struct Tryz.underlying63] at h
    simp only [fieldsG] at h
    obtain ⟨a1, r1, rfl, -, h1, a2, r2, rfl, -, h2, a3, r3, rfl, -, h3, a4, r4, rfl, -, h4, rfl⟩ := h
    obtain ⟨b, rfl⟩ := k_bool h1
    obtain ⟨l, rfl, hl⟩ := k_sl' Tryz.underlying61 (fun _ _ => k_str') h2
    obtain ⟨s, rfl, hs⟩ := k_str' h3
    obtain ⟨k, rfl⟩ := k_int h4
    exact ⟨⟨b, l, s, k, hl, hs⟩, rfl⟩
theorem okEs_of : ∀ {l : List TExpr}, (∀ x ∈ l, okE x) → okEs l
  | [], _ => trivial
  | x :: _l, h => ⟨h x (List.mem_cons_self ..), okEs_of fun y hy => h y (List.mem_cons_of_mem _ hy)⟩
theorem k_expr : ∀ (n : Nat) (x : List D), Gd n 32 x → ∃ e, x = exprC e ∧ okE e
  | 0, x, h => h.elim
  | 1, x, h => by
    rw [Gd, good_struct Tryz.underlying32] at h
    simp only [fieldsG] at h
    obtain ⟨a1, r1, rfl, -, h1, -⟩ := h
    exact h1.elim
  | n + 2, x, h => by
    rw [Gd, good_struct Tryz.underlying32] at h
    simp only [fieldsG] at h
    obtain ⟨a1, r1, rfl, -, h1, a2, r2, rfl, -, h2, a3, r3, rfl, -, h3, a4, r4, rfl, -, h4, a5, r5, rfl, -, h5, rfl⟩ := h
    obtain ⟨k, rfl⟩ := k_int h1
    obtain ⟨v, rfl, hv⟩ := k_val' h2
    obtain ⟨s, rfl, hs⟩ := k_str' h3
    obtain ⟨f, rfl, hf⟩ := k_str' h4
    rw [good_slice Tryz.underlying30] at h5
    obtain ⟨rep, l, rfl, hl, hx⟩ := h5
    obtain ⟨es, rfl⟩ := good_map (c := fun e : {e : TExpr // okE e} => exprC e.1) fun y hy => by
      obtain ⟨e, h1, h2⟩ := k_expr n y (hx y hy).2
      exact ⟨⟨e, h2⟩, h1⟩
    refine ⟨.mk k v s f rep (es.map (·.1)), ?_, ?_, okEs_of fun x hx => ?_, hs, hf, hv⟩
    · rw [exprC_mk]
      simp [intC, valC, strC, List.flatMap]
    · have : maxLen = 9223372036854775807 := by decide
      simp at hl
      show (es.map (·.1)).length ≤ 9223372036854775807
      simp
      omega
    · obtain ⟨e, -, rfl⟩ := List.mem_map.1 hx
      exact e.2
theorem k_pred {n : Nat} {x : List D} (h : Gd n 34 x) : ∃ v, x = predC v := by
  cases n with
  | zero => exact h.elim
  | succ n =>
    rw [Gd, good_struct Tryz.underlying34] at h
    simp only [fieldsG] at h
    obtain ⟨a1, r1, rfl, -, h1, a2, r2, rfl, -, h2, a3, r3, rfl, -, h3, rfl⟩ := h
    obtain ⟨k, rfl⟩ := k_int h1
    obtain ⟨e1, rfl, o1⟩ := k_expr _ _ h2
    obtain ⟨e2, rfl, o2⟩ := k_expr _ _ h3
    exact ⟨⟨k, e1, e2, o1, o2⟩, by simp [predC, intC]⟩
theorem k_query {n : Nat} {x : List D} (h : Gd n 25 x) : ∃ v, x = queryC v := by
  cases n with
  | zero => exact h.elim
  | succ n =>
    rw [Gd, good_struct Tryz.underlying25] at h
    simp only [fieldsG] at h
    obtain ⟨a1, r1, rfl, -, h1, a2, r2, rfl, -, h2, a3, r3, rfl, -, h3, a4, r4, rfl, -, h4, a5, r5, rfl, -, h5, rfl⟩ := h
    obtain ⟨l1, rfl⟩ := k_sl Tryz.underlying22 (fun _ _ => k_item) h1
    obtain ⟨l2, rfl⟩ := k_sl Tryz.underlying23 (fun _ _ => k_pred) h2
    obtain ⟨w, rfl⟩ := k_int64 h3
    obtain ⟨s, rfl, hs⟩ := k_str' h4
    obtain ⟨p, rfl⟩ := k_int h5
    exact ⟨⟨l1, l2, w, s, p, hs⟩, rfl⟩
def kindsAll : List TypeId := [2, 3, 4, 5, 9, 22, 23, 25, 29, 30, 32, 34, 43, 46, 47, 61, 63, 86, 87, 89, 90, 92, 94]
theorem kindsAll_ok : closedB Tryz.prog kindsAll = true := by kernel_rfl
variable {W : World} {H : Type} {enc : TypeId × Value → H} {d : DataW H} {p : List MemPlace} {v : Value}
theorem in_sl {t e : TypeId} {α : Type} {c : α → List D} (hu : Tryz.prog.underlying t = some (.slice e)) (ht : t ∈ kindsAll) (hc : ∀ n x, Gd n e x → ∃ a, x = c a) (hv : v.cells = #[v])
    (h : DataW.Trod enc Tryz.prog W 0 (fun _ => true) true t v d p) : ∃ l : Sl α, relIn W (l.enc c) v := by
  obtain ⟨fuel, hf⟩ := h
  obtain ⟨ds, h1, h2⟩ := trod_good kindsAll_ok fuel t _ _ ht hf
  obtain ⟨x, rfl, h3⟩ := arg_one hv h1
  obtain ⟨l, hx⟩ := k_sl hu hc h2
  simp only [List.cons.injEq, and_true] at hx
  exact ⟨l, hx ▸ h3⟩
theorem in_query {cs : Array Value} (h : DataW.Trod enc Tryz.prog W 0 (fun _ => true) true 25 (.agg cs) d p) : ∃ q, relIn W (.agg (queryC q)) (.agg cs) := by
  obtain ⟨fuel, hf⟩ := h
  obtain ⟨ds, h1, h2⟩ := trod_good kindsAll_ok fuel 25 _ _ (by decide) hf
  obtain ⟨q, rfl⟩ := k_query h2
  exact ⟨q, arg_agg h1⟩
end Go.Proofs.YthdkeggdipogoaaGreatDoor.Tz
