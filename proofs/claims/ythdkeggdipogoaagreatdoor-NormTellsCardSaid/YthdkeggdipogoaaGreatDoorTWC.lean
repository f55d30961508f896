/-
The walks of the reference's Vars: the places of the items that an expression names. Conditions: none.
-/
import Derived.Test.YthdkeggdipogoaaGreatDoorTSe
import Derived.Test.YthdkeggdipogoaaGreatDoorTWB
namespace Go.Proofs.YthdkeggdipogoaaGreatDoor.Tz
open Go.Aug Go.Aug.Api
set_option maxRecDepth 100000
theorem ref09_Item_run (q : TQuery) (v : ByteArray) (H : Heap) : Run tab (.fn n_q47) [.agg (queryC q), strD v] H (i64D (placeS q.items.l v)) H := by
  refine cK.run (cK_fn o_q47 t_q47 (Nat.le_of_ble_eq_true rfl) (by decide) ?_)
  have hok := q.items.ok
  simp [queryC, Sl.enc]
  refine LR_rule (WR_mono _) (fun j E H' => ∃ pre suf, q.items.l = pre ++ suf ∧ j = suf.length ∧ E 1 = strD v ∧ E 2 = .rf H.next 0 ∧ E 5 = i64D pre.length ∧ (∀ x ∈ pre, decide (x.var = v) = false) ∧ H' = (low0 H).add (.cells (queryC q))) ?_ (j := q.items.l.length) ⟨[], q.items.l, rfl, rfl, by simp, by simp, by simp, by simp, by simp [queryC, Sl.enc]⟩
  rintro j E H' ⟨pre, suf, hl, rfl, e1, e2, e5, hp, rfl⟩
  cases suf with
  | nil =>
    simp at hl
    have hlt' : ((pre.length : Int) < (q.items.l.length : Int)) = False := by simp [hl]
    have : placeS q.items.l v = -1 := by
      unfold placeS
      rcases idx_cases (fun x : TItem => decide (x.var = v)) q.items.l with ⟨h, -⟩ | ⟨a, x, b, h1, h2, h3, -⟩
      · exact h
      · have := hp x (by rw [← hl, h1]; simp)
        rw [h3] at this
        cases this
    simp [queryC, Sl.enc, e2, e5, hlt', this]
  | cons x suf =>
    have hlt : pre.length < q.items.l.length := by rw [hl]; simp
    have hlt' : ((pre.length : Int) < (q.items.l.length : Int)) = True := by simp; omega
    have hw := wrap_more hlt hok
    have ea := elem_at itemC_len q.items.rep q.items.l .i64 pre.length x (by rw [hl]; simp)
    simp [queryC, Sl.enc, e1, e2, e5, hlt', ea, itemC]
    by_cases c : x.var = v
    · have : placeS q.items.l v = (pre.length : Int) := by
        unfold placeS
        rw [hl]
        exact idx_some (p := fun x : TItem => decide (x.var = v)) pre x suf hp (by simpa using c)
      simp [c, e5, this]
    · simp [c, e5, hw]
      refine ⟨suf.length, by omega, pre ++ [x], suf, by simp [hl], rfl, e1, e2, by simp, ?_⟩
      simp at hp ⊢
      intro y hy
      rcases hy with hy | rfl
      · exact hp y hy
      · exact c
theorem ref09_names_run : ∀ (x : TExpr) (_hx : okE x) (v : ByteArray) (H : Heap), Run tab (.fn n_q49) [.agg (exprC x), strD v] H (bD (namedS v (eachV x))) H
  | .mk k vv var f rep kids, hx, v, H => by
    have ih : ∀ x ∈ kids, ∀ (v : ByteArray) (H : Heap), Run tab (.fn n_q49) [.agg (exprC x), strD v] H (bD (namedS v (eachV x))) H := fun x hm v H => ref09_names_run x (okEs_mem hx.2.1 hm) v H
    have hok : kids.length ≤ big := hx.1
    refine cK.run (cK_fn o_q49 t_q49 (Nat.le_of_ble_eq_true rfl) (by decide) ?_)
    rw [exprC_mk]
    by_cases c1 : 2 ≤ k ∧ k ≤ 6
    · have : namedS v (eachV (.mk k vv var f rep kids)) = decide (var = v) := by
        unfold eachV
        rw [if_pos c1]
        simp [namedS]
      simp [c1.1, c1.2, this]
    · by_cases k7 : k = 7 ∨ k = 8
      · have hgo : ∀ (E : Fr) (Q : PostX), E 1 = strD v → E 2 = .rf H.next 0 → E 5 = i64D 0 →
            (∀ E H', namedS v (eachVs kids) = true → E 4 = bD true → H.next ≤ H'.low → Q .ret E H') → (∀ E H', namedS v (eachVs kids) = false → H.next ≤ H'.low → Q (.exit 0) E H') →
            LR (WR 40 tab none F_q49.l10) E ((low0 H).add (.cells [i64D k, i64D vv.kind, i64D vv.n, strD vv.s, strD var, strD f, slD rep kids.length (kids.flatMap exprC)])) Q := fun E Q e1 e2 e5 h1 h2 => by
          refine LR_rule (WR_mono _) (fun j E H' => ∃ pre suf, kids = pre ++ suf ∧ j = suf.length ∧ E 1 = strD v ∧ E 2 = .rf H.next 0 ∧ E 5 = i64D pre.length ∧ namedS v (eachVs pre) = false ∧ H' = (low0 H).add (.cells [i64D k, i64D vv.kind, i64D vv.n, strD vv.s, strD var, strD f, slD rep kids.length (kids.flatMap exprC)])) ?_ (j := kids.length) ⟨[], kids, rfl, rfl, e1, e2, e5, rfl, rfl⟩
          rintro j E H' ⟨pre, suf, hl, rfl, e1, e2, e5, hn, rfl⟩
          cases suf with
          | nil =>
            simp at hl
            have hlt' : ((pre.length : Int) < (kids.length : Int)) = False := by simp [hl]
            simp [e2, e5, hlt']
            exact h2 _ _ (by rw [hl]; exact hn) (by simp)
          | cons x suf =>
            have hlt : pre.length < kids.length := by rw [hl]; simp
            have hlt' : ((pre.length : Int) < (kids.length : Int)) = True := by simp; omega
            have hw := wrap_more hlt hok
            have ea := elem_at exprC_len rep kids .i64 pre.length x (by rw [hl]; simp)
            have hr := fun H => (ih x (by rw [hl]; simp) v H).cK
            cases c : namedS v (eachV x) with
            | true =>
              rw [c] at hr
              simp [e1, e2, e5, hlt', ea, load_elem _ _ _ _ (exprC_len x), hr]
              exact h1 _ _ (by rw [hl, eachVs_append, named_append]; simp [eachVs, named_append, c]) (by simp) (by simp)
            | false =>
              rw [c] at hr
              simp [e1, e2, e5, hlt', ea, load_elem _ _ _ _ (exprC_len x), hr, hw]
              refine ⟨suf.length, by omega, pre ++ [x], suf, by simp [hl], rfl, by simp, ?_⟩
              rw [eachVs_append, named_append, hn]
              simp [eachVs, c]
        have he : namedS v (eachV (.mk k vv var f rep kids)) = namedS v (eachVs kids) := by
          unfold eachV
          rw [if_neg c1, if_pos k7]
        rw [he]
        rcases k7 with rfl | rfl
        · simp
          refine hgo _ _ (by simp) (by simp) (by simp) (fun E H' h e4 hl => ?_) (fun E H' h hl => ?_)
          · simp [h, e4, hl]
          · simp [h, hl]
        · simp
          refine hgo _ _ (by simp) (by simp) (by simp) (fun E H' h e4 hl => ?_) (fun E H' h hl => ?_)
          · simp [h, e4, hl]
          · simp [h, hl]
      · have : namedS v (eachV (.mk k vv var f rep kids)) = false := by
          unfold eachV
          rw [if_neg c1, if_neg k7]
          rfl
        have h7 : k ≠ 7 := fun h => k7 (.inl h)
        have h8 : k ≠ 8 := fun h => k7 (.inr h)
        by_cases h2 : 2 ≤ k
        · have h6 : ¬ k ≤ 6 := by omega
          simp [h2, h6, this, h7, h8]
        · simp [h2, this, h7, h8]
theorem ints_fin {H H' : Heap} {fz : Bool} {l : List Int} {d : D} {b : Nat} (hz : fz = true) (hb : H.next ≤ b) (hl : H.next ≤ H'.low) (ho : Own (l.flatMap intC) l.length 1 b H' d) {R : D → Heap → Prop} (h : R (intsD l) H) : finX fz H d H' R := by
  subst hz
  rcases ho with ⟨h1, h2, rfl⟩ | ⟨h1, r, rfl, h3, h4, h5⟩
  · rw [finX_data hl rfl]
    have : l = [] := List.length_eq_zero_iff.1 h1
    subst this
    exact h
  · rw [finX_frozen (d' := intsD l) hl ?_]
    · exact h
    · obtain ⟨k, hk⟩ : ∃ k, l.length = k + 1 := ⟨l.length - 1, by omega⟩
      have hll : (l.flatMap intC).length = k + 1 := by rw [flatMap_length intC_len]; omega
      simp [frz_rs, intsD, hk, slD, hll, h5]
      have hn1 : ¬ (r < H.next) := by omega
      have ht : List.take (k + 1) (l.flatMap intC) = l.flatMap intC := List.take_of_length_le (by omega)
      rw [if_neg hn1, ht, frzL_within (fun d hd => frz_within 63 d hd) _ (by rw [List.all_flatMap]; simp [intC, within])]
      rfl
theorem ref09_Vars_gen (q : TQuery) (hq : q.items.l.length ≤ 3000) (xc : List D) (hx7 : xc.length = 7) (vs : List ByteArray) (H : Heap) (hx0 : H.low ≤ H.next)
    (hN : ∀ (v : ByteArray) (H' : Heap), (∀ r, r < H.next → H'.get r = H.get r) → H.next ≤ H'.next → Run tab (.fn n_q49) [.agg xc, strD v] H' (bD (namedS v vs)) H') : Run tab (.fn n_q48) [.agg (queryC q), .agg xc] H (intsD (firstsS q.items.l vs 0 q.items.l)) H := by
  refine cK.run (cK_fn o_q48 t_q48 (Nat.le_of_ble_eq_true rfl) (by decide) ?_)
  have hI := fun v H => (ref09_Item_run q v H).cK
  have hq5 : (queryC q).take 5 = queryC q := List.take_of_length_le (by rw [queryC_len]; exact Nat.le_refl _)
  have hx7' : xc.take 7 = xc := List.take_of_length_le (by omega)
  simp
  refine LR_rule (WR_mono _) (fun j E H' => ∃ pre suf, q.items.l = pre ++ suf ∧ j = suf.length ∧ E 2 = .rf H.next 0 ∧ E 3 = .rf (H.next + 1) 0 ∧ Own ((firstsS q.items.l vs 0 pre).flatMap intC) (firstsS q.items.l vs 0 pre).length 1 (H.next + 2) H' (E 5) ∧ E 6 = i64D pre.length ∧ H'.get H.next = some (.cells (queryC q)) ∧ H'.get (H.next + 1) = some (.cells xc) ∧ H.next ≤ H'.low ∧ H'.low ≤ H'.next ∧ H.next + 2 ≤ H'.next ∧ (∀ r, r < H.next → H'.get r = H.get r)) ?_ (j := q.items.l.length) ⟨[], q.items.l, rfl, rfl, by simp, by simp, .inl ⟨rfl, rfl, by simp⟩, by simp, by simp, by simp, by simp, by simp, by simp, fun r hr => ?_⟩
  rotate_left
  · have k0 : (r = H.next) = False := by simp; omega
    have k1 : (r = H.next + 1) = False := by simp; omega
    simp [k0, k1]
  rintro j E H' ⟨pre, suf, hl, rfl, e2, e3, ho, e6, g0, g1, w1, w2, w3, gf⟩
  have hlen := firsts_length q.items.l vs pre 0
  cases suf with
  | nil =>
    simp at hl
    have hlt' : ((pre.length : Int) < (q.items.l.length : Int)) = False := by simp [hl]
    simp [e2, e6, g0, hlt', queryC, Sl.enc]
    rw [← hl] at ho
    exact ints_fin z_q48 (by omega) w1 ho ⟨rfl, rfl⟩
  | cons y suf =>
    have hlt : pre.length < q.items.l.length := by rw [hl]; simp
    have hlt' : ((pre.length : Int) < (q.items.l.length : Int)) = True := by simp; omega
    have hw : IntKind.i64.wrap ((pre.length : Int) + 1) = (pre.length : Int) + 1 := wrap64 (by omega) (by omega)
    have ea := elem_at itemC_len q.items.rep q.items.l .i64 pre.length y (by rw [hl]; simp)
    have n0 : ∀ k, (H.next = H'.next + k) = False := by simp; omega
    have n1 : ∀ k, (H.next + 1 = H'.next + k) = False := by simp; omega
    have hI := fun H => hI y.var H
    have hN := fun (H1 : Heap) h1 h2 => (hN y.var H1 h1 h2).cK
    have hN' := hN H' gf (by omega)
    have hN2 := hN (low0 H') (fun r hr => gf r hr) (by simp; omega)
    have hit : ∀ rest : List D, (itemC y ++ rest)[2]? = some (strD y.var) := fun rest => by simp [itemC]
    simp only [queryC, Sl.enc] at hI
    simp [queryC, Sl.enc, e2, e3, e6, g0, g1, hlt', ea, hit, hI]
    have hfs : firstsS q.items.l vs 0 (pre ++ [y]) = firstsS q.items.l vs 0 pre ++ (if placeS q.items.l y.var = pre.length ∧ namedS y.var vs = true then [(pre.length : Int)] else []) := by
      rw [firsts_append]; simp [firstsS]
    refine gK_of (fun h => ?_) (fun h => ?_)
    · simp at h
      simp [h, e2, e3, e6, g0, g1, hx7, hx7', ea, hit, hN', hN2, queryC, Sl.enc]
      refine gK_of (fun h2 => ?_) (fun h2 => ?_)
      · simp [h2, e2, e3, e6, w2]
        refine own_app (b := H.next + 2) (lo := H.next) (L := (firstsS q.items.l vs 0 pre).flatMap intC) (X := [i64D pre.length]) (ho.mono (by simp) fun r h1 h2 => ?_) rfl (by rw [flatMap_length intC_len]) (by omega) (by decide) (by simp) (by simpa using w1) (by simp; omega) (by simp; omega) (by omega) _ fun d' H2 o2 n2 l2 l3 g2 => ?_
        · have q1 : (r = H'.next) = False := by simp; omega
          simp [q1]
        · simp [e2, e3, e6, hw]
          have k0 : (H.next = H'.next) = False := by simp; omega
          have k1 : (H.next + 1 = H'.next) = False := by simp; omega
          refine ⟨suf.length, by omega, pre ++ [y], suf, by simp [hl], rfl, ?_, by simp, ?_, ?_, l2, l3, by simp at n2; omega, fun r hr => ?_⟩
          · rw [hfs, if_pos ⟨h, h2⟩]
            simpa [intC] using o2
          · rw [g2 _ (by omega)]; simp [k0, g0, queryC, Sl.enc]
          · rw [g2 _ (by omega)]; simp [k1, g1]
          · have k2 : (r = H'.next) = False := by simp; omega
            rw [g2 _ (by omega)]; simp [k2, gf r hr]
      · simp [h2, e2, e3, e6, hw]
        refine ⟨suf.length, by omega, pre ++ [y], suf, by simp [hl], rfl, ?_, by simp, g0, g1, w1, w2, w3, gf⟩
        rw [hfs, if_neg (by simp [h2])]
        simpa using ho
    · simp at h
      simp [h, e2, e3, e6, g0, g1, hlt', ea, hit, hI, hw]
      refine ⟨suf.length, by omega, pre ++ [y], suf, by simp [hl], rfl, ?_, by simp, rfl, w1, w2, w3, gf⟩
      rw [hfs, if_neg (by simp [h])]
      simpa using ho
def twoC (r : Nat) : List D := [i64D 7, i64D 0, i64D 0, strD ⟨#[]⟩, strD ⟨#[]⟩, strD ⟨#[]⟩, .rs r 0 2 (some 2) 7]
theorem expr_load {kids pre suf : List TExpr} {x : TExpr} {H : Heap} {r : Nat} (hl : kids = pre ++ x :: suf) (h : H.get r = some (.cells (kids.flatMap exprC))) : evLoad H (some 7) (.rf r (pre.length * 7)) = some (.agg (exprC x)) := by
  have hd := drop_zip exprC_len pre (x :: suf)
  rw [← hl] at hd
  simp [h, hd]
theorem names_two (L R : TExpr) (hL : okE L) (hR : okE R) (v : ByteArray) (H : Heap) {r : Nat} (hg : H.get r = some (.cells ([L, R].flatMap exprC))) (hr : r < H.next) : Run tab (.fn n_q49) [.agg (twoC r), strD v] H (bD (namedS v (eachV L ++ eachV R))) H := by
  refine cK.run (cK_fn o_q49 t_q49 (Nat.le_of_ble_eq_true rfl) (by decide) ?_)
  have hne : (r = H.next) = False := by simp; omega
  have he : eachVs [L, R] = eachV L ++ eachV R := by simp [eachVs]
  simp [twoC]
  refine LR_rule (WR_mono _) (fun j E H' => ∃ pre suf, [L, R] = pre ++ suf ∧ j = suf.length ∧ E 1 = strD v ∧ E 2 = .rf H.next 0 ∧ E 5 = i64D pre.length ∧ namedS v (eachVs pre) = false ∧ H' = (low0 H).add (.cells (twoC r))) ?_ (j := 2) ⟨[], [L, R], rfl, rfl, by simp, by simp, by simp, rfl, by simp [twoC]⟩
  rintro j E H' ⟨pre, suf, hl, rfl, e1, e2, e5, hn, rfl⟩
  have hlen : pre.length + suf.length = 2 := by
    have := congrArg List.length hl
    simpa using this.symm
  cases suf with
  | nil =>
    have hlt' : ((pre.length : Int) < 2) = False := by simp at hlen ⊢; omega
    have : pre = [L, R] := by simpa using hl.symm
    rw [this, he] at hn
    simp [twoC, e2, e5, hlt', hn]
  | cons x suf =>
    have hlt' : ((pre.length : Int) < 2) = True := by simp at hlen ⊢; omega
    have hw : IntKind.i64.wrap ((pre.length : Int) + 1) = (pre.length : Int) + 1 := wrap64 (by omega) (by simp at hlen; omega)
    have hx : okE x := by
      have : x ∈ [L, R] := by rw [hl]; simp
      simp at this
      rcases this with rfl | rfl <;> assumption
    have hc := fun H => (ref09_names_run x hx v H).cK
    have hload : ∀ H1 : Heap, H1.get r = some (.cells ([L, R].flatMap exprC)) → evLoad H1 (some 7) (.rf r (pre.length * 7)) = some (.agg (exprC x)) := fun H1 h => expr_load hl h
    have hload0 : evLoad ((low0 H).add (.cells (twoC r))) none (.rf H.next 6) = some (.rs r 0 2 (some 2) 7) := by simp [twoC]
    have hg1 : ((low0 H).add (.cells (twoC r))).get r = some (.cells ([L, R].flatMap exprC)) := by simp [hne, hg]
    have hload1 := hload _ hg1
    simp only [twoC] at hload0 hload1
    cases c : namedS v (eachV x) with
    | true =>
      rw [c] at hc
      have hr : namedS v (eachV L ++ eachV R) = true := by
        rw [← he, hl, eachVs_append, named_append]
        simp [eachVs, named_append, c]
      simp [-load_rf, twoC, e1, e2, e5, hlt', hload0, hload1, hc, hr]
    | false =>
      rw [c] at hc
      simp [-load_rf, twoC, e1, e2, e5, hlt', hload0, hload1, hc, hw]
      refine ⟨suf.length, by omega, pre ++ [x], suf, by simp [hl], rfl, by simp, ?_⟩
      rw [eachVs_append, named_append, hn]
      simp [eachVs, c]
end Go.Proofs.YthdkeggdipogoaaGreatDoor.Tz

namespace Go.Proofs.YthdkeggdipogoaaGreatDoor.Tz
open Go.Aug Go.Aug.Api
set_option maxRecDepth 100000
theorem setAll_two (z a b : List D) (h : z.length = a.length + b.length) : setAll (setAll z 0 a) a.length b = a ++ b := by
  apply List.ext_getElem?
  intro i
  rw [setAll_get b _ a.length i (by rw [setAll_length]; omega), setAll_get a z 0 i (by omega)]
  by_cases c : i < a.length
  · rw [if_neg (by omega), if_pos (by omega), List.getElem?_append_left c]
    rfl
  · by_cases c2 : i < a.length + b.length
    · rw [if_pos (by omega), List.getElem?_append_right (by omega)]
    · rw [if_neg (by omega), if_neg (by omega), List.getElem?_append_right (by omega), List.getElem?_eq_none (by omega), List.getElem?_eq_none (by omega)]
theorem setAll_succ (d : D) : ∀ (c z : List D) (k : Nat), setAll (d :: z) (k + 1) c = d :: setAll z k c
  | [], _, _ => rfl
  | x :: c, z, k => by
    rw [setAll_cons, setAll_cons, List.set_cons_succ, setAll_succ d c]
theorem two_build (z : List D) (a b : TExpr) (h : z.length = 14) : setAll (setAll z 0 (exprC a)) 7 (exprC b) = exprC a ++ exprC b := by
  have := setAll_two z (exprC a) (exprC b) (by rw [exprC_len, exprC_len, h])
  rw [exprC_len] at this
  exact this
theorem pred_build (d : D) (z : List D) (a b : TExpr) (h : z.length = 14) : setAll (setAll (d :: z) 1 (exprC a)) 8 (exprC b) = d :: (exprC a ++ exprC b) := by
  rw [setAll_succ, setAll_succ, two_build z a b h]
theorem pred_L (p : TPred) : List.take 7 (predC p).tail = exprC p.L := by
  show (exprC p.L ++ exprC p.R).take 7 = _
  exact List.take_left' (exprC_len p.L)
theorem pred_R (p : TPred) : List.take 7 (List.drop 8 (predC p)) = exprC p.R := by
  show ((exprC p.L ++ exprC p.R).drop 7).take 7 = _
  rw [List.drop_left' (exprC_len p.L)]
  exact List.take_of_length_le (by rw [exprC_len]; exact Nat.le_refl _)
theorem ref09_Both_run (q : TQuery) (hq : q.items.l.length ≤ 3000) (p : TPred) (H : Heap) : Run tab (.fn n_q46) [.agg (queryC q), .agg (predC p)] H (intsD (firstsS q.items.l (eachV p.L ++ eachV p.R) 0 q.items.l)) H := by
  refine cK.run (cK_fn o_q46 t_q46 (Nat.le_of_ble_eq_true rfl) (by decide) ?_)
  have hq5 : (queryC q).take 5 = queryC q := List.take_of_length_le (by rw [queryC_len]; exact Nat.le_refl _)
  have hk : [p.L, p.R].flatMap exprC = exprC p.L ++ exprC p.R := by simp
  have hV : ∀ (H1 : Heap) (r : Nat) (R : D → Heap → Prop), H1.get r = some (.cells (exprC p.L ++ exprC p.R)) → r < H1.next → H1.low ≤ H1.next → cK tab (.fn n_q48) [.agg (queryC q), .agg (twoC r)] H1 R = R (intsD (firstsS q.items.l (eachV p.L ++ eachV p.R) 0 q.items.l)) H1 := fun H1 r R hg hr hl => by
    refine (ref09_Vars_gen q hq (twoC r) rfl (eachV p.L ++ eachV p.R) H1 hl fun v H2 g2 n2 => ?_).cK R
    exact names_two p.L p.R p.okL p.okR v H2 (by rw [g2 r hr, hg, hk]) (by omega)
  have hb := fun z h => two_build z p.L p.R h
  simp only [twoC] at hV
  simp [hq5, pred_L, pred_R, hb, setAll_length, hV]
  rw [finX_data (by simp) (by simp [intsD])]
  exact ⟨rfl, rfl⟩
theorem ref10_Place_run (q : TQuery) (hq : q.items.l.length ≤ 3000) (p : TPred) (H : Heap) : Run tab (.fn n_q52) [.agg (queryC q), .agg (predC p)] H (i64D (placeR q.items.l p)) H := by
  refine cK.run (cK_fn o_q52 t_q52 (Nat.le_of_ble_eq_true rfl) (by decide) ?_)
  have hq5 : (queryC q).take 5 = queryC q := List.take_of_length_le (by rw [queryC_len]; exact Nat.le_refl _)
  have hp15 : (predC p).take 15 = predC p := List.take_of_length_le (by rw [predC_len]; exact Nat.le_refl _)
  have hB := fun H => (ref09_Both_run q hq p H).cK
  have hlen := firsts_length q.items.l (eachV p.L ++ eachV p.R) q.items.l 0
  unfold placeR
  generalize firstsS q.items.l (eachV p.L ++ eachV p.R) 0 q.items.l = L at hB hlen
  have hl : evLen false (intsD L) = some (i64D L.length) := sl_len _ _ _
  rcases List.eq_nil_or_concat L with rfl | ⟨l, x, rfl⟩
  · simp [hq5, hp15, hB, hl]
  · have ea := elem_at intC_len none (l ++ [x]) .i64 l.length x (by simp)
    have hc : ((l.length : Int) + 1 = 0) = False := by simp; omega
    have hw : IntKind.i64.wrap (l.length : Int) = l.length := by
      rw [wrap64] <;> (simp at hlen; omega)
    have ea' : evIadr 1 (intsD (l ++ [x])) (i64D l.length) = some (.cp (intC x ++ [])) := by
      simpa [intsD] using ea
    simp at hl
    simp [hq5, hp15, hB, hl, hc, hw, ea', intC]
theorem ref10_turned_run (p : TPred) (hp : predX p = true) (H : Heap) : Run tab (.fn n_q54) [.agg (predC p)] H (.agg (predC (normP p))) H := by
  refine cK.run (cK_fn o_q54 t_q54 (Nat.le_of_ble_eq_true rfl) (by decide) ?_)
  have hF := fun x hx H => (ref10_Fold_run x hx H).cK
  have hL := fun H => hF p.L p.okL H
  have hR := fun H => hF p.R p.okR H
  unfold predX at hp
  simp only [Bool.and_eq_true, decide_eq_true_eq] at hp
  have h0 : (predC p)[0]? = some (i64D p.cmp) := rfl
  have h0' : ∀ h, (predC p)[0]'h = i64D p.cmp := fun _ => rfl
  have hfull : ∀ (z : List D) (x : TExpr), z.length = 7 → setAll z 0 (exprC x) = exprC x := fun z x h => setAll_full z _ (by rw [exprC_len, h])
  have hfull2 : ∀ (z : List D) (p : TPred), z.length = 15 → setAll z 0 (predC p) = predC p := fun z x h => setAll_full z _ (by rw [predC_len, h])
  have hb := fun d z a b h => pred_build d z a b h
  have htk : ∀ p : TPred, (predC p).take 15 = predC p := fun p => List.take_of_length_le (by rw [predC_len]; exact Nat.le_refl _)
  by_cases h5 : 5 ≤ p.cmp
  · have hw : IntKind.i64.wrap (p.cmp - 2) = p.cmp - 2 := wrap64 (by omega) (by omega)
    have hn : (normP p) = ⟨p.cmp - 2, foldX p.R, foldX p.L, okE_fold _ p.okR, okE_fold _ p.okL⟩ := by unfold normP; rw [if_pos h5]
    have hc : i64D (p.cmp - 2) :: (exprC (foldX p.R) ++ exprC (foldX p.L)) = predC (normP p) := by rw [hn]; rfl
    have c56 : p.cmp = 5 ∨ p.cmp = 6 := by omega
    have w3 : IntKind.i64.wrap 3 = 3 := rfl
    have w4 : IntKind.i64.wrap 4 = 4 := rfl
    rcases c56 with c | c
    · rw [c] at hc
      simp at hc
      simp [h0, h0', c, pred_L, pred_R, hL, hR, hfull, hfull2, hb, w3, hc, setAll_length, htk]
    · rw [c] at hc
      simp at hc
      simp [h0, h0', c, pred_L, pred_R, hL, hR, hfull, hfull2, hb, w4, hc, setAll_length, htk]
  · have hn : (normP p) = ⟨p.cmp, foldX p.L, foldX p.R, okE_fold _ p.okL, okE_fold _ p.okR⟩ := by unfold normP; rw [if_neg h5]
    have hc : i64D p.cmp :: (exprC (foldX p.L) ++ exprC (foldX p.R)) = predC (normP p) := by rw [hn]; rfl
    have c5 : ¬ p.cmp = 5 := by omega
    have c6 : ¬ p.cmp = 6 := by omega
    simp [h0, h0', c5, c6, pred_L, pred_R, hL, hR, hfull, hfull2, hb, hc, setAll_length, htk]
end Go.Proofs.YthdkeggdipogoaaGreatDoor.Tz

namespace Go.Proofs.YthdkeggdipogoaaGreatDoor.Tz
open Go.Aug Go.Aug.Api
set_option maxRecDepth 100000
theorem Great_large (q : TQuery) (h1 : q.items.l.length ≤ 140737488355328) (h2 : q.preds.l.length ≤ 140737488355328) (hn : 3000 ≤ q.items.l.length + q.preds.l.length) (H : Heap) : Run tab (.fn n_q0) [.agg (queryC q)] H (bD true) H := by
  have key : cK tab (.fn n_q0) [.agg (queryC q)] H fun d H' => d = bD true ∧ H' = H := by
    refine cK_fn o_q0 t_q0 (Nat.le_of_ble_eq_true rfl) (by decide) ?_
    simp [queryC, Sl.enc]
    have m0 : 0 ≤ (if (3000 : Int) < q.by_.size then 3000 else (q.by_.size : Int)) ∧ (if (3000 : Int) < q.by_.size then 3000 else (q.by_.size : Int)) ≤ 3000 := by split <;> omega
    generalize (if (3000 : Int) < q.by_.size then 3000 else (q.by_.size : Int)) = A at m0 ⊢
    have w1 : IntKind.i64.wrap ((q.items.l.length : Int) + q.preds.l.length) = (q.items.l.length : Int) + q.preds.l.length := wrap64 (by omega) (by omega)
    have w2 : IntKind.i64.wrap ((q.items.l.length : Int) + q.preds.l.length + A) = (q.items.l.length : Int) + q.preds.l.length + A := wrap64 (by omega) (by omega)
    rw [w1, w2]
    obtain ⟨N, hN⟩ : ∃ N : Int, N = (q.items.l.length : Int) + q.preds.l.length + A := ⟨_, rfl⟩
    rw [← hN]
    have hg : (N < 3000) = False := eq_false (by omega)
    have hg' : (3000 ≤ N) = True := eq_true (by omega)
    have second : ∀ (E : Fr), E 1 = .rf H.next 0 → E 3 = i64D N → E 6 = i64D 0 → ∀ Q : PostX, (∀ E, E 3 = i64D N → Q (.exit 4) E ((low0 H).add (.cells (queryC q)))) → LR (WR 106 tab none F_q0.l16) E ((low0 H).add (.cells (queryC q))) Q := fun E e1 e3 e6 Q hQ => by
      refine LR_rule (WR_mono _) (fun j E H' => H' = (low0 H).add (.cells (queryC q)) ∧ E 1 = .rf H.next 0 ∧ E 3 = i64D N ∧ E 6 = i64D 0) ?_ (j := 0) ⟨rfl, e1, e3, e6⟩
      rintro j E H' ⟨rfl, e1, e3, e6⟩
      by_cases c : 0 < q.preds.l.length
      · simp [queryC, Sl.enc, e1, e3, e6, c, hg] at hQ ⊢
        exact hQ _ (by simp [e3])
      · simp [queryC, Sl.enc, e1, e3, e6, c, hg] at hQ ⊢
        exact hQ _ (by simp [e3])
    refine LR_rule (WR_mono _) (fun j E H' => H' = (low0 H).add (.cells (queryC q)) ∧ E 1 = .rf H.next 0 ∧ E 3 = i64D N ∧ E 4 = i64D 0) ?_ (j := 0) ⟨by simp [queryC, Sl.enc], by simp, by simp, by simp⟩
    rintro j E H' ⟨rfl, e1, e3, e4⟩
    have hq : (low0 H).add (.cells (queryC q)) = (low0 H).add (.cells [slD q.items.rep q.items.l.length (q.items.l.flatMap itemC), slD q.preds.rep q.preds.l.length (q.preds.l.flatMap predC), i64D q.within, strD q.by_, i64D q.pick]) := rfl
    by_cases c : 0 < q.items.l.length
    · simp [queryC, Sl.enc, e1, e3, e4, c, hg]
      refine second _ (by simp [e1]) (by simp [e3]) (by simp) _ fun E e3 => ?_
      simp [queryC, e3, hg']
    · simp [queryC, Sl.enc, e1, e3, e4, c, hg]
      refine second _ (by simp [e1]) (by simp [e3]) (by simp) _ fun E e3 => ?_
      simp [queryC, e3, hg']
  obtain ⟨d, H', hr, rfl, rfl⟩ := key
  exact hr
theorem Great_small (q : TQuery) (h1 : q.items.l.length ≤ 140737488355328) (h2 : q.preds.l.length ≤ 140737488355328) (H : Heap) : ∃ b, Run tab (.fn n_q0) [.agg (queryC q)] H (bD b) H ∧ (b = false → q.items.l.length + q.preds.l.length < 3000) := by
  by_cases hn : 3000 ≤ q.items.l.length + q.preds.l.length
  · exact ⟨true, Great_large q h1 h2 hn H, fun h => by cases h⟩
  · obtain ⟨b, hb⟩ := (Great_run q H).run
    exact ⟨b, hb, fun _ => by omega⟩
end Go.Proofs.YthdkeggdipogoaaGreatDoor.Tz
