/-
The walk of NormPlaces. Conditions: none.
-/
import Derived.Test.YthdkeggdipogoaaGreatDoorTSd
namespace Go.Proofs.YthdkeggdipogoaaGreatDoor.Tz
open Go.Aug Go.Aug.Api
set_option maxRecDepth 100000
theorem oA_NormPlaces : tabA.orc n_augurylaw10_NormPlaces = none := by kernel_rfl
theorem places_inner (n : TQuery) (pre : List TPred) (p : TPred) (suf : List TPred) (hl : n.preds.l = pre ++ p :: suf) (hlen : n.preds.l.length ≤ 8)
    (hS : ∀ (a b : TPred) (H : Heap) (k : D → Heap → Prop), cK tabA (.fn n_auguryref08_SamePred) [.agg (predC a), .agg (predC b)] H k = k (bD (sameP a b)) H) (hno : ∀ y ∈ pre, sameP p y = false) (Q : PostX) (E : Fr) (H1 : Heap) {b : Nat} (e4 : E 4 = .rf b 0) (e5 : E 5 = i64D pre.length) (e7 : E 7 = i64D 0) (g : H1.get b = some (.cells (queryC n)))
    (hend : ∀ E' : Fr, E' 3 = E 3 → E' 4 = E 4 → E' 5 = E 5 → Q (.exit 2) E' H1) : LR (WR 84 tabA none F_augurylaw10_NormPlaces.l15) E H1 Q := by
  have hq1 : (queryC n)[1]? = some (n.preds.enc predC) := rfl
  have hq1' : ∀ h : 1 < (queryC n).length, (queryC n)[1] = n.preds.enc predC := fun _ => rfl
  have ea := elem_at predC_len n.preds.rep n.preds.l .i64 pre.length p (by rw [hl]; simp)
  refine LR_rule (WR_mono _) (fun j E' H' => H' = H1 ∧ ∃ a c, pre = a ++ c ∧ j = c.length ∧ E' 3 = E 3 ∧ E' 4 = E 4 ∧ E' 5 = E 5 ∧ E' 7 = i64D a.length) ?_ (j := pre.length) ⟨rfl, [], pre, rfl, rfl, rfl, rfl, rfl, e7⟩
  rintro j E' H' ⟨rfl, a, c, hac, rfl, f3, f4, f5, f7⟩
  rw [e4] at f4
  rw [e5] at f5
  cases c with
  | nil =>
    have ha : pre = a := by simpa using hac
    have hlt' : ((a.length : Int) < (pre.length : Int)) = False := by simp [ha]
    simp [f5, f7, hlt']
    exact hend _ (by simp [f3]) (by simp [f4, e4]) (by simp [f5, e5])
  | cons y c =>
    have hll : n.preds.l.length = pre.length + 1 + suf.length := by rw [hl]; simp; omega
    have hpl : pre.length = a.length + 1 + c.length := by rw [hac]; simp; omega
    have hlt' : ((a.length : Int) < (pre.length : Int)) = True := by simp; omega
    have hw : IntKind.i64.wrap ((a.length : Int) + 1) = (a.length : Int) + 1 := wrap64 (by omega) (by omega)
    have ey := elem_at predC_len n.preds.rep n.preds.l .i64 a.length y (by rw [hl, hac]; simp)
    have hn := hno y (by rw [hac]; simp)
    simp [f4, f5, f7, hlt', g, hq1, hq1', Sl.enc, ea, ey, load_elem _ _ _ _ (predC_len p), load_elem _ _ _ _ (predC_len y), hS, hn, hw]
    refine ⟨c.length, by omega, a ++ [y], c, by simp [hac], rfl, by simp [f3], by simp [f4, e4], by simp [f5, e5], by simp⟩
set_option maxHeartbeats 2000000 in
theorem places_walk (q : TQuery) (H : Heap) : cK tabA (.fn n_augurylaw10_NormPlaces) [.agg (queryC q)] H fun d H' => d = bD true ∧ H' = H := by
  refine cK_fn oA_NormPlaces (tLA t_augurylaw10_NormPlaces) (Nat.le_of_ble_eq_true rfl) (by decide) ?_
  have hq5 : ∀ q : TQuery, (queryC q).take 5 = queryC q := fun q => List.take_of_length_le (by rw [queryC_len]; exact Nat.le_refl _)
  have hh := fun H => (head10A_run H).cK
  obtain ⟨g, hg⟩ := (Great_run q H0).run
  have hG := fun H => (runA oA_Great (by simp) hg H).cK
  have hR := fun H => (runA oA_Right (by simp) (tree_Right_run q H0) H).cK
  have hN := fun H => (runA oA_Norm (by simp) (norm_Norm_run q H0) H).cK
  cases g with
  | true => simp [hq5, hh, hG]
  | false =>
  cases hq : rightP q with
  | false =>
    rw [hq] at hR
    simp [hq5, hh, hG, hR]
  | true =>
  rw [hq] at hR
  obtain ⟨n, hn⟩ : ∃ n, n = normQ q := ⟨_, rfl⟩
  rw [← hn] at hN
  have hP := fun (p : TPred) (hp : predX p = true) (H : Heap) => (runA oA_Place (by simp) (place_run (q := n) hp H0) H).cK
  have hS := fun (a b : TPred) (H : Heap) => (runA oA_SamePred (by simp) (SamePred_run a b H0) H).cK
  have hnr := normQ_right hq
  rw [← hn] at hnr
  have hni : n.items = q.items := by rw [hnr]
  have hnl : n.preds.l = normL q.items.l (textS q) q.preds.l := by rw [hnr]
  have hall := normL_rises q.items.l (textS q) q.preds.l
  rw [← hnl] at hall
  have hmem : ∀ x ∈ n.preds.l, predX x = true ∧ x.cmp ≤ 4 := fun x hx => by
    rw [hnl] at hx
    obtain ⟨p, hp, rfl⟩ := normL_mem hx
    obtain ⟨-, a2, -⟩ := right_parts hq
    exact predX_norm (List.all_eq_true.1 a2 p hp)
  have hlen : n.preds.l.length ≤ 8 := by
    rw [hnl]
    have := normL_length q.items.l (textS q) q.preds.l
    obtain ⟨-, -, -, -, a5, -⟩ := right_parts hq
    omega
  have hpb := fun p => place_bounds hq p
  rw [← hni] at hall hpb
  have hsz : (List.replicate 5 (i64D 0)).length = 5 := rfl
  simp [hq5, hh, hG, hR, hN, setAll_full]
  refine LR_rule (WR_mono _) (fun j E H' => ∃ pre suf, n.preds.l = pre ++ suf ∧ j = suf.length ∧ E 3 = bD true ∧ E 4 = .rf (H.next + 1) 0 ∧ E 5 = i64D pre.length ∧ H' = ((low0 H).add (.cells (queryC q))).add (.cells (queryC n))) ?_ (j := n.preds.l.length) ⟨[], n.preds.l, rfl, rfl, by first | rfl | simp, by first | rfl | simp, by first | rfl | simp, by first | rfl | simp⟩
  rintro j E H' ⟨pre, suf, hl, rfl, e3, e4, e5, rfl⟩
  have hq0 : (queryC n)[0]? = some (n.items.enc itemC) := rfl
  have hq1 : (queryC n)[1]? = some (n.preds.enc predC) := rfl
  have hq1' : ∀ h : 1 < (queryC n).length, (queryC n)[1] = n.preds.enc predC := fun _ => rfl
  have hq0' : ∀ h : 0 < (queryC n).length, (queryC n)[0] = n.items.enc itemC := fun _ => rfl
  cases suf with
  | nil =>
    have hl' : n.preds.l = pre := by simpa using hl
    have hlt' : ((pre.length : Int) < (n.preds.l.length : Int)) = False := by simp [hl']
    simp [e3, e4, e5, hq1, hq1', Sl.enc, hlt']
  | cons p suf =>
    have hlt : pre.length < n.preds.l.length := by rw [hl]; simp
    have hlt' : ((pre.length : Int) < (n.preds.l.length : Int)) = True := by simp; omega
    have hw : IntKind.i64.wrap ((pre.length : Int) + 1) = (pre.length : Int) + 1 := wrap64 (by omega) (by omega)
    have ea := elem_at predC_len n.preds.rep n.preds.l .i64 pre.length p (by rw [hl]; simp)
    obtain ⟨hp, hp4⟩ := hmem p (by rw [hl]; simp)
    obtain ⟨b1, b2⟩ := hpb p
    have hP0 := hP p hp
    have b1' : ¬ placeN n.items.l p < 0 := by omega
    have b2' : ¬ (n.items.l.length : Int) ≤ placeN n.items.l p := by omega
    have b3' : ¬ (4 : Int) < p.cmp := by omega
    have hc0 : ∀ (H : Heap) (rest : List D), evLoad H none (.cp (predC p ++ rest)) = some (i64D p.cmp) := fun H rest => rfl
    simp [e3, e4, e5, hq1, hq1', hq0, hq0', Sl.enc, hlt', ea, load_elem _ _ _ _ (predC_len p), hq5, hP0, b1', b2', b3', hc0]
    have hno : ∀ y ∈ pre, sameP p y = false := fun y hy => by
      rw [hl] at hall
      have h1 := ((List.pairwise_append.1 hall).2.2 y hy p (by simp)).2
      cases h2 : sameP p y with
      | false => rfl
      | true => exact absurd (same_text q h2).symm h1
    have done : ∀ (E : Fr), E 3 = bD true → E 4 = .rf (H.next + 1) 0 → E 5 = i64D pre.length → oK (evBin .add (E 5) (i64D 1)) fun d => ∃ j', j' < suf.length + 1 ∧ ∃ pre_1 suf, n.preds.l = pre_1 ++ suf ∧ j' = suf.length ∧ E 3 = bD true ∧ E 4 = .rf (H.next + 1) 0 ∧ d = i64D pre_1.length := fun E f3 f4 f5 => by
      simp [f3, f4, f5, hw]
      exact ⟨suf.length, by omega, pre ++ [p], suf, by simp [hl], rfl, by simp⟩
    refine gK_of (fun h => ?_) (fun h => ?_)
    · simp at h
      obtain ⟨pre0, x, hpre⟩ : ∃ pre0 x, pre = pre0 ++ [x] := ⟨pre.dropLast, pre.getLast (by intro h0; simp [h0] at h), (List.dropLast_concat_getLast _).symm⟩
      have hxl : pre.length = pre0.length + 1 := by rw [hpre]; simp
      have hex := elem_at predC_len n.preds.rep n.preds.l .i64 pre0.length x (by rw [hl, hpre]; simp)
      have hxlt : ((pre0.length : Int) < (n.preds.l.length : Int)) = True := by simp; omega
      have hwx : IntKind.i64.wrap (pre0.length : Int) = (pre0.length : Int) := wrap64 (by omega) (by omega)
      have hx := (hmem x (by rw [hl, hpre]; simp)).1
      have hPx := hP x hx
      have hle : placeN n.items.l x ≤ placeN n.items.l p := by
        rw [hl, hpre] at hall
        exact (((List.pairwise_append.1 hall).2.2) x (by simp) p (by simp)).1
      have hle' : ¬ placeN n.items.l p < placeN n.items.l x := by omega
      simp [e4, e5, hq1, hq1', Sl.enc, hxl, hwx, hex, load_elem _ _ _ _ (predC_len x), hq5, hPx, hle']
      refine places_inner (b := H.next + 1) n pre p suf hl hlen hS hno _ _ _ (by simp [e4]) (by simp [e5, hxl]) (by simp) (by simp) fun E' f3 f4 f5 => ?_
      simp [f3, f4, f5, e3, e4, e5]
      rw [hw]
      exact ⟨suf.length, by omega, pre ++ [p], suf, by simp [hl], rfl, by simp⟩
    · have h0 : pre = [] := by simpa using h
      simp [h0, e4, e5]
      refine places_inner (b := H.next + 1) n pre p suf hl hlen hS hno _ _ _ (by simp [e4]) (by simp [e5]) (by simp) (by simp) fun E' f3 f4 f5 => ?_
      simp [f3, f4, f5, e3, e4, e5]
      rw [hw]
      exact ⟨suf.length, by omega, pre ++ [p], suf, by simp [hl], rfl, by simp⟩
end Go.Proofs.YthdkeggdipogoaaGreatDoor.Tz
