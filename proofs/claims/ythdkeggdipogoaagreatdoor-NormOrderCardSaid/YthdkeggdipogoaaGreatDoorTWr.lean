/-
What the walks of checks of Vars ask. Conditions: none.
-/
import Derived.Test.YthdkeggdipogoaaGreatDoorGQ
import Derived.Test.YthdkeggdipogoaaGreatDoorGO
namespace Go.Proofs.YthdkeggdipogoaaGreatDoor.Tz
open Go.Aug Go.Aug.Api
set_option maxRecDepth 100000
theorem placeS_lt (l : List TItem) (v : ByteArray) : placeS l v < l.length := by
  unfold placeS
  rcases idx_cases (fun x : TItem => decide (x.var = v)) l with ⟨h1, -, -⟩ | ⟨pre, x, suf, h1, -, -, h4, -⟩
  · rw [h1]; omega
  · rw [h4, h1]; simp
theorem addP_mem {l : List Int} {n k : Int} (h : k ∈ addP l n) : k ∈ l ∨ (k = n ∧ 0 ≤ n) := by
  unfold addP at h
  split at h
  · split at h
    · exact .inl h
    · simp at h
      rcases h with h | h
      · exact .inl h
      · exact .inr ⟨h, by assumption⟩
  · exact .inl h
theorem addP_nodup {l : List Int} (h : l.Nodup) (n : Int) : (addP l n).Nodup := by
  unfold addP
  split
  · exact addK_nodup h n
  · exact h
theorem addPs_ok (q : List TItem) : ∀ (vs : List ByteArray) (ks : List Int), ks.Nodup → (∀ k ∈ ks, 0 ≤ k ∧ k < q.length) → (addPs q vs ks).Nodup ∧ ∀ k ∈ addPs q vs ks, 0 ≤ k ∧ k < q.length
  | [], ks, h1, h2 => ⟨h1, h2⟩
  | v :: vs, ks, h1, h2 => by
    refine addPs_ok q vs (addP ks (placeS q v)) (addP_nodup h1 _) fun k hk => ?_
    rcases addP_mem hk with h | ⟨rfl, h⟩
    · exact h2 k h
    · exact ⟨h, placeS_lt q v⟩
theorem Sorted_cK (m : List (Int × Int)) (hk : ∀ p ∈ m, i64ok p.1) (hn : (m.map (·.1)).Nodup) (hl : m.length ≤ 1000000) (H : Heap) {rc rm : Nat} (hc : H.get rc = some (.cells [.mp rm])) (hm : H.get rm = some (.map (encM m))) (R : D → Heap → Prop)
    (h0 : m = [] → R (.v (.slice none 0 0)) H) (h1 : m ≠ [] → R (.rs H.next 0 m.length none 1) (H.add (.cells ((sortI (m.map (·.1))).flatMap intC)))) :
    cK tab (.fn n_slices_Sorted_int) [.fn (.func n_maps_Keys_int_1) [] [.rf rc 0]] H R := by
  refine cK_orc o_slices_Sorted_int ?_
  have hki := keysI_encM m hk
  have ha : apartI (m.map (·.1)) = true := (apartI_iff _).2 hn
  have hfm : ∀ l : List Int, l.flatMap intC = l.map fun n => .v (.int .i64 n) := fun l => by
    induction l with
    | nil => rfl
    | cons a l ih => simp [List.flatMap_cons, ih, intC]
  match m, h0, h1, hki, ha, hl, hm with
  | [], h0, _, hki, _, _, hm => exact ⟨_, by simp [orcSorted, hc, hm, hki, apartI]; rfl, h0 rfl⟩
  | p :: m, _, h1, hki, ha, hl, hm =>
    refine ⟨(.rs H.next 0 (p :: m).length none 1, H.add (.cells ((sortI ((p :: m).map (·.1))).flatMap intC))), ?_, h1 (by simp)⟩
    rw [hfm]
    have hl' : m.length + 1 ≤ 1000000 := by simpa using hl
    simp only [List.map_cons] at ha hki
    simp [orcSorted, hc, hm, hki, ha, hl']
structure VX where
  cells : List D
  names : List ByteArray
  len : cells.length = 7
attribute [simp] VX.len
@[simp] theorem VX.take (x : VX) : x.cells.take 7 = x.cells := List.take_of_length_le (by rw [x.len]; exact Nat.le_refl _)
def VX.of (x : TExpr) : VX := ⟨exprC x, eachV x, exprC_len x⟩
end Go.Proofs.YthdkeggdipogoaaGreatDoor.Tz

namespace Go.Proofs.YthdkeggdipogoaaGreatDoor.Tz
open Go.Aug Go.Aug.Api
set_option maxRecDepth 100000
def FreshI (l : List Int) (H : Heap) (d : D) (H' : Heap) : Prop :=
  (l = [] ∧ d = .v (.slice none 0 0) ∧ H' = H) ∨ (l ≠ [] ∧ ∃ r, d = .rs r 0 l.length none 1 ∧ H.next ≤ r ∧ r < H'.next ∧ H'.get r = some (.cells (l.flatMap intC)) ∧ H'.low = H.low ∧ ∀ k, k < H.next → H'.get k = H.get k)
theorem check_vars_cold (q : TQuery) (xs : List VX) (hlen : xs.length ≤ big) (H : Heap) {rl : Nat} (c : Option Nat) (hg : H.get rl = some (.cells (xs.flatMap VX.cells))) (hrl : rl < H.next) (hlo : H.low ≤ H.next) (hb : (placesS q.items.l (xs.flatMap VX.names)).length ≤ 1000000)
    (he : ∀ x ∈ xs, ∀ (ks : List Int) (H' : Heap), PlacesAt q H' H.next (H.next + 2) (H.next + 1) ks → H.next ≤ H'.next → (∀ r, r < H.next → H'.get r = H.get r) → cK tab (.fn n_check_each) [.agg x.cells, .fn (.func n_check_vars_1) [] [.rf H.next 0, .rf (H.next + 2) 0]] H' (PlacesPost H' (H.next + 1) (addPs q.items.l x.names ks))) :
    cK tab (.fn n_check_vars) [.agg (queryC q), .rs rl 0 xs.length c 7] H (FreshI (sortI (placesS q.items.l (xs.flatMap VX.names))) H) := by
  refine (cK_fn o_check_vars t_check_vars (Nat.le_of_ble_eq_true rfl) (by decide) ?_)
  simp
  let H0 : Heap := (((low0 H).add (.cells (queryC q))).add (.map [])).add (.cells [.mp (H.next + 1)])
  have hA : PlacesAt q H0 H.next (H.next + 2) (H.next + 1) [] := ⟨by simp [H0], by simp [H0], ⟨[], by simp [H0, encM], rfl⟩, by simp [H0], by simp [H0], by simp [H0], by omega, by omega⟩
  have hfr : ∀ r, r < H.next → H0.get r = H.get r := fun r hr => by
    have e1 : (r = H.next) = False := by simp; omega
    have e2 : ∀ k, (r = H.next + k) = False := by simp; omega
    simp [H0, e1, e2]
  have hn0 : H0.next = H.next + 3 := rfl
  have hl0 : H0.low = H.next := rfl
  refine LR_rule (WR_mono _) (fun j E H' => ∃ pre suf d, xs = pre ++ suf ∧ j = suf.length ∧ E 2 = .rf H.next 0 ∧ E 5 = .rf (H.next + 2) 0 ∧ E 9 = .rs rl 0 xs.length c 7 ∧ E 10 = i64D xs.length ∧ E 11 = i64D pre.length ∧ PlacesPost H0 (H.next + 1) (addPs q.items.l (pre.flatMap VX.names) []) d H') ?_ (j := xs.length)
    ⟨[], xs, uD, rfl, rfl, by simp, by simp, by simp, by simp, by simp, .refl hA _⟩
  clear_value H0
  rintro j E H' ⟨pre, suf, d, hl, rfl, e2, e5, e9, e10, e11, hp⟩
  have hA' := hp.at hA
  have hlow : H'.low = H.next := by
    obtain ⟨p1, p2, _, _⟩ := hp
    rcases p2 with p2 | p2
    · omega
    · rw [p2]; split <;> omega
  have hnx : H.next + 3 ≤ H'.next := by have := hp.1; omega
  have n0 : (H.next = H'.next) = False := by simp; omega
  have n1 : ∀ k, k < 3 → (H.next + k = H'.next) = False := fun k hk => by simp; omega
  have n2 : ∀ k j, k < 3 → (H.next + k = H'.next + j) = False := fun k j hk => by simp; omega
  cases suf with
  | nil =>
    simp at hl
    subst hl
    simp [e5, e10, e11, hA'.hp]
    have hcol := Keys_cK (H.next + 1) H' (by omega)
    rw [hcol]
    obtain ⟨m, hm, hks⟩ := hA'.hm
    obtain ⟨o1, o2⟩ := addPs_ok q.items.l (xs.flatMap VX.names) [] (by simp) (by simp)
    have hlen' : q.items.l.length ≤ 9223372036854775807 := q.items.ok
    have hks' : m.map (·.1) = placesS q.items.l (xs.flatMap VX.names) := hks
    rw [← hks] at o1 o2
    have n3 : (H.next + 1 = H'.next) = False := n1 1 (by omega)
    have hml : m.length ≤ 1000000 := by
      have := congrArg List.length hks'
      simp at this
      omega
    refine Sorted_cK m (fun p hp => ?_) o1 hml (H'.add (.cells [.mp (H.next + 1)])) (rc := H'.next) (rm := H.next + 1) (by simp) (by simp [n3, hm]) _ (fun h0 => ?_) (fun h0 => ?_)
    · have := o2 p.1 (List.mem_map.2 ⟨p, hp, rfl⟩)
      exact ⟨by omega, by omega⟩
    · subst h0
      have e : sortI (placesS q.items.l (xs.flatMap VX.names)) = [] := by rw [← hks']; rfl
      rw [finX_data (by simp; omega) rfl]
      exact .inl ⟨e, rfl, rfl⟩
    · have e : sortI (placesS q.items.l (xs.flatMap VX.names)) = sortI (m.map (·.1)) := by rw [hks']
      have hl3 := (sortI_perm (m.map (·.1))).length_eq
      simp at hl3
      have hnn : 0 < m.length := List.length_pos_iff.2 h0
      rw [z_check_vars, finX_cold (by simp [D.under]; omega) (by simp; omega)]
      refine .inr ⟨fun h1 => ?_, H'.next + 1, ?_, by omega, by simp, ?_, by simp, fun k hk => ?_⟩
      · rw [e] at h1
        rw [h1] at hl3
        simp at hl3
        omega
      · rw [e, hl3]
        simp
      · rw [e]
        simp
      · have e1 : (k = H'.next) = False := by simp; omega
        have e2 : (k = H'.next + 1) = False := by simp; omega
        simp [e1, e2]
        rw [hp.2.2.1 k (by omega) (by omega), hfr k hk]
  | cons a suf =>
    have hlt : pre.length < xs.length := by rw [hl]; simp
    have hlt' : ((pre.length : Int) < (xs.length : Int)) = True := by simp; omega
    have hw := wrap_len hlt hlen
    have hg' : H'.get rl = some (.cells (xs.flatMap VX.cells)) := by rw [hp.2.2.1 rl (by omega) (by omega), hfr rl hrl, hg]
    have hdz := drop_zip VX.len pre (a :: suf)
    rw [← hl] at hdz
    have hne : (rl = H'.next) = False := by simp; omega
    have hnl : H'.low ≤ H'.next := by omega
    simp [e2, e5, e9, e10, e11, hlt', hg', hdz, hne, hnl, setAll_full]
    have hfr' : ∀ r, r < H.next → (H'.add (.cells a.cells)).get r = H.get r := fun r hr => by
      have e1 : (r = H'.next) = False := by simp; omega
      simp only [get_add, e1, if_false]
      rw [hp.2.2.1 r (by omega) (by omega), hfr r hr]
    refine cK.mono (he a (by rw [hl]; simp) _ _ (hA'.add _) (by simp; omega) hfr') fun d H2 p => ?_
    refine ⟨suf.length, by omega, pre ++ [a], suf, by simp [hl], rfl, by rw [hw]; simp, uD, ?_⟩
    have := PlacesPost.then (d3 := uD) (by omega) hp p
    simpa [addPs_append] using this
theorem check_Vars_cold (q : TQuery) (x : TExpr) (hx : okE x) (H : Heap) (hlo : H.low ≤ H.next) (hb : (placesS q.items.l (eachV x)).length ≤ 1000000) :
    cK tab (.fn n_check_Vars) [.agg (queryC q), .agg (exprC x)] H (FreshI (varsS q.items.l [x]) H) := by
  refine cK_fn o_check_Vars t_check_Vars (Nat.le_of_ble_eq_true rfl) (by decide) ?_
  have hq5 : ∀ q : TQuery, (queryC q).take 5 = queryC q := fun q => List.take_of_length_le (by rw [queryC_len]; exact Nat.le_refl _)
  have hv := check_vars_cold q [VX.of x] (by simp [big]) ((((low0 H).add (.cells (queryC q))).add (.cells (exprC x))).add (.cells (exprC x))) (rl := H.next + 2) (some 1) (by simp [VX.of]) (by simp) (by simp) (by simpa [VX.of] using hb) fun y hm ks H' h _ _ => by
    simp at hm
    subst hm
    exact check_each_cK q x hx ks H' h
  simp [VX.of] at hv
  simp [hq5, fillX, setAll_full]
  refine cK.mono hv fun d H' h => ?_
  have he : varsS q.items.l [x] = sortI (placesS q.items.l (eachV x)) := by simp [varsS, eachVs]
  rw [he]
  rcases h with ⟨h1, rfl, rfl⟩ | ⟨h1, r, rfl, h2, h3, h4, h5, h6⟩
  · simp
    exact .inl ⟨h1, rfl, rfl⟩
  · simp at h2 h5
    have hz := z_check_Vars
    rw [hz, finX_cold (by simp [D.under]; omega) (by rw [h5]; simpa using hlo)]
    refine .inr ⟨h1, r, rfl, by omega, by simpa using h3, by simpa using h4, by simp, fun k hk => ?_⟩
    have e1 : (k = H.next) = False := by simp; omega
    have e2 : ∀ j, (k = H.next + j) = False := by simp; omega
    have := h6 k (by simp; omega)
    simpa [e1, e2] using this
end Go.Proofs.YthdkeggdipogoaaGreatDoor.Tz
