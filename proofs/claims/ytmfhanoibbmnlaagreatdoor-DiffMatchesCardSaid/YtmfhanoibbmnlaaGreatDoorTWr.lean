/-
What the walks of checks of Vars ask. Conditions: none.
-/
import Derived.Test.YtmfhanoibbmnlaaGreatDoorGQ
import Derived.Test.YtmfhanoibbmnlaaGreatDoorTSb
namespace Go.Proofs.YtmfhanoibbmnlaaGreatDoor.Tz
open Go.Aug Go.Aug.Api
set_option maxRecDepth 100000
theorem placeS_lt (l : List TItem) (v : ByteArray) : placeS l v < l.length := by
  unfold placeS
  rcases idx_cases (fun x : TItem => decide (x.var = v)) l with ⟨h1, -, -⟩ | ⟨pre, x, suf, h1, -, -, h4, -⟩
  · rw [h1]; omega
  · rw [h4, h1]; simp
theorem addP_mem {l : List Int} {n k : Int} (h : k ∈ addP l n) : k ∈ l ∨ (k = n ∧ 0 ≤ n) := by
  unfold addP at h
  split at h
  · split at h
    · exact .inl h
    · simp at h
      rcases h with h | h
      · exact .inl h
      · exact .inr ⟨h, by assumption⟩
  · exact .inl h
theorem addP_nodup {l : List Int} (h : l.Nodup) (n : Int) : (addP l n).Nodup := by
  unfold addP
  split
  · exact addK_nodup h n
  · exact h
theorem addPs_ok (q : List TItem) : ∀ (vs : List ByteArray) (ks : List Int), ks.Nodup → (∀ k ∈ ks, 0 ≤ k ∧ k < q.length) → (addPs q vs ks).Nodup ∧ ∀ k ∈ addPs q vs ks, 0 ≤ k ∧ k < q.length
  | [], ks, h1, h2 => ⟨h1, h2⟩
  | v :: vs, ks, h1, h2 => by
    refine addPs_ok q vs (addP ks (placeS q v)) (addP_nodup h1 _) fun k hk => ?_
    rcases addP_mem hk with h | ⟨rfl, h⟩
    · exact h2 k h
    · exact ⟨h, placeS_lt q v⟩
theorem Sorted_cK (m : List (Int × Int)) (hk : ∀ p ∈ m, i64ok p.1) (hn : (m.map (·.1)).Nodup) (hl : m.length ≤ 1000000) (H : Heap) {rc rm : Nat} (hc : H.get rc = some (.cells [.mp rm])) (hm : H.get rm = some (.map (encM m))) (R : D → Heap → Prop)
    (h0 : m = [] → R (.v (.slice none 0 0)) H) (h1 : m ≠ [] → R (.rs H.next 0 m.length none 1) (H.add (.cells ((sortI (m.map (·.1))).flatMap intC)))) :
    cK tab (.fn n_q93) [.fn (.func n_q71) [] [.rf rc 0]] H R := by
  refine cK_orc o_q93 ?_
  have hki := keysI_encM m hk
  have ha : apartI (m.map (·.1)) = true := (apartI_iff _).2 hn
  have hfm : ∀ l : List Int, l.flatMap intC = l.map fun n => .v (.int .i64 n) := fun l => by
    induction l with
    | nil => rfl
    | cons a l ih => simp [List.flatMap_cons, ih, intC]
  match m, h0, h1, hki, ha, hl, hm with
  | [], h0, _, hki, _, _, hm => exact ⟨_, by simp [orcSorted, hc, hm, hki, apartI]; rfl, h0 rfl⟩
  | p :: m, _, h1, hki, ha, hl, hm =>
    refine ⟨(.rs H.next 0 (p :: m).length none 1, H.add (.cells ((sortI ((p :: m).map (·.1))).flatMap intC))), ?_, h1 (by simp)⟩
    rw [hfm]
    have hl' : m.length + 1 ≤ 1000000 := by simpa using hl
    simp only [List.map_cons] at ha hki
    simp [orcSorted, hc, hm, hki, ha, hl']
structure VX where
  cells : List D
  names : List ByteArray
  len : cells.length = 7
attribute [simp] VX.len
@[simp] theorem VX.take (x : VX) : x.cells.take 7 = x.cells := List.take_of_length_le (by rw [x.len]; exact Nat.le_refl _)
def VX.of (x : TExpr) : VX := ⟨exprC x, eachV x, exprC_len x⟩
end Go.Proofs.YtmfhanoibbmnlaaGreatDoor.Tz

namespace Go.Proofs.YtmfhanoibbmnlaaGreatDoor.Tz
open Go.Aug Go.Aug.Api
set_option maxRecDepth 100000
def FreshI (l : List Int) (H : Heap) (d : D) (H' : Heap) : Prop :=
  (l = [] ∧ d = .v (.slice none 0 0) ∧ H' = H) ∨ (l ≠ [] ∧ ∃ r, d = .rs r 0 l.length none 1 ∧ H.next ≤ r ∧ r < H'.next ∧ H'.get r = some (.cells (l.flatMap intC)) ∧ H'.low = H.low ∧ ∀ k, k < H.next → H'.get k = H.get k)
theorem check_vars_cold (q : TQuery) (xs : List VX) (hlen : xs.length ≤ big) (H : Heap) {rl : Nat} (c : Option Nat) (hg : H.get rl = some (.cells (xs.flatMap VX.cells))) (hrl : rl < H.next) (hlo : H.low ≤ H.next) (hb : (placesS q.items.l (xs.flatMap VX.names)).length ≤ 1000000)
    (he : ∀ x ∈ xs, ∀ (ks : List Int) (H' : Heap), PlacesAt q H' H.next (H.next + 2) (H.next + 1) ks → H.next ≤ H'.next → (∀ r, r < H.next → H'.get r = H.get r) → cK tab (.fn n_q48) [.agg x.cells, .fn (.func n_q52) [] [.rf H.next 0, .rf (H.next + 2) 0]] H' (PlacesPost H' (H.next + 1) (addPs q.items.l x.names ks))) :
    cK tab (.fn n_q51) [.agg (queryC q), .rs rl 0 xs.length c 7] H (FreshI (sortI (placesS q.items.l (xs.flatMap VX.names))) H) := by
  refine (cK_fn o_q51 t_q51 (Nat.le_of_ble_eq_true rfl) (by decide) ?_)
  simp
  let H0 : Heap := (((low0 H).add (.cells (queryC q))).add (.map [])).add (.cells [.mp (H.next + 1)])
  have hA : PlacesAt q H0 H.next (H.next + 2) (H.next + 1) [] := ⟨by simp [H0], by simp [H0], ⟨[], by simp [H0, encM], rfl⟩, by simp [H0], by simp [H0], by simp [H0], by omega, by omega⟩
  have hfr : ∀ r, r < H.next → H0.get r = H.get r := fun r hr => by
    have e1 : (r = H.next) = False := by simp; omega
    have e2 : ∀ k, (r = H.next + k) = False := by simp; omega
    simp [H0, e1, e2]
  have hn0 : H0.next = H.next + 3 := rfl
  have hl0 : H0.low = H.next := rfl
  refine LR_rule (WR_mono _) (fun j E H' => ∃ pre suf d, xs = pre ++ suf ∧ j = suf.length ∧ E 2 = .rf H.next 0 ∧ E 5 = .rf (H.next + 2) 0 ∧ E 9 = .rs rl 0 xs.length c 7 ∧ E 10 = i64D xs.length ∧ E 11 = i64D pre.length ∧ PlacesPost H0 (H.next + 1) (addPs q.items.l (pre.flatMap VX.names) []) d H') ?_ (j := xs.length)
    ⟨[], xs, uD, rfl, rfl, by simp, by simp, by simp, by simp, by simp, .refl hA _⟩
  clear_value H0
  rintro j E H' ⟨pre, suf, d, hl, rfl, e2, e5, e9, e10, e11, hp⟩
  have hA' := hp.at hA
  have hlow : H'.low = H.next := by
    obtain ⟨p1, p2, _, _⟩ := hp
    rcases p2 with p2 | p2
    · omega
    · rw [p2]; split <;> omega
  have hnx : H.next + 3 ≤ H'.next := by have := hp.1; omega
  have n0 : (H.next = H'.next) = False := by simp; omega
  have n1 : ∀ k, k < 3 → (H.next + k = H'.next) = False := fun k hk => by simp; omega
  have n2 : ∀ k j, k < 3 → (H.next + k = H'.next + j) = False := fun k j hk => by simp; omega
  cases suf with
  | nil =>
    simp at hl
    subst hl
    simp [e5, e10, e11, hA'.hp]
    have hcol := Keys_cK (H.next + 1) H' (by omega)
    rw [hcol]
    obtain ⟨m, hm, hks⟩ := hA'.hm
    obtain ⟨o1, o2⟩ := addPs_ok q.items.l (xs.flatMap VX.names) [] (by simp) (by simp)
    have hlen' : q.items.l.length ≤ 9223372036854775807 := q.items.ok
    have hks' : m.map (·.1) = placesS q.items.l (xs.flatMap VX.names) := hks
    rw [← hks] at o1 o2
    have n3 : (H.next + 1 = H'.next) = False := n1 1 (by omega)
    have hml : m.length ≤ 1000000 := by
      have := congrArg List.length hks'
      simp at this
      omega
    refine Sorted_cK m (fun p hp => ?_) o1 hml (H'.add (.cells [.mp (H.next + 1)])) (rc := H'.next) (rm := H.next + 1) (by simp) (by simp [n3, hm]) _ (fun h0 => ?_) (fun h0 => ?_)
    · have := o2 p.1 (List.mem_map.2 ⟨p, hp, rfl⟩)
      exact ⟨by omega, by omega⟩
    · subst h0
      have e : sortI (placesS q.items.l (xs.flatMap VX.names)) = [] := by rw [← hks']; rfl
      rw [finX_data (by simp; omega) rfl]
      exact .inl ⟨e, rfl, rfl⟩
    · have e : sortI (placesS q.items.l (xs.flatMap VX.names)) = sortI (m.map (·.1)) := by rw [hks']
      have hl3 := (sortI_perm (m.map (·.1))).length_eq
      simp at hl3
      have hnn : 0 < m.length := List.length_pos_iff.2 h0
      rw [z_q51, finX_cold (by simp [D.under]; omega) (by simp; omega)]
      refine .inr ⟨fun h1 => ?_, H'.next + 1, ?_, by omega, by simp, ?_, by simp, fun k hk => ?_⟩
      · rw [e] at h1
        rw [h1] at hl3
        simp at hl3
        omega
      · rw [e, hl3]
        simp
      · rw [e]
        simp
      · have e1 : (k = H'.next) = False := by simp; omega
        have e2 : (k = H'.next + 1) = False := by simp; omega
        simp [e1, e2]
        rw [hp.2.2.1 k (by omega) (by omega), hfr k hk]
  | cons a suf =>
    have hlt : pre.length < xs.length := by rw [hl]; simp
    have hlt' : ((pre.length : Int) < (xs.length : Int)) = True := by simp; omega
    have hw := wrap_len hlt hlen
    have hg' : H'.get rl = some (.cells (xs.flatMap VX.cells)) := by rw [hp.2.2.1 rl (by omega) (by omega), hfr rl hrl, hg]
    have hdz := drop_zip VX.len pre (a :: suf)
    rw [← hl] at hdz
    have hne : (rl = H'.next) = False := by simp; omega
    have hnl : H'.low ≤ H'.next := by omega
    simp [e2, e5, e9, e10, e11, hlt', hg', hdz, hne, hnl, setAll_full]
    have hfr' : ∀ r, r < H.next → (H'.add (.cells a.cells)).get r = H.get r := fun r hr => by
      have e1 : (r = H'.next) = False := by simp; omega
      simp only [get_add, e1, if_false]
      rw [hp.2.2.1 r (by omega) (by omega), hfr r hr]
    refine cK.mono (he a (by rw [hl]; simp) _ _ (hA'.add _) (by simp; omega) hfr') fun d H2 p => ?_
    refine ⟨suf.length, by omega, pre ++ [a], suf, by simp [hl], rfl, by rw [hw]; simp, uD, ?_⟩
    have := PlacesPost.then (d3 := uD) (by omega) hp p
    simpa [addPs_append] using this
theorem check_Vars_cold (q : TQuery) (x : TExpr) (hx : okE x) (H : Heap) (hlo : H.low ≤ H.next) (hb : (placesS q.items.l (eachV x)).length ≤ 1000000) :
    cK tab (.fn n_q47) [.agg (queryC q), .agg (exprC x)] H (FreshI (varsS q.items.l [x]) H) := by
  refine cK_fn o_q47 t_q47 (Nat.le_of_ble_eq_true rfl) (by decide) ?_
  have hq5 : ∀ q : TQuery, (queryC q).take 5 = queryC q := fun q => List.take_of_length_le (by rw [queryC_len]; exact Nat.le_refl _)
  have hv := check_vars_cold q [VX.of x] (by simp [big]) ((((low0 H).add (.cells (queryC q))).add (.cells (exprC x))).add (.cells (exprC x))) (rl := H.next + 2) (some 1) (by simp [VX.of]) (by simp) (by simp) (by simpa [VX.of] using hb) fun y hm ks H' h _ _ => by
    simp at hm
    subst hm
    exact check_each_cK q x hx ks H' h
  simp [VX.of] at hv
  simp [hq5, fillX, setAll_full]
  refine cK.mono hv fun d H' h => ?_
  have he : varsS q.items.l [x] = sortI (placesS q.items.l (eachV x)) := by simp [varsS, eachVs]
  rw [he]
  rcases h with ⟨h1, rfl, rfl⟩ | ⟨h1, r, rfl, h2, h3, h4, h5, h6⟩
  · simp
    exact .inl ⟨h1, rfl, rfl⟩
  · simp at h2 h5
    have hz := z_q47
    rw [hz, finX_cold (by simp [D.under]; omega) (by rw [h5]; simpa using hlo)]
    refine .inr ⟨h1, r, rfl, by omega, by simpa using h3, by simpa using h4, by simp, fun k hk => ?_⟩
    have e1 : (k = H.next) = False := by simp; omega
    have e2 : ∀ j, (k = H.next + j) = False := by simp; omega
    have := h6 k (by simp; omega)
    simpa [e1, e2] using this
end Go.Proofs.YtmfhanoibbmnlaaGreatDoor.Tz

namespace Go.Proofs.YtmfhanoibbmnlaaGreatDoor.Tz
open Go.Aug Go.Aug.Api
set_option maxRecDepth 100000
theorem flat_int : ∀ l : List Int, l.flatMap intC = l.map i64D
  | [] => rfl
  | a :: l => by simp [List.flatMap_cons, intC, flat_int l]
theorem Max_run (l : List Int) (hl : l ≠ []) (hb : l.length ≤ big) (c : Option Nat) (H : Heap) {r : Nat} (h : H.get r = some (.cells (l.map i64D))) (hr : r < H.next) : Run tab (.fn n_q91) [.rs r 0 l.length c 1] H (i64D (maxI l)) H := by
  refine cK.run (cK_fn o_q91 t_q91 (Nat.le_of_ble_eq_true rfl) (by decide) ?_)
  obtain ⟨a, l, rfl⟩ : ∃ a r, l = a :: r := by
    cases l with
    | nil => exact absurd rfl hl
    | cons a l => exact ⟨a, l, rfl⟩
  have h1 : ¬ ((l.length : Int) + 1 < 1) := by omega
  have h2 : (0 : Int) < (l.length : Int) + 1 := by omega
  simp at h
  simp [h, h1, h2]
  refine LR_rule (WR_mono _) (fun j E H' => H' = low0 H ∧ ∃ pre suf, l = pre ++ suf ∧ j = suf.length ∧ E 0 = .rs r 0 (l.length + 1) c 1 ∧ E 3 = i64D (maxI (a :: pre)) ∧ E 4 = i64D (pre.length + 1)) ?_ (j := l.length) ⟨rfl, [], l, rfl, rfl, by simp, by simp; rfl, by simp⟩
  rintro j E H' ⟨rfl, pre, suf, h0, rfl, e0, e3, e4⟩
  cases suf with
  | nil =>
    simp at h0
    subst h0
    simp [e0, e3, e4]
  | cons x suf =>
    have hlt : pre.length < l.length := by rw [h0]; simp
    have hlt' : ((pre.length : Int) + 1 < (l.length : Int) + 1) = True := by simp; omega
    have hbb : l.length + 1 ≤ 9223372036854775807 := by simpa [big] using hb
    have hw : IntKind.i64.wrap ((pre.length : Int) + 1 + 1) = (pre.length : Int) + 1 + 1 := wrap64 (by omega) (by omega)
    have hx : ((i64D a :: l.map i64D).drop (pre.length + 1))[0]? = some (i64D x) := by rw [h0]; simp
    have hi : ∀ H1 : Heap, H1.get r = some (.cells (i64D a :: l.map i64D)) → evLoad H1 none (.rf r (pre.length + 1)) = some (i64D x) := fun H1 h1 => by
      simp only [evLoad, cellsAt, h1, pickL]
      exact hx
    have hia : evIadr 1 (.rs r 0 (l.length + 1) c 1) (.v (.int .i64 ((pre.length : Int) + 1))) = some (.rf r (pre.length + 1)) := by
      rw [iadr_rs, if_pos ⟨by omega, by push_cast; omega⟩]
      have : ((pre.length : Int) + 1).toNat = pre.length + 1 := by omega
      simp [this]
    simp [e0, e3, e4, hlt', hia, hi, h, hw]
    refine ⟨suf.length, by omega, pre ++ [x], suf, by simp [h0], rfl, ?_, by simp⟩
    simp only [maxI, List.foldl_append, List.foldl_cons, List.foldl_nil]
    rfl
def IsI (l : List Int) (b : Nat) (H : Heap) (d : D) : Prop :=
  (l = [] ∧ d = .v (.slice none 0 0)) ∨ (l ≠ [] ∧ ∃ r, d = .rs r 0 l.length none 1 ∧ b ≤ r ∧ r < H.next ∧ H.get r = some (.cells (l.map i64D)))
def IsJ (l : List Int) (H : Heap) (d : D) : Prop :=
  (l = [] ∧ d = .v (.slice none 0 0)) ∨ (l ≠ [] ∧ ∃ r c, d = .rs r 0 l.length c 1 ∧ r < H.next ∧ H.get r = some (.cells (l.map i64D)))
theorem IsI.j {l : List Int} {b : Nat} {H : Heap} {d : D} (h : IsI l b H d) : IsJ l H d := by
  rcases h with h | ⟨h1, r, h2, h3, h4, h5⟩
  · exact .inl h
  · exact .inr ⟨h1, r, none, h2, h4, h5⟩
theorem IsI.mono {l : List Int} {b b' : Nat} {H H' : Heap} {d : D} (h : IsI l b H d) (hb : b' ≤ b) (hn : H.next ≤ H'.next) (hg : ∀ k, k < H.next → H'.get k = H.get k) : IsI l b' H' d := by
  rcases h with h | ⟨h1, r, h2, h3, h4, h5⟩
  · exact .inl h
  · exact .inr ⟨h1, r, h2, by omega, by omega, by rw [hg r h4]; exact h5⟩
theorem app_ints {l1 l2 : List Int} {b : Nat} {H : Heap} {d1 d2 : D} (h1 : IsI l1 b H d1) (h2 : IsJ l2 H d2) (hl : l1.length + l2.length ≤ 10000000) (hb : b ≤ H.low) (hbn : b ≤ H.next) (k : D × Heap → Prop)
    (hk : ∀ d3 H3, IsI (l1 ++ l2) b H3 d3 → H.next ≤ H3.next → b ≤ H3.low → (∀ q, q < b → H3.get q = H.get q) → k (d3, H3)) : oK (evApp H false 1 8 d1 d2) k := by
  have hroom : ∀ n, n ≤ 10000000 → roomOk 8 n = true := fun n hn => by
    unfold roomOk
    simp only [Bool.and_eq_true, decide_eq_true_eq]
    omega
  have hz : ((0 : Nat) == 0) = true := rfl
  rcases h2 with ⟨rfl, rfl⟩ | ⟨n2, r2, cc, rfl, g2, c2⟩
  · have hf : firstD H false 1 (.v (.slice none 0 0)) = some (0, []) := rfl
    rcases h1 with ⟨rfl, rfl⟩ | ⟨n1, r1, rfl, b1, g1, c1⟩
    · refine ⟨(.v (.slice none 0 0), H), by simp only [evApp, hf, hz, if_true], hk _ H (.inl ⟨rfl, rfl⟩) (Nat.le_refl _) hb fun _ _ => rfl⟩
    · refine ⟨(.rs r1 0 l1.length none 1, H), by simp only [evApp, hf, hz, if_true], hk _ H (.inr ⟨by simpa using n1, r1, by simp, b1, g1, by simpa using c1⟩) (Nat.le_refl _) hb fun _ _ => rfl⟩
  · have hf : firstD H false 1 (.rs r2 0 l2.length cc 1) = some (l2.length, l2.map i64D) := by
      have : (l2.map i64D).take l2.length = l2.map i64D := List.take_of_length_le (by simp)
      simp [firstD, c2, this]
    have hn2 : (l2.length == 0) = false := by
      rw [beq_eq_false_iff_ne]
      have := List.length_pos_iff.2 n2
      omega
    rcases h1 with ⟨rfl, rfl⟩ | ⟨n1, r1, rfl, b1, g1, c1⟩
    · refine ⟨(.rs H.next 0 l2.length none 1, H.add (.cells (l2.map i64D))), by simp only [evApp, hf, hn2, hroom l2.length (by simp at hl; omega), if_true, Bool.false_eq_true, if_false], hk _ _ (.inr ⟨by simpa using n2, H.next, by simp, hbn, by simp, by simp⟩) (by simp) (by simpa using hb) fun q hq => ?_⟩
      have : (q = H.next) = False := by simp; omega
      simp [this]
    · have hfull : (l1.length * 1 == (l1.map i64D).length) = true := by simp
      have h11 : ((1 : Nat) == 1) = true := rfl
      refine ⟨(.rs H.next 0 (l1.length + l2.length) none 1, (H.del r1).add (.cells (l1.map i64D ++ l2.map i64D))), by simp only [evApp, hf, hn2, c1, hroom (l1.length + l2.length) hl, hfull, h11, hz, if_true, Bool.and_self, Bool.false_eq_true, if_false], hk _ _ (.inr ⟨by simp [n1], H.next, by simp, hbn, by simp, by simp⟩) (by simp) ?_ fun q hq => ?_⟩
      · simp; split <;> omega
      · have e1 : (q = H.next) = False := by simp; omega
        have e2 : (q = r1) = False := by simp; omega
        simp [e1, get_del, e2]
theorem FreshI.is {l : List Int} {H H' : Heap} {d : D} (h : FreshI l H d H') : IsI l H.next H' d ∧ H.next ≤ H'.next ∧ H'.low = H.low ∧ ∀ k, k < H.next → H'.get k = H.get k := by
  rcases h with ⟨rfl, rfl, rfl⟩ | ⟨h1, r, rfl, h2, h3, h4, h5, h6⟩
  · exact ⟨.inl ⟨rfl, rfl⟩, Nat.le_refl _, rfl, fun _ _ => rfl⟩
  · exact ⟨.inr ⟨h1, r, rfl, h2, h3, by rw [h4, flat_int]⟩, by omega, h5, h6⟩
theorem places_short (q : List TItem) (v : List ByteArray) : (placesS q v).length ≤ v.length := by
  have : ∀ (v : List ByteArray) (l : List Int), (v.foldl (fun l v => addP l (placeS q v)) l).length ≤ l.length + v.length := by
    intro v
    induction v with
    | nil => intro l; simp
    | cons a v ih =>
      intro l
      have h1 := ih (addP l (placeS q a))
      have h2 : (addP l (placeS q a)).length ≤ l.length + 1 := by
        unfold addP
        split
        · split <;> simp
        · simp
      simp only [List.foldl_cons, List.length_cons]
      omega
  simpa [placesS] using this v []
theorem vars_short (q : List TItem) (xs : List TExpr) : (varsS q xs).length = (placesS q (eachVs xs)).length := (sortI_perm _).length_eq
theorem norm_Place_of (q : TQuery) (p : TPred) (H : Heap) (m1 : (placesS q.items.l (eachV p.L)).length ≤ 1000000) (m2 : (placesS q.items.l (eachV p.R)).length ≤ 1000000) : Run tab (.fn n_q78) [.agg (queryC q), .agg (predC p)] H (i64D (placeN q.items.l p)) H := by
  refine cK.run (cK_fn o_q78 t_q78 (Nat.le_of_ble_eq_true rfl) (by decide) ?_)
  have hq5 : (queryC q).take 5 = queryC q := List.take_of_length_le (by rw [queryC_len]; exact Nat.le_refl _)
  have v1 := vars_short q.items.l [p.L]
  have v2 := vars_short q.items.l [p.R]
  simp only [eachVs, List.append_nil] at v1 v2
  have s1 : (varsS q.items.l [p.L]).length ≤ 1000000 := by omega
  have s2 : (varsS q.items.l [p.R]).length ≤ 1000000 := by omega
  simp [hq5]
  refine cK.mono (check_Vars_cold q p.L p.okL _ (by simp) m1) fun d1 H1 f1 => ?_
  obtain ⟨i1, n1, l1, g1⟩ := f1.is
  simp at i1 n1 l1 g1
  have e1 : H1.get H.next = some (.cells (queryC q)) := by rw [g1 _ (by omega)]; simp
  have e2 : H1.get (H.next + 1) = some (.cells (predC p)) := by rw [g1 _ (by omega)]; simp
  have hnx : H.next + 1 < H1.next := by omega
  simp [hq5, e1, e2, l1]
  refine cK.mono (check_Vars_cold q p.R p.okR _ (by simp; omega) m2) fun d2 H2 f2 => ?_
  obtain ⟨i2, n2, l2, g2⟩ := f2.is
  simp at i2 n2 l2 g2
  have hlen : ∀ x : List Int, x.length ≤ 1000000 → x.length ≤ 10000000 := fun x h => by omega
  refine app_ints (b := H.next) (i1.mono (by omega) n2 g2) i2.j (by omega) (by omega) (by omega) _ fun d3 H3 i3 n3 l3 g3 => ?_
  refine app_ints (b := H.next) (i3.mono (Nat.le_refl _) (by simp) fun k hk => ?_) (l2 := [0]) (.inr ⟨by simp, H3.next, some 1, by simp, by simp, by simp⟩) (by simp; omega) (by simpa using l3) (by simp; omega) _ fun d4 H4 i4 n4 l4 g4 => ?_
  · have : (k = H3.next) = False := by simp; omega
    simp [this]
  rcases i4 with ⟨h, -⟩ | ⟨h, r, rfl, b4, r4, c4⟩
  · simp at h
  · have hm := (Max_run _ h (by simp [big]; omega) none H4 c4 r4).cK
    simp only [hm]
    rw [finX_data l4 rfl]
    exact ⟨rfl, rfl⟩
theorem norm_Place_run (q : TQuery) (p : TPred) (H : Heap) (h1 : (eachV p.L).length ≤ 100000) (h2 : (eachV p.R).length ≤ 100000) : Run tab (.fn n_q78) [.agg (queryC q), .agg (predC p)] H (i64D (placeN q.items.l p)) H :=
  have hp := fun (v : List ByteArray) => places_short q.items.l v
  norm_Place_of q p H (Nat.le_trans (hp _) (by omega)) (Nat.le_trans (hp _) (by omega))
end Go.Proofs.YtmfhanoibbmnlaaGreatDoor.Tz
