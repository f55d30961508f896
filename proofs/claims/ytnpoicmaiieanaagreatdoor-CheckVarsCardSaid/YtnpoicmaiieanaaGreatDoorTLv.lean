/-
The walks of some functions at the law's own table. Conditions: none.
-/
import Derived.Test.YtnpoicmaiieanaaGreatDoorGP
import Derived.Test.YtnpoicmaiieanaaGreatDoorGQ
import Derived.Test.YtnpoicmaiieanaaGreatDoorTX2
namespace Go.Proofs.YtnpoicmaiieanaaGreatDoor.Tz.L
open Go.Aug Go.Aug.Api
set_option maxRecDepth 100000

noncomputable abbrev tab : Tab := tabL
theorem o_check_Vars : tab.orc n_check_Vars = none := by kernel_rfl
theorem o_check_each : tab.orc n_check_each = none := by kernel_rfl
theorem o_check_item : tab.orc n_check_item = none := by kernel_rfl
theorem o_check_item_1 : tab.orc n_check_item_1 = none := by kernel_rfl
theorem o_check_vars : tab.orc n_check_vars = none := by kernel_rfl
theorem o_check_vars_1 : tab.orc n_check_vars_1 = none := by kernel_rfl
theorem o_maps_Keys_int : tab.orc n_maps_Keys_int = none := by kernel_rfl
theorem o_slices_IndexFunc_Item : tab.orc n_slices_IndexFunc_Item = none := by kernel_rfl
theorem o_slices_Sorted_int : tab.orc n_slices_Sorted_int = some (orcSorted 1000000 n_maps_Keys_int_1) := by kernel_rfl
theorem t_check_Vars : tab.fn n_check_Vars = some F_check_Vars := by kernel_rfl
theorem t_check_each : tab.fn n_check_each = some F_check_each := by kernel_rfl
theorem t_check_item : tab.fn n_check_item = some F_check_item := by kernel_rfl
theorem t_check_item_1 : tab.fn n_check_item_1 = some F_check_item_1 := by kernel_rfl
theorem t_check_vars : tab.fn n_check_vars = some F_check_vars := by kernel_rfl
theorem t_check_vars_1 : tab.fn n_check_vars_1 = some F_check_vars_1 := by kernel_rfl
theorem t_maps_Keys_int : tab.fn n_maps_Keys_int = some F_maps_Keys_int := by kernel_rfl
theorem t_slices_IndexFunc_Item : tab.fn n_slices_IndexFunc_Item = some F_slices_IndexFunc_Item := by kernel_rfl
theorem z_check_each : tab.fz n_check_each = true := by kernel_rfl
theorem z_check_vars : tab.fz n_check_vars = true := by kernel_rfl

theorem IndexFunc_Item_run {α : Type} {c : α → List D} (hc : ∀ x, (c x).length = 4) (p : α → Bool) (rep : Option (Option Nat)) (l : List α) (hl : l.length ≤ big) (g : FuncId) (first caps : List D) (H : Heap)
    (hp : ∀ x, Run tab (.fn g) (first ++ .agg (c x) :: caps) (low0 H) (bD (p x)) (low0 H)) :
    Run tab (.fn n_slices_IndexFunc_Item) [slD rep l.length (l.flatMap c), .fn (.func g) first caps] H (i64D (idx p l)) H := by
  refine cK.run (cK_fn o_slices_IndexFunc_Item t_slices_IndexFunc_Item (Nat.le_of_ble_eq_true rfl) (by decide) ?_)
  simp
  refine LR_rule (WR_mono _) (fun j E H' => H' = low0 H ∧ ∃ pre suf, l = pre ++ suf ∧ j = suf.length ∧ E 0 = slD rep l.length (l.flatMap c) ∧ E 1 = .fn (.func g) first caps ∧ E 7 = i64D l.length ∧ E 8 = i64D pre.length ∧ (∀ x ∈ pre, p x = false)) ?_
    (j := l.length) ⟨rfl, [], l, by simp⟩
  rintro j E H' ⟨rfl, pre, suf, h0, rfl, e0, e1, e7, e8, hpre⟩
  cases suf with
  | nil =>
    simp at h0
    subst h0
    simp [e7, e8, idx_none hpre]
  | cons x suf =>
    have hlt : pre.length < l.length := by simp [h0]
    simp [e0, e1, e7, e8, h0, zip_at hc, load_elem _ _ _ _ (hc x), (hp x).cK]
    refine gK_of (fun hx => ?_) (fun hx => ?_)
    · simp [e8, idx_some pre x suf hpre hx]
    · simp [e0, e1, e7, e8, h0, wrap_len hlt hl]
      exact ⟨suf.length, by omega, pre ++ [x], suf, by simp, rfl, by simp, fun y hy => by simp at hy; rcases hy with hy | rfl; exact hpre y hy; exact hx⟩

theorem check_item_1_run (x : TItem) (name : ByteArray) (H : Heap) {r : Nat} (h : H.get r = some (.cells [strD name])) (hr : r < H.next) : Run tab (.fn n_check_item_1) [.agg (itemC x), .rf r 0] H (bD (decide (x.var = name))) H := by
  refine cK.run (cK_fn o_check_item_1 t_check_item_1 (Nat.le_of_ble_eq_true rfl) (by decide) ?_)
  have hne : (r = H.next) = False := by simp; omega
  simp [itemC, Sl.enc, h, hne]

theorem check_item_run (q : TQuery) (v : ByteArray) (H : Heap) : Run tab (.fn n_check_item) [.agg (queryC q), strD v] H (.tup [.agg (itemC (itemS q.items.l v)), i64D (placeS q.items.l v)]) H := by
  refine cK.run (cK_fn o_check_item t_check_item (Nat.le_of_ble_eq_true rfl) (by decide) ?_)
  have call := fun (H1 : Heap) (r : Nat) (h : H1.get r = some (.cells [strD v])) (hr : r < H1.next) =>
    (IndexFunc_Item_run itemC_len (fun x => decide (x.var = v)) q.items.rep q.items.l q.items.ok n_check_item_1 [] [.rf r 0] H1 (fun x => check_item_1_run x v (low0 H1) (by simpa using h) (by simpa using hr))).cK
  simp [queryC, Sl.enc, call]
  rcases idx_cases (fun x : TItem => decide (x.var = v)) q.items.l with ⟨h1, h2, h3⟩ | ⟨pre, x, suf, h1, h2, h3, h4, h5⟩
  · simp [h1, placeS, itemS, h3, zItem, itemC, Sl.nil_enc]
  · have h4' : idx (fun x : TItem => decide (x.var = v)) (pre ++ x :: suf) = (pre.length : Nat) := by rw [← h1]; exact h4
    have e1 : placeS q.items.l v = (pre.length : Nat) := h4
    have e2 : itemS q.items.l v = x := by unfold itemS; rw [h5]
    rw [e1, e2]
    have ep := elem_at itemC_len q.items.rep q.items.l .i64 pre.length x (by rw [h1]; simp)
    simp [h4, ep, load_elem _ _ _ _ (itemC_len x), setAll_full]
    simp [itemC, Sl.enc]

theorem Keys_cK (r : Nat) (H : Heap) (hl : H.low ≤ H.next) (R : D → Heap → Prop) : cK tab (.fn n_maps_Keys_int) [.mp r] H R = R (.fn (.func n_maps_Keys_int_1) [] [.rf H.next 0]) (H.add (.cells [.mp r])) := by
  have h : Run tab (.fn n_maps_Keys_int) [.mp r] H (.fn (.func n_maps_Keys_int_1) [] [.rf H.next 0]) (H.add (.cells [.mp r])) := by
    refine cK.run (cK_fn o_maps_Keys_int t_maps_Keys_int (Nat.le_of_ble_eq_true rfl) (by decide) ?_)
    have hz : tab.fz n_maps_Keys_int = false := by kernel_rfl
    have h1 : ∀ R, finX false H (.fn (.func n_maps_Keys_int_1) [] [.rf H.next 0]) ((low0 H).add (.cells [.mp r])) R = R (.fn (.func n_maps_Keys_int_1) [] [.rf H.next 0]) (H.add (.cells [.mp r])) := fun R => by
      rw [finX_cold (by simp [D.under, D.under.underAll]) (by simpa using hl)]
      rfl
    simp [hz, h1]
  exact h.cK R

theorem check_vars_1_cK (q : TQuery) (v : ByteArray) (ks : List Int) (H : Heap) {rq rp rm : Nat} (h : PlacesAt q H rq rp rm ks) : cK tab (.fn n_check_vars_1) [strD v, .rf rq 0, .rf rp 0] H (PlacesPost H rm (addP ks (placeS q.items.l v))) := by
  obtain ⟨hq, hp, ⟨m, hm, rfl⟩, lq, lp, lm, nq, np⟩ := h
  refine cK_fn o_check_vars_1 t_check_vars_1 (Nat.le_of_ble_eq_true rfl) (by decide) ?_
  have hi := fun H => (check_item_run q v H).cK
  have hq5 : ∀ q : TQuery, (queryC q).take 5 = queryC q := fun q => List.take_of_length_le (by rw [queryC_len]; exact Nat.le_refl _)
  have e1 : (rq = H.next) = False := by simp; omega
  have e2 : (rp = H.next) = False := by simp; omega
  have e3 : (rm = H.next) = False := by simp; omega
  have e4 : ∀ k, (rq = H.next + k) = False := by simp; omega
  have e5 : ∀ k, (rp = H.next + k) = False := by simp; omega
  have e6 : ∀ k, (rm = H.next + k) = False := by simp; omega
  have hlook : ∀ H1 k, H1.get rm = some (.map (encM m)) → evMlook H1 .int (.v (.int .i64 0)) false (.mp rm) (.v (.int .i64 k)) = some (i64D (countM m k)) := fun H1 k h => look_encM h k
  have hput : ∀ H1 k x, H1.get rm = some (.map (encM m)) → evMput H1 .int (.mp rm) (.v (.int .i64 k)) (.v (.int .i64 x)) = some (H1.set rm (.map (encM (putM m k x)))) := fun H1 k x h => put_encM h k x
  simp [hq, hq5, hi, e1, e2, e3, itemC, setAll_full]
  refine gK_of (fun h => ?_) (fun h => ?_)
  · simp [h, hp, hm, hlook, hput, e1, e2, e3, e4, e5, e6]
    rw [finX_loud (by simp [lm])]
    simp only [PlacesPost]
    refine ⟨by simp, .inr (by simp [lm]), fun r h1 h2 => ?_, putM m (placeS q.items.l v) (IntKind.i64.wrap (countM m (placeS q.items.l v) + 1)), ?_, ?_⟩
    · have : (r = H.next) = False := by simp; omega
      simp [this, get_set, h2]
    · simp [e3, get_set, hm]
    · simp at h
      rw [keys_putM, addP, if_pos h, addK]
  · simp at h
    have h' : ¬ 0 ≤ placeS q.items.l v := by omega
    simp [addP, PlacesPost, hm, h']
    exact ⟨m, rfl, rfl⟩

theorem check_each_gen (q : TQuery) (k vk vn : Int) (vs var field : ByteArray) (kd : D) (kids : List TExpr) (hok : kids.length ≤ big) (ks : List Int) (H : Heap) {rq rp rm : Nat} (h : PlacesAt q H rq rp rm ks) (hk : KidsAt H rm kd kids)
    (ih : ∀ x ∈ kids, ∀ (ks : List Int) (H : Heap), PlacesAt q H rq rp rm ks → cK tab (.fn n_check_each) [.agg (exprC x), .fn (.func n_check_vars_1) [] [.rf rq 0, .rf rp 0]] H (PlacesPost H rm (addPs q.items.l (eachV x) ks))) :
    cK tab (.fn n_check_each) [.agg [i64D k, i64D vk, i64D vn, strD vs, strD var, strD field, kd], .fn (.func n_check_vars_1) [] [.rf rq 0, .rf rp 0]] H (PlacesPost H rm (addPs q.items.l (if 2 ≤ k ∧ k ≤ 6 then [var] else if k = 7 ∨ k = 8 then eachVs kids else []) ks)) := by
  generalize hnm : (if 2 ≤ k ∧ k ≤ 6 then [var] else if k = 7 ∨ k = 8 then eachVs kids else []) = nm
  refine cK_fn o_check_each t_check_each (Nat.le_of_ble_eq_true rfl) (by decide) ?_
  simp
  have hA : PlacesAt q ((low0 H).add (.cells [i64D k, i64D vk, i64D vn, strD vs, strD var, strD field, kd])) rq rp rm ks := (h.low0).add _
  have hend : ∀ ks' d H', PlacesPost ((low0 H).add (.cells [i64D k, i64D vk, i64D vn, strD vs, strD var, strD field, kd])) rm ks' d H' → finX true H (.tup []) H' (PlacesPost H rm ks') := fun ks' d H' p => p.fin h
  have hz : tab.fz n_check_each = true := z_check_each
  by_cases h1 : 2 ≤ k
  · by_cases h2 : k ≤ 6
    · have e : nm = [var] := by rw [← hnm, if_pos ⟨h1, h2⟩]
      rw [e]
      simp [h1, h2]
      refine cK.mono (check_vars_1_cK q var ks _ hA) fun d H' p => ?_
      have := hend _ _ _ p
      simpa [hz, h1, h2, addPs] using this
    · have h3 : ¬ (2 ≤ k ∧ k ≤ 6) := fun h => h2 h.2
      simp [h1, h2]
      by_cases h4 : k = 7 ∨ k = 8
      · have e : nm = eachVs kids := by rw [← hnm, if_neg h3, if_pos h4]
        rw [e]
        rcases h4 with h4 | h4 <;> simp [h4, hk.len]
        all_goals
          refine LR_rule (WR_mono _) (fun j E H' => ∃ pre suf, kids = pre ++ suf ∧ j = suf.length ∧ E 1 = .fn (.func n_check_vars_1) [] [.rf rq 0, .rf rp 0] ∧ E 27 = kd ∧ E 28 = i64D kids.length ∧ E 29 = i64D pre.length ∧ ∃ o d, PlacesPost ((low0 H).add o) rm (addPs q.items.l (eachVs pre) ks) d H') ?_ (j := kids.length)
            ⟨[], kids, rfl, rfl, by simp, by simp, by simp, by simp, _, uD, .refl ((h.low0).add _) _⟩
          rintro j E H' ⟨pre, suf, hl, rfl, e1, e27, e28, e29, o, d0, hp⟩
          cases suf with
          | nil =>
            simp at hl
            subst hl
            have := hp.fin h
            simpa [e27, e28, e29, hz] using this
          | cons a suf =>
            have hlt : pre.length < kids.length := by rw [hl]; simp
            have hlt' : ((pre.length : Int) < (kids.length : Int)) = True := by simp; omega
            have hw := wrap_len hlt hok
            obtain ⟨p, e0, e0'⟩ := hk.elem pre.length a (by rw [hl]; simp)
            have e00 := e0' H' (fun r h1 h2 => by have := hp.2.2.1 r (by simp; omega) h2; have e4 : (r = H.next) = False := (by simp; omega); simpa [e4] using this)
            have hnl : H'.low ≤ H'.next := by
              obtain ⟨p1, p2, _, _⟩ := hp
              have := h.lm
              simp at p1 p2
              rcases p2 with p2 | p2
              · omega
              · rw [p2]; split <;> omega
            simp [e1, e27, e28, e29, hlt', e0, e00, setAll_full, hnl]
            refine cK.mono (ih a (by rw [hl]; simp) _ _ ((hp.at ((h.low0).add _)).add _)) fun d H2 p => ?_
            refine ⟨suf.length, by omega, pre ++ [a], suf, by simp [hl], rfl, by rw [hw]; simp, o, uD, ?_⟩
            have lm := h.lm
            have := PlacesPost.then (d3 := uD) (by simp; omega) hp p
            simpa [eachVs_append, eachVs, addPs_append] using this
      · have h7 : k ≠ 7 := fun h => h4 (.inl h)
        have h8 : k ≠ 8 := fun h => h4 (.inr h)
        have e : nm = [] := by rw [← hnm, if_neg h3, if_neg h4]
        rw [e]
        simp [h7, h8, hz]
        exact .refl h _
  · have h7 : k ≠ 7 := by omega
    have h8 : k ≠ 8 := by omega
    have e : nm = [] := by rw [← hnm, if_neg (fun h => h1 h.1), if_neg (fun h => h.elim h7 h8)]
    rw [e]
    simp [h1, h7, h8, hz]
    exact .refl h _

theorem check_each_cK (q : TQuery) : ∀ (x : TExpr) (_hx : okE x) (ks : List Int) (H : Heap) {rq rp rm : Nat} (_h : PlacesAt q H rq rp rm ks), cK tab (.fn n_check_each) [.agg (exprC x), .fn (.func n_check_vars_1) [] [.rf rq 0, .rf rp 0]] H (PlacesPost H rm (addPs q.items.l (eachV x) ks))
  | .mk k v var field rep kids, hx, ks, H, rq, rp, rm, h => by
    have ih : ∀ x ∈ kids, ∀ (ks : List Int) (H : Heap), PlacesAt q H rq rp rm ks → cK tab (.fn n_check_each) [.agg (exprC x), .fn (.func n_check_vars_1) [] [.rf rq 0, .rf rp 0]] H (PlacesPost H rm (addPs q.items.l (eachV x) ks)) := fun x hm ks H h => check_each_cK q x (okEs_mem hx.2.1 hm) ks H h
    have := check_each_gen q k v.kind v.n v.s var field _ kids hx.1 ks H h (.data H rm rep kids) ih
    rw [exprC_mk, eachV]
    exact this

theorem Sorted_cK (m : List (Int × Int)) (hk : ∀ p ∈ m, i64ok p.1) (hn : (m.map (·.1)).Nodup) (hl : m.length ≤ 1000000) (H : Heap) {rc rm : Nat} (hc : H.get rc = some (.cells [.mp rm])) (hm : H.get rm = some (.map (encM m))) (R : D → Heap → Prop)
    (h0 : m = [] → R (.v (.slice none 0 0)) H) (h1 : m ≠ [] → R (.rs H.next 0 m.length none 1) (H.add (.cells ((sortI (m.map (·.1))).flatMap intC)))) :
    cK tab (.fn n_slices_Sorted_int) [.fn (.func n_maps_Keys_int_1) [] [.rf rc 0]] H R := by
  refine cK_orc o_slices_Sorted_int ?_
  have hki := keysI_encM m hk
  have ha : apartI (m.map (·.1)) = true := (apartI_iff _).2 hn
  have hfm : ∀ l : List Int, l.flatMap intC = l.map fun n => .v (.int .i64 n) := fun l => by
    induction l with
    | nil => rfl
    | cons a l ih => simp [List.flatMap_cons, ih, intC]
  match m, h0, h1, hki, ha, hl, hm with
  | [], h0, _, hki, _, _, hm => exact ⟨_, by simp [orcSorted, hc, hm, hki, apartI]; rfl, h0 rfl⟩
  | p :: m, _, h1, hki, ha, hl, hm =>
    refine ⟨(.rs H.next 0 (p :: m).length none 1, H.add (.cells ((sortI ((p :: m).map (·.1))).flatMap intC))), ?_, h1 (by simp)⟩
    rw [hfm]
    have hl' : m.length + 1 ≤ 1000000 := by simpa using hl
    simp only [List.map_cons] at ha hki
    simp [orcSorted, hc, hm, hki, ha, hl']

theorem check_vars_gen (q : TQuery) (xs : List VX) (hlen : xs.length ≤ big) (H : Heap) {rl : Nat} (c : Option Nat) (hg : H.get rl = some (.cells (xs.flatMap VX.cells))) (hrl : rl < H.next) (hb : (placesS q.items.l (xs.flatMap VX.names)).length ≤ 1000000)
    (he : ∀ x ∈ xs, ∀ (ks : List Int) (H' : Heap), PlacesAt q H' H.next (H.next + 2) (H.next + 1) ks → H.next ≤ H'.next → (∀ r, r < H.next → H'.get r = H.get r) → cK tab (.fn n_check_each) [.agg x.cells, .fn (.func n_check_vars_1) [] [.rf H.next 0, .rf (H.next + 2) 0]] H' (PlacesPost H' (H.next + 1) (addPs q.items.l x.names ks))) :
    Run tab (.fn n_check_vars) [.agg (queryC q), .rs rl 0 xs.length c 7] H (intsD (sortI (placesS q.items.l (xs.flatMap VX.names)))) H := by
  refine cK.run (cK_fn o_check_vars t_check_vars (Nat.le_of_ble_eq_true rfl) (by decide) ?_)
  simp
  let H0 : Heap := (((low0 H).add (.cells (queryC q))).add (.map [])).add (.cells [.mp (H.next + 1)])
  have hA : PlacesAt q H0 H.next (H.next + 2) (H.next + 1) [] := ⟨by simp [H0], by simp [H0], ⟨[], by simp [H0, encM], rfl⟩, by simp [H0], by simp [H0], by simp [H0], by omega, by omega⟩
  have hfr : ∀ r, r < H.next → H0.get r = H.get r := fun r hr => by
    have e1 : (r = H.next) = False := by simp; omega
    have e2 : ∀ k, (r = H.next + k) = False := by simp; omega
    simp [H0, e1, e2]
  have hn0 : H0.next = H.next + 3 := rfl
  have hl0 : H0.low = H.next := rfl
  refine LR_rule (WR_mono _) (fun j E H' => ∃ pre suf d, xs = pre ++ suf ∧ j = suf.length ∧ E 2 = .rf H.next 0 ∧ E 5 = .rf (H.next + 2) 0 ∧ E 9 = .rs rl 0 xs.length c 7 ∧ E 10 = i64D xs.length ∧ E 11 = i64D pre.length ∧ PlacesPost H0 (H.next + 1) (addPs q.items.l (pre.flatMap VX.names) []) d H') ?_ (j := xs.length)
    ⟨[], xs, uD, rfl, rfl, by simp, by simp, by simp, by simp, by simp, .refl hA _⟩
  clear_value H0
  rintro j E H' ⟨pre, suf, d, hl, rfl, e2, e5, e9, e10, e11, hp⟩
  have hA' := hp.at hA
  have hlow : H'.low = H.next := by
    obtain ⟨p1, p2, _, _⟩ := hp
    rcases p2 with p2 | p2
    · omega
    · rw [p2]; split <;> omega
  have hnx : H.next + 3 ≤ H'.next := by have := hp.1; omega
  have n0 : (H.next = H'.next) = False := by simp; omega
  have n1 : ∀ k, k < 3 → (H.next + k = H'.next) = False := fun k hk => by simp; omega
  have n2 : ∀ k j, k < 3 → (H.next + k = H'.next + j) = False := fun k j hk => by simp; omega
  cases suf with
  | nil =>
    simp at hl
    subst hl
    simp [e5, e10, e11, hA'.hp]
    have hcol := Keys_cK (H.next + 1) H' (by omega)
    rw [hcol]
    obtain ⟨m, hm, hks⟩ := hA'.hm
    obtain ⟨o1, o2⟩ := addPs_ok q.items.l (xs.flatMap VX.names) [] (by simp) (by simp)
    have hlen' : q.items.l.length ≤ 9223372036854775807 := q.items.ok
    have hks' : m.map (·.1) = placesS q.items.l (xs.flatMap VX.names) := hks
    rw [← hks] at o1 o2
    have n3 : (H.next + 1 = H'.next) = False := n1 1 (by omega)
    have hml : m.length ≤ 1000000 := by
      have := congrArg List.length hks'
      simp at this
      omega
    refine Sorted_cK m (fun p hp => ?_) o1 hml (H'.add (.cells [.mp (H.next + 1)])) (rc := H'.next) (rm := H.next + 1) (by simp) (by simp [n3, hm]) _ (fun h0 => ?_) (fun h0 => ?_)
    · have := o2 p.1 (List.mem_map.2 ⟨p, hp, rfl⟩)
      exact ⟨by omega, by omega⟩
    · subst h0
      have e : sortI (placesS q.items.l (xs.flatMap VX.names)) = [] := by rw [← hks']; rfl
      rw [e, finX_data (by simp; omega) rfl]
      exact ⟨rfl, rfl⟩
    · have e : sortI (placesS q.items.l (xs.flatMap VX.names)) = sortI (m.map (·.1)) := by rw [hks']
      have hl3 := (sortI_perm (m.map (·.1))).length_eq
      simp at hl3
      obtain ⟨k, hk⟩ : ∃ k, m.length = k + 1 := ⟨m.length - 1, by have := List.length_pos_iff.2 h0; omega⟩
      have hll : (List.flatMap intC (sortI (List.map (fun x => x.fst) m))).length = k + 1 := by rw [flatMap_length intC_len]; omega
      rw [e, z_check_vars]
      rw [finX_frozen (d' := intsD (sortI (m.map (·.1)))) (by simp; omega) ?_]
      · exact ⟨rfl, rfl⟩
      · simp [frz_rs, intsD, hl3, hk, slD, hll]
        have hn1 : ¬ (H'.next + 1 < H.next) := by omega
        have ht : List.take (k + 1) (List.flatMap intC (sortI (List.map (fun x => x.fst) m))) = List.flatMap intC (sortI (List.map (fun x => x.fst) m)) := List.take_of_length_le (by omega)
        rw [if_neg hn1, ht, frzL_within (fun d hd => frz_within 63 d hd) _ (by rw [List.all_flatMap]; simp [intC, within])]
        rfl
  | cons a suf =>
    have hlt : pre.length < xs.length := by rw [hl]; simp
    have hlt' : ((pre.length : Int) < (xs.length : Int)) = True := by simp; omega
    have hw := wrap_len hlt hlen
    have hg' : H'.get rl = some (.cells (xs.flatMap VX.cells)) := by rw [hp.2.2.1 rl (by omega) (by omega), hfr rl hrl, hg]
    have hdz := drop_zip VX.len pre (a :: suf)
    rw [← hl] at hdz
    have hne : (rl = H'.next) = False := by simp; omega
    have hnl : H'.low ≤ H'.next := by omega
    simp [e2, e5, e9, e10, e11, hlt', hg', hdz, hne, hnl, setAll_full]
    have hfr' : ∀ r, r < H.next → (H'.add (.cells a.cells)).get r = H.get r := fun r hr => by
      have e1 : (r = H'.next) = False := by simp; omega
      simp only [get_add, e1, if_false]
      rw [hp.2.2.1 r (by omega) (by omega), hfr r hr]
    refine cK.mono (he a (by rw [hl]; simp) _ _ (hA'.add _) (by simp; omega) hfr') fun d H2 p => ?_
    refine ⟨suf.length, by omega, pre ++ [a], suf, by simp [hl], rfl, by rw [hw]; simp, uD, ?_⟩
    have := PlacesPost.then (d3 := uD) (by omega) hp p
    simpa [addPs_append] using this

theorem check_vars_run (q : TQuery) (xs : List TExpr) (hx : okEs xs) (hlen : xs.length ≤ big) (H : Heap) {rl : Nat} (c : Option Nat) (hg : H.get rl = some (.cells (xs.flatMap exprC))) (hrl : rl < H.next) (hb : (placesS q.items.l (eachVs xs)).length ≤ 1000000) :
    Run tab (.fn n_check_vars) [.agg (queryC q), .rs rl 0 xs.length c 7] H (intsD (varsS q.items.l xs)) H := by
  have := check_vars_gen q (xs.map VX.of) (by simpa using hlen) H c (by rw [VX.of_cells]; exact hg) hrl (by rw [VX.of_names]; exact hb) fun x hm ks H' h _ _ => by
    obtain ⟨y, hy, rfl⟩ := List.mem_map.1 hm
    exact check_each_cK q y (okEs_mem hx hy) ks H' h
  rw [VX.of_names] at this
  simpa [varsS] using this

theorem check_Vars_run (q : TQuery) (x : TExpr) (hx : okE x) (H : Heap) (hb : (placesS q.items.l (eachV x)).length ≤ 1000000) :
    Run tab (.fn n_check_Vars) [.agg (queryC q), .agg (exprC x)] H (intsD (varsS q.items.l [x])) H := by
  refine cK.run (cK_fn o_check_Vars t_check_Vars (Nat.le_of_ble_eq_true rfl) (by decide) ?_)
  have hq5 : ∀ q : TQuery, (queryC q).take 5 = queryC q := fun q => List.take_of_length_le (by rw [queryC_len]; exact Nat.le_refl _)
  have hv := (check_vars_run q [x] ⟨hx, trivial⟩ (by simp [big]) ((((low0 H).add (.cells (queryC q))).add (.cells (exprC x))).add (.cells (exprC x))) (rl := H.next + 2) (some 1) (by simp) (by simp) (by simpa [eachVs] using hb)).cK
  simp at hv
  simp [hq5, fillX, setAll_full]
  rw [hv, finX_data (d := intsD (varsS q.items.l [x])) (by simp) (sl_under 0 _ _ _ (fl_int _))]
  exact ⟨rfl, rfl⟩

theorem check_Vars_own (q : TQuery) (k : Int) (hk : k = 7 ∨ k = 8) (kids : List TExpr) (hx : okEs kids) (hl : kids.length ≤ big) (c : Option Nat) (H : Heap) {r : Nat} (h : H.get r = some (.cells (kids.flatMap exprC))) (hr : r < H.next) (hb : (placesS q.items.l (eachVs kids)).length ≤ 1000000) :
    Run tab (.fn n_check_Vars) [.agg (queryC q), .agg [i64D k, i64D 0, i64D 0, strD ⟨#[]⟩, strD ⟨#[]⟩, strD ⟨#[]⟩, .rs r 0 kids.length c 7]] H (intsD (varsS q.items.l kids)) H := by
  refine cK.run (cK_fn o_check_Vars t_check_Vars (Nat.le_of_ble_eq_true rfl) (by decide) ?_)
  have hq5 : ∀ q : TQuery, (queryC q).take 5 = queryC q := fun q => List.take_of_length_le (by rw [queryC_len]; exact Nat.le_refl _)
  have hn : (eachVs kids) = (if 2 ≤ k ∧ k ≤ 6 then [(⟨#[]⟩ : ByteArray)] else if k = 7 ∨ k = 8 then eachVs kids else []) := by rw [if_neg (by omega), if_pos hk]
  let X : VX := ⟨[i64D k, i64D 0, i64D 0, strD ⟨#[]⟩, strD ⟨#[]⟩, strD ⟨#[]⟩, .rs r 0 kids.length c 7], eachVs kids, rfl⟩
  have e0 : (r = H.next) = False := by simp; omega
  have e1 : ∀ k, (r = H.next + k) = False := by simp; omega
  have hv := (check_vars_gen q [X] (by simp [big]) ((((low0 H).add (.cells (queryC q))).add (.cells X.cells)).add (.cells X.cells)) (rl := H.next + 2) (some 1) (by simp) (by simp) (by simpa [X] using hb) fun x hm ks H' hp hnx hfr => by
    simp at hm
    subst hm
    have := check_each_gen q k 0 0 ⟨#[]⟩ ⟨#[]⟩ ⟨#[]⟩ (.rs r 0 kids.length c 7) kids hl ks H' hp (.own kids c (by rw [hfr r (by simp; omega)]; simp [e0, e1, h]) (by simp at hnx; omega) (by simp; omega)) fun x hm ks H h => check_each_cK q x (okEs_mem hx hm) ks H h
    rw [← hn] at this
    exact this).cK
  simp [X] at hv
  simp [hq5, fillX, setAll_full]
  rw [hv, finX_data (d := intsD (sortI (placesS q.items.l (eachVs kids)))) (by simp) (sl_under 0 _ _ _ (fl_int _))]
  exact ⟨rfl, rfl⟩

end Go.Proofs.YtnpoicmaiieanaaGreatDoor.Tz.L
