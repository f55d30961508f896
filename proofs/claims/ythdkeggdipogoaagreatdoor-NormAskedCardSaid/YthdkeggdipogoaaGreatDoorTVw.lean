/-
The walk of check.Check, at a table of its own. Conditions: none.
-/
import Derived.Test.YthdkeggdipogoaaGreatDoorTO9
namespace Go.Proofs.YthdkeggdipogoaaGreatDoor.Tz.V
open Go.Aug Go.Aug.Api
set_option maxRecDepth 100000
noncomputable abbrev tab : Tab := tabV
theorem o_q47 : tab.orc n_q47 = none := by kernel_rfl
theorem o_q50 : tab.orc n_q50 = none := by kernel_rfl
theorem o_q51 : tab.orc n_q51 = none := by kernel_rfl
theorem o_q55 : tab.orc n_q55 = none := by kernel_rfl
theorem o_q56 : tab.orc n_q56 = none := by kernel_rfl
theorem o_q57 : tab.orc n_q57 = none := by kernel_rfl
theorem o_q58 : tab.orc n_q58 = none := by kernel_rfl
theorem o_q59 : tab.orc n_q59 = none := by kernel_rfl
theorem o_q60 : tab.orc n_q60 = none := by kernel_rfl
theorem o_q66 : tab.orc n_q66 = some (orcAs 106 110 111 51) := by kernel_rfl
theorem o_q74 : tab.orc n_q74 = none := by kernel_rfl
theorem o_q82 : tab.orc n_q82 = none := by kernel_rfl
theorem o_q86 : tab.orc n_q86 = none := by kernel_rfl
theorem o_q89 : tab.orc n_q89 = some (orcSorted 1000000 n_q75) := by kernel_rfl
theorem t_q47 : tab.fn n_q47 = some F_q47 := by kernel_rfl
theorem t_q50 : tab.fn n_q50 = some F_q50 := by kernel_rfl
theorem t_q51 : tab.fn n_q51 = some F_q51 := by kernel_rfl
theorem t_q55 : tab.fn n_q55 = some F_q55 := by kernel_rfl
theorem t_q56 : tab.fn n_q56 = some F_q56 := by kernel_rfl
theorem t_q57 : tab.fn n_q57 = some F_q57 := by kernel_rfl
theorem t_q58 : tab.fn n_q58 = some F_q58 := by kernel_rfl
theorem t_q59 : tab.fn n_q59 = some F_q59 := by kernel_rfl
theorem t_q60 : tab.fn n_q60 = some F_q60 := by kernel_rfl
theorem t_q74 : tab.fn n_q74 = some F_q74 := by kernel_rfl
theorem t_q82 : tab.fn n_q82 = some F_q82 := by kernel_rfl
theorem t_q86 : tab.fn n_q86 = some F_q86 := by kernel_rfl
theorem z_q50 : tab.fz n_q50 = true := by kernel_rfl
theorem z_q51 : tab.fz n_q51 = true := by kernel_rfl
theorem z_q55 : tab.fz n_q55 = true := by kernel_rfl
theorem z_q56 : tab.fz n_q56 = true := by kernel_rfl
theorem z_q57 : tab.fz n_q57 = true := by kernel_rfl
theorem z_q59 : tab.fz n_q59 = true := by kernel_rfl
theorem event_Find_run (l : Sl TSchema) (name : ByteArray) (H : Heap) : Run tab (.fn n_q70) [l.enc schemaC, strD name] H (findD (findS l.l name)) H := runV oV_Find (by simp) (Tz.event_Find_run l name H0) H
theorem check_field_run (l : Sl TSchema) (names : Sl ByteArray) (f : ByteArray) (H : Heap) : Run tab (.fn n_q52) [l.enc schemaC, names.enc strC, strD f] H (i64D (fieldK l.l names.l f)) H := runV oV_field (by simp) (Tz.check_field_run l names f H0) H
theorem check_Kind_run (l : Sl TSchema) (q : TQuery) (x : TExpr) (H : Heap) : Run tab (.fn n_q48) [l.enc schemaC, .agg (queryC q), .agg (exprC x)] H (i64D (kindS l.l q.items.l x)) H := runV oV_Kind (by simp) (Tz.check_Kind_run l q x H0) H
theorem check_item_run (q : TQuery) (v : ByteArray) (H : Heap) : Run tab (.fn n_q53) [.agg (queryC q), strD v] H (.tup [.agg (itemC (itemS q.items.l v)), i64D (placeS q.items.l v)]) H := runV oV_item (by simp) (Tz.check_item_run q v H0) H
theorem tree_Right_run (q : TQuery) (H : Heap) : Run tab (.fn n_q107) [.agg (queryC q)] H (bD (rightP q)) H := runV oV_Right (by simp) (Tz.tree_Right_run q H0) H
theorem Sorted_cK (m : List (Int × Int)) (hk : ∀ p ∈ m, i64ok p.1) (hn : (m.map (·.1)).Nodup) (hl : m.length ≤ 1000000) (H : Heap) {rc rm : Nat} (hc : H.get rc = some (.cells [.mp rm])) (hm : H.get rm = some (.map (encM m))) (R : D → Heap → Prop)
    (h0 : m = [] → R (.v (.slice none 0 0)) H) (h1 : m ≠ [] → R (.rs H.next 0 m.length none 1) (H.add (.cells ((sortI (m.map (·.1))).flatMap intC)))) :
    cK tab (.fn n_q89) [.fn (.func n_q75) [] [.rf rc 0]] H R := by
  refine cK_orc o_q89 ?_
  have hki := keysI_encM m hk
  have ha : apartI (m.map (·.1)) = true := (apartI_iff _).2 hn
  have hfm : ∀ l : List Int, l.flatMap intC = l.map fun n => .v (.int .i64 n) := fun l => by
    induction l with
    | nil => rfl
    | cons a l ih => simp [List.flatMap_cons, ih, intC]
  match m, h0, h1, hki, ha, hl, hm with
  | [], h0, _, hki, _, _, hm => exact ⟨_, by simp [orcSorted, hc, hm, hki, apartI]; rfl, h0 rfl⟩
  | p :: m, _, h1, hki, ha, hl, hm =>
    refine ⟨(.rs H.next 0 (p :: m).length none 1, H.add (.cells ((sortI ((p :: m).map (·.1))).flatMap intC))), ?_, h1 (by simp)⟩
    rw [hfm]
    have hl' : m.length + 1 ≤ 1000000 := by simpa using hl
    simp only [List.map_cons] at ha hki
    simp [orcSorted, hc, hm, hki, ha, hl']
theorem Keys_cK (r : Nat) (H : Heap) (hl : H.low ≤ H.next) (R : D → Heap → Prop) : cK tab (.fn n_q74) [.mp r] H R = R (.fn (.func n_q75) [] [.rf H.next 0]) (H.add (.cells [.mp r])) := by
  have h : Run tab (.fn n_q74) [.mp r] H (.fn (.func n_q75) [] [.rf H.next 0]) (H.add (.cells [.mp r])) := by
    refine cK.run (cK_fn o_q74 t_q74 (Nat.le_of_ble_eq_true rfl) (by decide) ?_)
    have hz : tab.fz n_q74 = false := by kernel_rfl
    have h1 : ∀ R, finX false H (.fn (.func n_q75) [] [.rf H.next 0]) ((low0 H).add (.cells [.mp r])) R = R (.fn (.func n_q75) [] [.rf H.next 0]) (H.add (.cells [.mp r])) := fun R => by
      rw [finX_cold (by simp [D.under, D.under.underAll]) (by simpa using hl)]
      rfl
    simp [hz, h1]
  exact h.cK R
theorem check_vars_1_cK (q : TQuery) (v : ByteArray) (ks : List Int) (H : Heap) {rq rp rm : Nat} (h : PlacesAt q H rq rp rm ks) : cK tab (.fn n_q60) [strD v, .rf rq 0, .rf rp 0] H (PlacesPost H rm (addP ks (placeS q.items.l v))) := by
  obtain ⟨hq, hp, ⟨m, hm, rfl⟩, lq, lp, lm, nq, np⟩ := h
  refine cK_fn o_q60 t_q60 (Nat.le_of_ble_eq_true rfl) (by decide) ?_
  have hi := fun H => (check_item_run q v H).cK
  have hq5 : ∀ q : TQuery, (queryC q).take 5 = queryC q := fun q => List.take_of_length_le (by rw [queryC_len]; exact Nat.le_refl _)
  have e1 : (rq = H.next) = False := by simp; omega
  have e2 : (rp = H.next) = False := by simp; omega
  have e3 : (rm = H.next) = False := by simp; omega
  have e4 : ∀ k, (rq = H.next + k) = False := by simp; omega
  have e5 : ∀ k, (rp = H.next + k) = False := by simp; omega
  have e6 : ∀ k, (rm = H.next + k) = False := by simp; omega
  have hlook : ∀ H1 k, H1.get rm = some (.map (encM m)) → evMlook H1 .int (.v (.int .i64 0)) false (.mp rm) (.v (.int .i64 k)) = some (i64D (countM m k)) := fun H1 k h => look_encM h k
  have hput : ∀ H1 k x, H1.get rm = some (.map (encM m)) → evMput H1 .int (.mp rm) (.v (.int .i64 k)) (.v (.int .i64 x)) = some (H1.set rm (.map (encM (putM m k x)))) := fun H1 k x h => put_encM h k x
  simp [hq, hq5, hi, e1, e2, e3, itemC, setAll_full]
  refine gK_of (fun h => ?_) (fun h => ?_)
  · simp [h, hp, hm, hlook, hput, e1, e2, e3, e4, e5, e6]
    rw [finX_loud (by simp [lm])]
    simp only [PlacesPost]
    refine ⟨by simp, .inr (by simp [lm]), fun r h1 h2 => ?_, putM m (placeS q.items.l v) (IntKind.i64.wrap (countM m (placeS q.items.l v) + 1)), ?_, ?_⟩
    · have : (r = H.next) = False := by simp; omega
      simp [this, get_set, h2]
    · simp [e3, get_set, hm]
    · simp at h
      rw [keys_putM, addP, if_pos h, addK]
  · simp at h
    have h' : ¬ 0 ≤ placeS q.items.l v := by omega
    simp [addP, PlacesPost, hm, h']
    exact ⟨m, rfl, rfl⟩
theorem check_each_gen (q : TQuery) (k vk vn : Int) (vs var field : ByteArray) (kd : D) (kids : List TExpr) (hok : kids.length ≤ big) (ks : List Int) (H : Heap) {rq rp rm : Nat} (h : PlacesAt q H rq rp rm ks) (hk : KidsAt H rm kd kids)
    (ih : ∀ x ∈ kids, ∀ (ks : List Int) (H : Heap), PlacesAt q H rq rp rm ks → cK tab (.fn n_q51) [.agg (exprC x), .fn (.func n_q60) [] [.rf rq 0, .rf rp 0]] H (PlacesPost H rm (addPs q.items.l (eachV x) ks))) :
    cK tab (.fn n_q51) [.agg [i64D k, i64D vk, i64D vn, strD vs, strD var, strD field, kd], .fn (.func n_q60) [] [.rf rq 0, .rf rp 0]] H (PlacesPost H rm (addPs q.items.l (if 2 ≤ k ∧ k ≤ 6 then [var] else if k = 7 ∨ k = 8 then eachVs kids else []) ks)) := by
  generalize hnm : (if 2 ≤ k ∧ k ≤ 6 then [var] else if k = 7 ∨ k = 8 then eachVs kids else []) = nm
  refine cK_fn o_q51 t_q51 (Nat.le_of_ble_eq_true rfl) (by decide) ?_
  simp
  have hA : PlacesAt q ((low0 H).add (.cells [i64D k, i64D vk, i64D vn, strD vs, strD var, strD field, kd])) rq rp rm ks := (h.low0).add _
  have hend : ∀ ks' d H', PlacesPost ((low0 H).add (.cells [i64D k, i64D vk, i64D vn, strD vs, strD var, strD field, kd])) rm ks' d H' → finX true H (.tup []) H' (PlacesPost H rm ks') := fun ks' d H' p => p.fin h
  have hz : tab.fz n_q51 = true := z_q51
  by_cases h1 : 2 ≤ k
  · by_cases h2 : k ≤ 6
    · have e : nm = [var] := by rw [← hnm, if_pos ⟨h1, h2⟩]
      rw [e]
      simp [h1, h2]
      refine cK.mono (check_vars_1_cK q var ks _ hA) fun d H' p => ?_
      have := hend _ _ _ p
      simpa [hz, h1, h2, addPs] using this
    · have h3 : ¬ (2 ≤ k ∧ k ≤ 6) := fun h => h2 h.2
      simp [h1, h2]
      by_cases h4 : k = 7 ∨ k = 8
      · have e : nm = eachVs kids := by rw [← hnm, if_neg h3, if_pos h4]
        rw [e]
        rcases h4 with h4 | h4 <;> simp [h4, hk.len]
        all_goals
          refine LR_rule (WR_mono _) (fun j E H' => ∃ pre suf, kids = pre ++ suf ∧ j = suf.length ∧ E 1 = .fn (.func n_q60) [] [.rf rq 0, .rf rp 0] ∧ E 27 = kd ∧ E 28 = i64D kids.length ∧ E 29 = i64D pre.length ∧ ∃ o d, PlacesPost ((low0 H).add o) rm (addPs q.items.l (eachVs pre) ks) d H') ?_ (j := kids.length)
            ⟨[], kids, rfl, rfl, by simp, by simp, by simp, by simp, _, uD, .refl ((h.low0).add _) _⟩
          rintro j E H' ⟨pre, suf, hl, rfl, e1, e27, e28, e29, o, d0, hp⟩
          cases suf with
          | nil =>
            simp at hl
            subst hl
            have := hp.fin h
            simpa [e27, e28, e29, hz] using this
          | cons a suf =>
            have hlt : pre.length < kids.length := by rw [hl]; simp
            have hlt' : ((pre.length : Int) < (kids.length : Int)) = True := by simp; omega
            have hw := wrap_len hlt hok
            obtain ⟨p, e0, e0'⟩ := hk.elem pre.length a (by rw [hl]; simp)
            have e00 := e0' H' (fun r h1 h2 => by have := hp.2.2.1 r (by simp; omega) h2; have e4 : (r = H.next) = False := (by simp; omega); simpa [e4] using this)
            have hnl : H'.low ≤ H'.next := by
              obtain ⟨p1, p2, _, _⟩ := hp
              have := h.lm
              simp at p1 p2
              rcases p2 with p2 | p2
              · omega
              · rw [p2]; split <;> omega
            simp [e1, e27, e28, e29, hlt', e0, e00, setAll_full, hnl]
            refine cK.mono (ih a (by rw [hl]; simp) _ _ ((hp.at ((h.low0).add _)).add _)) fun d H2 p => ?_
            refine ⟨suf.length, by omega, pre ++ [a], suf, by simp [hl], rfl, by rw [hw]; simp, o, uD, ?_⟩
            have lm := h.lm
            have := PlacesPost.then (d3 := uD) (by simp; omega) hp p
            simpa [eachVs_append, eachVs, addPs_append] using this
      · have h7 : k ≠ 7 := fun h => h4 (.inl h)
        have h8 : k ≠ 8 := fun h => h4 (.inr h)
        have e : nm = [] := by rw [← hnm, if_neg h3, if_neg h4]
        rw [e]
        simp [h7, h8, hz]
        exact .refl h _
  · have h7 : k ≠ 7 := by omega
    have h8 : k ≠ 8 := by omega
    have e : nm = [] := by rw [← hnm, if_neg (fun h => h1 h.1), if_neg (fun h => h.elim h7 h8)]
    rw [e]
    simp [h1, h7, h8, hz]
    exact .refl h _
theorem check_each_cK (q : TQuery) : ∀ (x : TExpr) (_hx : okE x) (ks : List Int) (H : Heap) {rq rp rm : Nat} (_h : PlacesAt q H rq rp rm ks), cK tab (.fn n_q51) [.agg (exprC x), .fn (.func n_q60) [] [.rf rq 0, .rf rp 0]] H (PlacesPost H rm (addPs q.items.l (eachV x) ks))
  | .mk k v var field rep kids, hx, ks, H, rq, rp, rm, h => by
    have ih : ∀ x ∈ kids, ∀ (ks : List Int) (H : Heap), PlacesAt q H rq rp rm ks → cK tab (.fn n_q51) [.agg (exprC x), .fn (.func n_q60) [] [.rf rq 0, .rf rp 0]] H (PlacesPost H rm (addPs q.items.l (eachV x) ks)) := fun x hm ks H h => check_each_cK q x (okEs_mem hx.2.1 hm) ks H h
    have := check_each_gen q k v.kind v.n v.s var field _ kids hx.1 ks H h (.data H rm rep kids) ih
    rw [exprC_mk, eachV]
    exact this
theorem check_vars_gen (q : TQuery) (xs : List VX) (hlen : xs.length ≤ big) (H : Heap) {rl : Nat} (c : Option Nat) (hg : H.get rl = some (.cells (xs.flatMap VX.cells))) (hrl : rl < H.next) (hb : (placesS q.items.l (xs.flatMap VX.names)).length ≤ 1000000)
    (he : ∀ x ∈ xs, ∀ (ks : List Int) (H' : Heap), PlacesAt q H' H.next (H.next + 2) (H.next + 1) ks → H.next ≤ H'.next → (∀ r, r < H.next → H'.get r = H.get r) → cK tab (.fn n_q51) [.agg x.cells, .fn (.func n_q60) [] [.rf H.next 0, .rf (H.next + 2) 0]] H' (PlacesPost H' (H.next + 1) (addPs q.items.l x.names ks))) :
    Run tab (.fn n_q59) [.agg (queryC q), .rs rl 0 xs.length c 7] H (intsD (sortI (placesS q.items.l (xs.flatMap VX.names)))) H := by
  refine cK.run (cK_fn o_q59 t_q59 (Nat.le_of_ble_eq_true rfl) (by decide) ?_)
  simp
  let H0 : Heap := (((low0 H).add (.cells (queryC q))).add (.map [])).add (.cells [.mp (H.next + 1)])
  have hA : PlacesAt q H0 H.next (H.next + 2) (H.next + 1) [] := ⟨by simp [H0], by simp [H0], ⟨[], by simp [H0, encM], rfl⟩, by simp [H0], by simp [H0], by simp [H0], by omega, by omega⟩
  have hfr : ∀ r, r < H.next → H0.get r = H.get r := fun r hr => by
    have e1 : (r = H.next) = False := by simp; omega
    have e2 : ∀ k, (r = H.next + k) = False := by simp; omega
    simp [H0, e1, e2]
  have hn0 : H0.next = H.next + 3 := rfl
  have hl0 : H0.low = H.next := rfl
  refine LR_rule (WR_mono _) (fun j E H' => ∃ pre suf d, xs = pre ++ suf ∧ j = suf.length ∧ E 2 = .rf H.next 0 ∧ E 5 = .rf (H.next + 2) 0 ∧ E 9 = .rs rl 0 xs.length c 7 ∧ E 10 = i64D xs.length ∧ E 11 = i64D pre.length ∧ PlacesPost H0 (H.next + 1) (addPs q.items.l (pre.flatMap VX.names) []) d H') ?_ (j := xs.length)
    ⟨[], xs, uD, rfl, rfl, by simp, by simp, by simp, by simp, by simp, .refl hA _⟩
  clear_value H0
  rintro j E H' ⟨pre, suf, d, hl, rfl, e2, e5, e9, e10, e11, hp⟩
  have hA' := hp.at hA
  have hlow : H'.low = H.next := by
    obtain ⟨p1, p2, _, _⟩ := hp
    rcases p2 with p2 | p2
    · omega
    · rw [p2]; split <;> omega
  have hnx : H.next + 3 ≤ H'.next := by have := hp.1; omega
  have n0 : (H.next = H'.next) = False := by simp; omega
  have n1 : ∀ k, k < 3 → (H.next + k = H'.next) = False := fun k hk => by simp; omega
  have n2 : ∀ k j, k < 3 → (H.next + k = H'.next + j) = False := fun k j hk => by simp; omega
  cases suf with
  | nil =>
    simp at hl
    subst hl
    simp [e5, e10, e11, hA'.hp]
    have hcol := Keys_cK (H.next + 1) H' (by omega)
    rw [hcol]
    obtain ⟨m, hm, hks⟩ := hA'.hm
    obtain ⟨o1, o2⟩ := addPs_ok q.items.l (xs.flatMap VX.names) [] (by simp) (by simp)
    have hlen' : q.items.l.length ≤ 9223372036854775807 := q.items.ok
    have hks' : m.map (·.1) = placesS q.items.l (xs.flatMap VX.names) := hks
    rw [← hks] at o1 o2
    have n3 : (H.next + 1 = H'.next) = False := n1 1 (by omega)
    have hml : m.length ≤ 1000000 := by
      have := congrArg List.length hks'
      simp at this
      omega
    refine Sorted_cK m (fun p hp => ?_) o1 hml (H'.add (.cells [.mp (H.next + 1)])) (rc := H'.next) (rm := H.next + 1) (by simp) (by simp [n3, hm]) _ (fun h0 => ?_) (fun h0 => ?_)
    · have := o2 p.1 (List.mem_map.2 ⟨p, hp, rfl⟩)
      exact ⟨by omega, by omega⟩
    · subst h0
      have e : sortI (placesS q.items.l (xs.flatMap VX.names)) = [] := by rw [← hks']; rfl
      rw [e, finX_data (by simp; omega) rfl]
      exact ⟨rfl, rfl⟩
    · have e : sortI (placesS q.items.l (xs.flatMap VX.names)) = sortI (m.map (·.1)) := by rw [hks']
      have hl3 := (sortI_perm (m.map (·.1))).length_eq
      simp at hl3
      obtain ⟨k, hk⟩ : ∃ k, m.length = k + 1 := ⟨m.length - 1, by have := List.length_pos_iff.2 h0; omega⟩
      have hll : (List.flatMap intC (sortI (List.map (fun x => x.fst) m))).length = k + 1 := by rw [flatMap_length intC_len]; omega
      rw [e, z_q59]
      rw [finX_frozen (d' := intsD (sortI (m.map (·.1)))) (by simp; omega) ?_]
      · exact ⟨rfl, rfl⟩
      · simp [frz_rs, intsD, hl3, hk, slD, hll]
        have hn1 : ¬ (H'.next + 1 < H.next) := by omega
        have ht : List.take (k + 1) (List.flatMap intC (sortI (List.map (fun x => x.fst) m))) = List.flatMap intC (sortI (List.map (fun x => x.fst) m)) := List.take_of_length_le (by omega)
        rw [if_neg hn1, ht, frzL_within (fun d hd => frz_within 63 d hd) _ (by rw [List.all_flatMap]; simp [intC, within])]
        rfl
  | cons a suf =>
    have hlt : pre.length < xs.length := by rw [hl]; simp
    have hlt' : ((pre.length : Int) < (xs.length : Int)) = True := by simp; omega
    have hw := wrap_len hlt hlen
    have hg' : H'.get rl = some (.cells (xs.flatMap VX.cells)) := by rw [hp.2.2.1 rl (by omega) (by omega), hfr rl hrl, hg]
    have hdz := drop_zip VX.len pre (a :: suf)
    rw [← hl] at hdz
    have hne : (rl = H'.next) = False := by simp; omega
    have hnl : H'.low ≤ H'.next := by omega
    simp [e2, e5, e9, e10, e11, hlt', hg', hdz, hne, hnl, setAll_full]
    have hfr' : ∀ r, r < H.next → (H'.add (.cells a.cells)).get r = H.get r := fun r hr => by
      have e1 : (r = H'.next) = False := by simp; omega
      simp only [get_add, e1, if_false]
      rw [hp.2.2.1 r (by omega) (by omega), hfr r hr]
    refine cK.mono (he a (by rw [hl]; simp) _ _ (hA'.add _) (by simp; omega) hfr') fun d H2 p => ?_
    refine ⟨suf.length, by omega, pre ++ [a], suf, by simp [hl], rfl, by rw [hw]; simp, uD, ?_⟩
    have := PlacesPost.then (d3 := uD) (by omega) hp p
    simpa [addPs_append] using this
theorem check_vars_run (q : TQuery) (xs : List TExpr) (hx : okEs xs) (hlen : xs.length ≤ big) (H : Heap) {rl : Nat} (c : Option Nat) (hg : H.get rl = some (.cells (xs.flatMap exprC))) (hrl : rl < H.next) (hb : (placesS q.items.l (eachVs xs)).length ≤ 1000000) :
    Run tab (.fn n_q59) [.agg (queryC q), .rs rl 0 xs.length c 7] H (intsD (varsS q.items.l xs)) H := by
  have := check_vars_gen q (xs.map VX.of) (by simpa using hlen) H c (by rw [VX.of_cells]; exact hg) hrl (by rw [VX.of_names]; exact hb) fun x hm ks H' h _ _ => by
    obtain ⟨y, hy, rfl⟩ := List.mem_map.1 hm
    exact check_each_cK q y (okEs_mem hx hy) ks H' h
  rw [VX.of_names] at this
  simpa [varsS] using this
def errD : Option (Int × Int) → D
  | none => .v .nilIface
  | some p => .ifc 106 (.cp [i64D p.1, .ifc 51 (i64D p.2)])
theorem frz_ifc (H : Heap) (lo n : Nat) (t : TypeId) (d : D) (h : d.under lo = false) : frz H lo (n + 1) (.ifc t d) = (frz H lo n d).map (.ifc t) := by
  conv => lhs; unfold frz
  rw [if_neg (by rw [under_ifc, h]; decide)]
theorem err_fin {H H' : Heap} {r : Nat} {i e : Int} {R : D → Heap → Prop} (hlow : H'.low = H.next) (hr : H.next ≤ r) (hg : H'.get r = some (.cells [i64D i, .ifc 51 (i64D e)])) : finX true H (.ifc 106 (.rf r 0)) H' R = R (errD (some (i, e))) H := by
  refine finX_frozen (by omega) ?_
  have hlt : ¬ r < H.next := by omega
  rw [frz_ifc _ _ _ _ _ (by show decide (r < H.next) = false; simp; omega), frz_rf, if_neg hlt, hg]
  have h1 : frzL (frz H' H.next 62) ([i64D i, .ifc 51 (i64D e)].drop 0) = some [i64D i, .ifc 51 (i64D e)] := by
    refine frzL_two _ _ _ _ _ (frz_v ..) (frzL_two _ _ _ _ _ (frz_under0 _ _ _ _ rfl) (frzL_none _))
  simp only [h1]
  rfl
theorem names_in (l : Sl TSchema) (x : TItem) (i : Nat) (H : Heap) (Q : PostX) (E0 : Fr)
    (h1 : (x.names.l.all fun n => (findS l.l n).2) = true → ∀ E H', E 0 = l.enc schemaC → E 12 = E0 12 → E 13 = E0 13 → E 14 = E0 14 → H'.low = H.next → H.next ≤ H'.next → Q (.exit 2) E H')
    (h2 : (x.names.l.all fun n => (findS l.l n).2) = false → ∀ E H' r, E 4 = .ifc 106 (.rf r 0) → H.next ≤ r → H'.get r = some (.cells [i64D i, .ifc 51 (i64D 12)]) → H'.low = H.next → Q .ret E H') (H1 : Heap)
    (e0 : E0 0 = l.enc schemaC) (e5 : E0 5 = i64D i) (e20 : E0 20 = x.names.enc strC) (e21 : E0 21 = i64D x.names.l.length) (e22 : E0 22 = i64D 0) (g2 : H1.low = H.next) (g3 : H.next ≤ H1.next) :
    LR (WR 41 tab none F_q56.l11) E0 H1 Q := by
  have c1 := fun name H => (event_Find_run l name H).cK
  simp only [Sl.enc] at c1
  refine LR_rule (WR_mono _) (fun j E H' => ∃ pre suf, x.names.l = pre ++ suf ∧ j = suf.length ∧ E 0 = l.enc schemaC ∧ E 5 = i64D i ∧ E 20 = x.names.enc strC ∧ E 21 = i64D x.names.l.length ∧ E 22 = i64D pre.length ∧ E 12 = E0 12 ∧ E 13 = E0 13 ∧ E 14 = E0 14 ∧
    H'.low = H.next ∧ H.next ≤ H'.next ∧ (pre.all fun n => (findS l.l n).2) = true) ?_ (j := x.names.l.length) ⟨[], x.names.l, by simp, rfl, e0, e5, e20, e21, e22, rfl, rfl, rfl, g2, g3, rfl⟩
  rintro j E H' ⟨pre, suf, hl, rfl, e0, e5, e20, e21, e22, f12, f13, f14, hlow, hnx, hn⟩
  have hok := x.names.ok
  cases suf with
  | nil =>
    simp at hl
    have hlt' : ((pre.length : Int) < (x.names.l.length : Int)) = False := by simp [hl]
    simp [e21, e22, hlt']
    exact h1 (by rw [hl]; exact hn) _ _ (by simp [e0]) (by simp [f12]) (by simp [f13]) (by simp [f14]) hlow hnx
  | cons s suf =>
    have hlt : pre.length < x.names.l.length := by simp [hl]
    have hlt' : ((pre.length : Int) < (x.names.l.length : Int)) = True := by simp; omega
    have hw := wrap_more hlt hok
    have ea := elem_at strC_len x.names.rep x.names.l .i64 pre.length s (by rw [hl]; simp)
    have hle : H'.low ≤ H'.next := by omega
    simp [Sl.enc, e0, e20, e21, e22, hlt', ea]
    cases hf : (findS l.l s).2 with
    | false =>
      simp [strC, e0, e5, c1, findD, schemaC, setAll_full, hle, hf]
      refine h2 (by rw [hl]; simp [hf]) _ _ (H'.next + 1) (by simp) (by omega) (by simp) (by simp [hlow])
    | true =>
      simp [strC, e0, e5, e20, e21, e22, f12, f13, f14, c1, findD, schemaC, setAll_full, hle, hf, Sl.enc, hw, hlow]
      refine ⟨suf.length, by omega, pre ++ [s], suf, by simp [hl], rfl, by simp, by omega, by omega, fun n hn2 => ?_⟩
      rcases List.mem_append.1 hn2 with h | h
      · exact List.all_eq_true.1 hn n h
      · simp at h; subst h; exact hf
theorem check_names_run (l : Sl TSchema) (q : TQuery) (H : Heap) : Run tab (.fn n_q56) [l.enc schemaC, .agg (queryC q)] H (errD (namesR l.l 0 q.items.l)) H := by
  refine cK.run (cK_fn o_q56 t_q56 (Nat.le_of_ble_eq_true rfl) (by decide) ?_)
  have hin := names_in l
  simp only [Sl.enc] at hin
  simp [queryC, Sl.enc]
  refine LR_rule (WR_mono _) (fun j E H' => ∃ pre suf, q.items.l = pre ++ suf ∧ j = suf.length ∧ E 0 = l.enc schemaC ∧ E 12 = q.items.enc itemC ∧ E 13 = i64D q.items.l.length ∧ E 14 = i64D pre.length ∧
    H'.low = H.next ∧ H.next ≤ H'.next ∧ namesR l.l 0 q.items.l = namesR l.l pre.length suf) ?_ (j := q.items.l.length) ⟨[], q.items.l, by simp, rfl, by simp [Sl.enc], by simp [Sl.enc], by simp, by simp, by simp, by simp, rfl⟩
  rintro j E H' ⟨pre, suf, hl, rfl, e0, e12, e13, e14, hlow, hnx, hn⟩
  have hok := q.items.ok
  cases suf with
  | nil =>
    simp at hl
    have hlt' : ((pre.length : Int) < (q.items.l.length : Int)) = False := by simp [hl]
    rw [hn]
    simp [e13, e14, hlt', hlow, namesR, errD]
  | cons x suf =>
    have hlt : pre.length < q.items.l.length := by simp [hl]
    have hlt' : ((pre.length : Int) < (q.items.l.length : Int)) = True := by simp; omega
    have hw := wrap_more hlt hok
    have ea := elem_at itemC_len q.items.rep q.items.l .i64 pre.length x (by rw [hl]; simp)
    have hle : H'.low ≤ H'.next := by omega
    have hx1 : (itemC x)[1]? = some (x.names.enc strC) := rfl
    simp only [Sl.enc] at e0 e12
    simp [Sl.enc, e0, e12, e13, e14, hlt', ea, load_elem _ _ _ _ (itemC_len x), setAll_item, hle, hx1]
    refine hin x pre.length H _ _ (fun hf E H'' f0 f12 f13 f14 hlow' hnx' => ?_) (fun hf E H'' r f4 hr hg hlow' => ?_) _ (by simp [e0]) (by simp) (by simp) (by simp) (by simp) (by simp [hlow]) (by simp; omega)
    · simp [e12, e13, e14] at f12 f13 f14
      simp [f0, f12, f13, f14, hw]
      refine ⟨suf.length, by omega, pre ++ [x], suf, by simp [hl], rfl, by simp, hlow', hnx', ?_⟩
      rw [hn, namesR, if_pos hf]
      simp
    · rw [hn, namesR, if_neg (by rw [hf]; decide)]
      simp [f4]
      rw [z_q56, err_fin hlow' hr hg]
      exact ⟨rfl, rfl⟩
theorem slice_to (s : Nat) (rep : Option (Option Nat)) (n h : Nat) (cells : List D) (h1 : 1 ≤ h) (h2 : h ≤ n) : ∃ c, sliceX s (slD rep n cells) none (some (.v (.int .i64 (h : Nat)))) none false = some (slD (some c) h (cells.take (h * s))) := by
  obtain ⟨c, hc⟩ : ∃ c, slD rep n cells = .sl n cells c := by
    cases rep with
    | none => cases n with
      | zero => omega
      | succ n => exact ⟨_, rfl⟩
    | some c => exact ⟨c, rfl⟩
  refine ⟨c.map (· - 0), ?_⟩
  rw [hc, slD_some]
  have hb : boundX (some (.v (.int .i64 (h : Nat)))) n n = some h := by
    rw [bound_some, if_pos ⟨by omega, by omega⟩, Int.toNat_natCast]
  simp only [sliceX, bound_none, hb]
  simp
theorem check_by_run (l : Sl TSchema) (q : TQuery) (hq : ∀ x ∈ q.items.l, x.names.l ≠ []) (h0 : q.items.l ≠ []) (H : Heap) : Run tab (.fn n_q50) [l.enc schemaC, .agg (queryC q)] H (errD (byR l.l q.by_ q.items.l)) H := by
  refine cK.run (cK_fn o_q50 t_q50 (Nat.le_of_ble_eq_true rfl) (by decide) ?_)
  have cF := fun names H => (check_field_run l names q.by_ H).cK
  simp only [Sl.enc] at cF
  by_cases hb : q.by_ = ⟨#[]⟩
  · have : byR l.l q.by_ q.items.l = none := by unfold byR; rw [if_pos (show q.by_ = emptyS from hb)]
    rw [this]
    simp [queryC, Sl.enc, hb, errD]
  have hR : byR l.l q.by_ q.items.l = byL l.l q.by_ (firstK l.l q.by_ q.items.l) 0 q.items.l := by unfold byR; rw [if_neg (show ¬ q.by_ = emptyS from hb)]
  obtain ⟨x0, r0, hx0⟩ : ∃ x r, q.items.l = x :: r := by
    cases h : q.items.l with
    | nil => exact absurd h h0
    | cons x r => exact ⟨x, r, rfl⟩
  obtain ⟨n0, m0, hn0⟩ : ∃ n m, x0.names.l = n :: m := by
    cases h : x0.names.l with
    | nil => exact absurd h (hq x0 (by rw [hx0]; simp))
    | cons x r => exact ⟨x, r, rfl⟩
  have hfK : firstK l.l q.by_ q.items.l = fieldK l.l [n0] q.by_ := by
    rw [hx0]
    show fieldK l.l (x0.names.l.take 1) q.by_ = _
    rw [hn0]
    rfl
  have ea0 := elem_at itemC_len q.items.rep q.items.l .i64 0 x0 (by rw [hx0]; rfl)
  have hx1 : ∀ x : TItem, (itemC x)[1]? = some (slD x.names.rep x.names.l.length (x.names.l.flatMap strC)) := fun _ => rfl
  obtain ⟨c, hs⟩ := slice_to 1 x0.names.rep x0.names.l.length 1 (x0.names.l.flatMap strC) (Nat.le_refl 1) (by rw [hn0]; simp)
  have ht : (x0.names.l.flatMap strC).take (1 * 1) = [strD n0] := by rw [hn0]; rfl
  rw [ht] at hs
  have cF0 := fun H => cF ⟨some c, [n0], by simp [big]⟩ H
  simp [strC] at cF0
  simp at ea0 hs
  rw [hR, hfK]
  have hx2 : ∀ (x : TItem) (r : List D), (itemC x ++ r)[1]? = some (slD x.names.rep x.names.l.length (x.names.l.flatMap strC)) := fun _ _ => rfl
  simp [queryC, Sl.enc, hb, ea0, hx2, hs, cF0]
  refine LR_rule (WR_mono _) (fun j E H' => ∃ pre suf, q.items.l = pre ++ suf ∧ j = suf.length ∧ E 0 = l.enc schemaC ∧ E 3 = .rf H.next 0 ∧ E 5 = i64D (fieldK l.l [n0] q.by_) ∧ E 23 = q.items.enc itemC ∧ E 24 = i64D q.items.l.length ∧ E 25 = i64D pre.length ∧ H'.get H.next = some (.cells (queryC q)) ∧
    H'.low = H.next ∧ H.next < H'.next ∧ byL l.l q.by_ (fieldK l.l [n0] q.by_) 0 q.items.l = byL l.l q.by_ (fieldK l.l [n0] q.by_) pre.length suf) ?_ (j := q.items.l.length) ⟨[], q.items.l, by simp, rfl, by simp [Sl.enc], by simp, by simp, by simp [Sl.enc], by simp, by simp, by simp [queryC, Sl.enc], by simp, by simp, rfl⟩
  rintro j E H' ⟨pre, suf, hl, rfl, e0, e3, e5, e23, e24, e25, hg, hlow, hnx, hn⟩
  have hok := q.items.ok
  cases suf with
  | nil =>
    simp at hl
    have hlt' : ((pre.length : Int) < (q.items.l.length : Int)) = False := by simp [hl]
    rw [hn]
    simp [e24, e25, hlt', hlow, byL, errD]
  | cons x suf =>
    have hlt : pre.length < q.items.l.length := by simp [hl]
    have hlt' : ((pre.length : Int) < (q.items.l.length : Int)) = True := by simp; omega
    have hw := wrap_more hlt hok
    have ea := elem_at itemC_len q.items.rep q.items.l .i64 pre.length x (by rw [hl]; simp)
    have hle : H'.low ≤ H'.next := by omega
    have hne : (H.next = H'.next) = False := by simp; omega
    have cX := fun H => cF x.names H
    simp only [queryC, Sl.enc] at hg
    simp only [Sl.enc] at e0 e23
    simp [Sl.enc, e0, e3, e5, e23, e24, e25, hlt', ea, load_elem _ _ _ _ (itemC_len x), setAll_item, hle, hx1, hg, hne, cX]
    by_cases k1 : fieldK l.l x.names.l q.by_ = 0
    · rw [hn, byL, if_pos (.inl k1)]
      simp [k1, e25]
      rw [z_q50, err_fin (i := (pre.length : Nat)) (e := 91) (by simp [hlow]) (r := H'.next + 1) (by omega) (by simp)]
      exact ⟨rfl, rfl⟩
    · by_cases k2 : fieldK l.l x.names.l q.by_ = fieldK l.l [n0] q.by_
      · have k1' : ¬ fieldK l.l [n0] q.by_ = 0 := by rw [← k2]; exact k1
        simp [k2, k1', e0, e3, e5, e23, e24, e25, hw, hg, hne, hlow, queryC, Sl.enc]
        refine ⟨suf.length, by omega, pre ++ [x], suf, by simp [hl], rfl, by simp, by omega, ?_⟩
        rw [hn, byL, if_neg (by rintro (h | h); exact k1 h; exact h k2)]
        simp
      · rw [hn, byL, if_pos (.inr k2)]
        simp [k1, k2, e5, e25]
        rw [z_q50, err_fin (i := (pre.length : Nat)) (e := 91) (by simp [hlow]) (r := H'.next + 1) (by omega) (by simp)]
        exact ⟨rfl, rfl⟩
theorem check_kinds_run (l : Sl TSchema) (q : TQuery) (H : Heap) : Run tab (.fn n_q55) [l.enc schemaC, .agg (queryC q)] H (errD (kindsR l.l q.items.l 0 q.preds.l)) H := by
  refine cK.run (cK_fn o_q55 t_q55 (Nat.le_of_ble_eq_true rfl) (by decide) ?_)
  have cK1 := fun x H => (check_Kind_run l q x H).cK
  simp only [queryC, Sl.enc] at cK1
  simp [queryC, Sl.enc]
  refine LR_rule (WR_mono _) (fun j E H' => ∃ pre suf, q.preds.l = pre ++ suf ∧ j = suf.length ∧ E 0 = l.enc schemaC ∧ E 3 = .rf H.next 0 ∧ E 10 = q.preds.enc predC ∧ E 11 = i64D q.preds.l.length ∧ E 12 = i64D pre.length ∧ H'.get H.next = some (.cells (queryC q)) ∧
    H'.low = H.next ∧ H.next < H'.next ∧ kindsR l.l q.items.l 0 q.preds.l = kindsR l.l q.items.l pre.length suf) ?_ (j := q.preds.l.length) ⟨[], q.preds.l, by simp, rfl, by simp [Sl.enc], by simp, by simp [Sl.enc], by simp, by simp, by simp [queryC, Sl.enc], by simp, by simp, rfl⟩
  rintro j E H' ⟨pre, suf, hl, rfl, e0, e3, e10, e11, e12, hg, hlow, hnx, hn⟩
  have hok := q.preds.ok
  cases suf with
  | nil =>
    simp at hl
    have hlt' : ((pre.length : Int) < (q.preds.l.length : Int)) = False := by simp [hl]
    rw [hn]
    simp [e11, e12, hlt', hlow, kindsR, errD]
  | cons x suf =>
    have hlt : pre.length < q.preds.l.length := by simp [hl]
    have hlt' : ((pre.length : Int) < (q.preds.l.length : Int)) = True := by simp; omega
    have hw := wrap_more hlt hok
    have ea := elem_at predC_len q.preds.rep q.preds.l .i64 pre.length x (by rw [hl]; simp)
    have hle : H'.low ≤ H'.next := by omega
    have hne : (H.next = H'.next) = False := by simp; omega
    simp only [Sl.enc] at e0 e10
    simp only [queryC, Sl.enc] at hg
    simp [Sl.enc, e0, e3, e10, e11, e12, hlt', ea, load_elem _ _ _ _ (predC_len x), setAll_full, hle, hg, hne, cK1]
    have stop : (kindS l.l q.items.l x.L = 0 ∨ kindS l.l q.items.l x.L ≠ kindS l.l q.items.l x.R ∨ (kindS l.l q.items.l x.L = 3 ∧ 2 < x.cmp)) → kindsR l.l q.items.l 0 q.preds.l = some (((pre.length : Nat) : Int), 42) := fun h => by rw [hn, kindsR, if_pos h]
    by_cases k1 : kindS l.l q.items.l x.L = 0
    · rw [stop (.inl k1)]
      simp [k1, e12]
      rw [z_q55, err_fin (i := (pre.length : Nat)) (e := 42) (by simp [hlow]) (r := H'.next + 1) (by omega) (by simp)]
      exact ⟨rfl, rfl⟩
    · by_cases k2 : kindS l.l q.items.l x.L = kindS l.l q.items.l x.R
      · by_cases k3 : kindS l.l q.items.l x.L = 3
        · by_cases k4 : 2 < x.cmp
          · rw [stop (.inr (.inr ⟨k3, k4⟩))]
            rw [k3] at k2
            simp [k3, ← k2, k4, e12]
            rw [z_q55, err_fin (i := (pre.length : Nat)) (e := 42) (by simp [hlow]) (r := H'.next + 1) (by omega) (by simp)]
            exact ⟨rfl, rfl⟩
          · have k2' := k2
            rw [k3] at k2'
            simp [k3, ← k2', k4, e0, e3, e10, e11, e12, hw, hg, hne, hlow, queryC, Sl.enc]
            refine ⟨suf.length, by omega, pre ++ [x], suf, by simp [hl], rfl, by simp, by omega, ?_⟩
            rw [hn, kindsR, if_neg (by rintro (h | h | h); exact k1 h; exact h k2; exact k4 h.2)]
            simp
        · have k1' : ¬ kindS l.l q.items.l x.R = 0 := by rw [← k2]; exact k1
          have k3' : ¬ kindS l.l q.items.l x.R = 3 := by rw [← k2]; exact k3
          simp [k2, k1', k3', e0, e3, e10, e11, e12, hw, hg, hne, hlow, queryC, Sl.enc]
          refine ⟨suf.length, by omega, pre ++ [x], suf, by simp [hl], rfl, by simp, by omega, ?_⟩
          rw [hn, kindsR, if_neg (by rintro (h | h | h); exact k1 h; exact h k2; exact k3 h.1)]
          simp
      · rw [stop (.inr (.inl k2))]
        simp [k1, k2, e12]
        rw [z_q55, err_fin (i := (pre.length : Nat)) (e := 42) (by simp [hlow]) (r := H'.next + 1) (by omega) (by simp)]
        exact ⟨rfl, rfl⟩
theorem IndexFunc_int_run (p : Int → Bool) (rep : Option (Option Nat)) (l : List Int) (hl : l.length ≤ big) (g : FuncId) (first caps : List D) (H : Heap)
    (hp : ∀ x ∈ l, Run tab (.fn g) (first ++ i64D x :: caps) (low0 H) (bD (p x)) (low0 H)) :
    Run tab (.fn n_q86) [slD rep l.length (l.flatMap intC), .fn (.func g) first caps] H (i64D (idx p l)) H := by
  refine cK.run (cK_fn o_q86 t_q86 (Nat.le_of_ble_eq_true rfl) (by decide) ?_)
  simp
  refine LR_rule (WR_mono _) (fun j E H' => H' = low0 H ∧ ∃ pre suf, l = pre ++ suf ∧ j = suf.length ∧ E 0 = slD rep l.length (l.flatMap intC) ∧ E 1 = .fn (.func g) first caps ∧ E 7 = i64D l.length ∧ E 8 = i64D pre.length ∧ (∀ x ∈ pre, p x = false)) ?_
    (j := l.length) ⟨rfl, [], l, by simp⟩
  rintro j E H' ⟨rfl, pre, suf, h0, rfl, e0, e1, e7, e8, hpre⟩
  cases suf with
  | nil =>
    simp at h0
    subst h0
    simp [e0, e1, e7, e8, idx_none hpre]
  | cons x suf =>
    have hlt : pre.length < l.length := by simp [h0]
    have hlt' : ((pre.length : Int) < (l.length : Int)) = True := by simp; omega
    have hP := (hp x (by rw [h0]; simp)).cK
    have ea := elem_at intC_len rep l .i64 pre.length x (by rw [h0]; simp)
    simp [e0, e1, e7, e8, hlt', ea]
    simp [intC, hP, wrap_len hlt hl]
    refine gK_of (fun hx => ?_) (fun hx => ?_)
    · simp [e8, h0, idx_some pre x suf hpre hx]
    · simp [e0, e1, e7, e8, wrap_len hlt hl]
      exact ⟨suf.length, by omega, pre ++ [x], suf, by simp [h0], rfl, by simp, fun y hy => by simp at hy; rcases hy with hy | rfl; exact hpre y hy; exact hx⟩
theorem ContainsFunc_int_run (p : Int → Bool) (rep : Option (Option Nat)) (l : List Int) (hl : l.length ≤ big) (g : FuncId) (first caps : List D) (H : Heap)
    (hp : ∀ x ∈ l, Run tab (.fn g) (first ++ i64D x :: caps) (low0 (low0 H)) (bD (p x)) (low0 (low0 H))) :
    Run tab (.fn n_q82) [slD rep l.length (l.flatMap intC), .fn (.func g) first caps] H (bD (l.any p)) H := by
  refine cK.run (cK_fn o_q82 t_q82 (Nat.le_of_ble_eq_true rfl) (by decide) ?_)
  have hI := (IndexFunc_int_run p rep l hl g first caps (low0 H) hp).cK
  simp [-List.any_eq_true, hI]
  rcases idx_cases p l with ⟨h1, h2, -⟩ | ⟨pre, x, suf, h1, -, h3, h4, -⟩
  · have : l.any p = false := by rw [List.any_eq_false]; intro x hx; simp [h2 x hx]
    rw [h1, this]
    rfl
  · have : l.any p = true := by rw [List.any_eq_true]; exact ⟨x, by rw [h1]; simp, h3⟩
    rw [h4, this]
    simp
theorem nodup_bound : ∀ (n : Nat) (l : List Int), l.Nodup → (∀ k ∈ l, 0 ≤ k ∧ k < (n : Int)) → l.length ≤ n
  | 0, l, _, h => by
    cases l with
    | nil => simp
    | cons a l => have := h a (List.mem_cons_self ..); omega
  | n + 1, l, hn, h => by
    have ih := nodup_bound n (l.erase (n : Int)) (hn.erase _) fun k hk => by
      have h1 := (hn.mem_erase_iff).1 hk
      have h2 := h k h1.2
      have h3 := h1.1
      omega
    rw [List.length_erase] at ih
    split at ih <;> omega
theorem placesS_le (q : List TItem) (vs : List ByteArray) : (placesS q vs).length ≤ q.length := by
  obtain ⟨h1, h2⟩ := addPs_ok q vs [] (by simp) (by simp)
  exact nodup_bound q.length _ h1 h2
theorem varsS_in (q : List TItem) (xs : List TExpr) : ∀ k ∈ varsS q xs, 0 ≤ k ∧ k < q.length := by
  obtain ⟨h1, h2⟩ := addPs_ok q (eachVs xs) [] (by simp) (by simp)
  intro k hk
  exact h2 k ((sortI_perm _).mem_iff.1 hk)
theorem varsS_le (q : List TItem) (xs : List TExpr) : (varsS q xs).length ≤ q.length := by
  unfold varsS
  rw [(sortI_perm _).length_eq]
  exact placesS_le q _
theorem check_nots_1_run (q : TQuery) (n : Int) (hn : 0 ≤ n ∧ n < q.items.l.length) (H : Heap) {r : Nat} (h : H.get r = some (.cells (queryC q))) (hr : r < H.next) : Run tab (.fn n_q58) [i64D n, .rf r 0] H (bD (notAt q.items.l n)) H := by
  refine cK.run (cK_fn o_q58 t_q58 (Nat.le_of_ble_eq_true rfl) (by decide) ?_)
  obtain ⟨k, rfl⟩ : ∃ k : Nat, n = k := ⟨n.toNat, by omega⟩
  have hk : k < q.items.l.length := by omega
  obtain ⟨x, hx⟩ : ∃ x, q.items.l[k]? = some x := ⟨q.items.l[k], by simp [hk]⟩
  have ea := elem_at itemC_len q.items.rep q.items.l .i64 k x hx
  have hne : notAt q.items.l (k : Int) = x.not := by unfold notAt; simp [hx]
  have hi : ∀ r : List D, (itemC x ++ r)[0]? = some (bD x.not) := fun _ => rfl
  simp only [queryC, Sl.enc] at h
  rw [hne]
  simp [h, ea]
  simp [itemC]
theorem two14 (x y : TExpr) : setAll (setAll [(.v (.int .i64 0)), (.v (.int .i64 0)), (.v (.int .i64 0)), (.v (.string ⟨#[]⟩)), (.v (.string ⟨#[]⟩)), (.v (.string ⟨#[]⟩)), (.v (.slice none 0 0)), (.v (.int .i64 0)), (.v (.int .i64 0)), (.v (.int .i64 0)), (.v (.string ⟨#[]⟩)), (.v (.string ⟨#[]⟩)), (.v (.string ⟨#[]⟩)), (.v (.slice none 0 0))] 0 (exprC x)) 7 (exprC y) = exprC x ++ exprC y := by
  rw [exprC_eq x, exprC_eq y]
  rfl
theorem two14_len (x : TExpr) : (setAll [(.v (.int .i64 0)), (.v (.int .i64 0)), (.v (.int .i64 0)), (.v (.string ⟨#[]⟩)), (.v (.string ⟨#[]⟩)), (.v (.string ⟨#[]⟩)), (.v (.slice none 0 0)), (.v (.int .i64 0)), (.v (.int .i64 0)), (.v (.int .i64 0)), (.v (.string ⟨#[]⟩)), (.v (.string ⟨#[]⟩)), (.v (.string ⟨#[]⟩)), (.v (.slice none 0 0))] 0 (exprC x)).length = 14 := by
  rw [exprC_eq x]
  rfl
theorem check_nots_run (l : Sl TSchema) (q : TQuery) (hq : q.items.l.length ≤ 1000000) (H : Heap) : Run tab (.fn n_q57) [l.enc schemaC, .agg (queryC q)] H (errD (notsR q.items.l 0 q.preds.l)) H := by
  refine cK.run (cK_fn o_q57 t_q57 (Nat.le_of_ble_eq_true rfl) (by decide) ?_)
  simp [queryC, Sl.enc]
  refine LR_rule (WR_mono _) (fun j E H' => ∃ pre suf, q.preds.l = pre ++ suf ∧ j = suf.length ∧ E 3 = .rf H.next 0 ∧ E 9 = q.preds.enc predC ∧ E 10 = i64D q.preds.l.length ∧ E 11 = i64D pre.length ∧ H'.get H.next = some (.cells (queryC q)) ∧
    H'.low = H.next ∧ H.next < H'.next ∧ notsR q.items.l 0 q.preds.l = notsR q.items.l pre.length suf) ?_ (j := q.preds.l.length) ⟨[], q.preds.l, by simp, rfl, by simp, by simp [Sl.enc], by simp, by simp, by simp [queryC, Sl.enc], by simp, by simp, rfl⟩
  rintro j E H' ⟨pre, suf, hl, rfl, e3, e9, e10, e11, hg, hlow, hnx, hn⟩
  have hok := q.preds.ok
  cases suf with
  | nil =>
    simp at hl
    have hlt' : ((pre.length : Int) < (q.preds.l.length : Int)) = False := by simp [hl]
    rw [hn]
    simp [e10, e11, hlt', hlow, notsR, errD]
  | cons x suf =>
    have hlt : pre.length < q.preds.l.length := by simp [hl]
    have hlt' : ((pre.length : Int) < (q.preds.l.length : Int)) = True := by simp; omega
    have hw := wrap_more hlt hok
    have ea := elem_at predC_len q.preds.rep q.preds.l .i64 pre.length x (by rw [hl]; simp)
    have hle : H'.low ≤ H'.next := by omega
    have hne : (H.next = H'.next) = False := by simp; omega
    have hne1 : (H.next = H'.next + 1) = False := by simp; omega
    let H2 := (H'.add (.cells (predC x))).add (.cells (exprC x.L ++ exprC x.R))
    have hv := (check_vars_run q [x.L, x.R] ⟨x.okL, x.okR, trivial⟩ (by simp [big]) H2 (rl := H'.next + 1) (some 2) (by simp [H2]) (by simp [H2]) (Nat.le_trans (placesS_le _ _) hq)).cK
    simp [H2] at hv
    have hg' := hg
    simp only [Sl.enc] at e9
    simp only [queryC, Sl.enc] at hg' hv
    simp [Sl.enc, e3, e9, e10, e11, hlt', ea, load_elem _ _ _ _ (predC_len x), setAll_full, hle, hg', hne, two14, two14_len, hv]
    generalize hV : varsS q.items.l [x.L, x.R] = V
    have hVl : V.length ≤ 1000000 := by rw [← hV]; exact Nat.le_trans (varsS_le _ _) hq
    have hVi : ∀ k ∈ V, 0 ≤ k ∧ k < q.items.l.length := by rw [← hV]; exact varsS_in q.items.l [x.L, x.R]
    simp [intsD]
    by_cases h1 : 1 < V.length
    · have h1' : (1 : Int) < V.length := by omega
      obtain ⟨c, hs⟩ := slice_to 1 none V.length (V.length - 1) (V.flatMap intC) (by omega) (by omega)
      have hfm : ∀ l : List Int, l.flatMap intC = l.map fun n => .v (.int .i64 n) := fun l => by
        induction l with
        | nil => rfl
        | cons a l ih => simp [List.flatMap_cons, ih, intC]
      have ht : (V.flatMap intC).take ((V.length - 1) * 1) = V.dropLast.flatMap intC := by
        rw [hfm, hfm, Nat.mul_one, List.dropLast_eq_take, List.map_take]
      have hdl : V.dropLast.length = V.length - 1 := List.length_dropLast
      rw [ht, ← hdl] at hs
      have hw1 : IntKind.i64.wrap ((V.length : Int) - 1) = ((V.dropLast.length : Nat) : Int) := by
        rw [hdl, wrap64 (by omega) (by omega)]
        omega
      have hc := (ContainsFunc_int_run (notAt q.items.l) (some c) V.dropLast (by rw [hdl]; exact Nat.le_trans (Nat.sub_le _ _) (Nat.le_trans hVl (by decide))) n_q58 [] [.rf H.next 0] H2 (fun k hk => check_nots_1_run q k (hVi k (List.mem_of_mem_take (List.dropLast_eq_take ▸ hk))) _ (by simp [H2, hne, hne1, hg]) (by simp [H2]; omega))).cK
      simp only [H2] at hc
      rw [slD_some] at hs
      rw [slD_some] at hc
      cases ha : V.dropLast.any (notAt q.items.l) with
      | true =>
        rw [ha] at hc
        simp [-List.length_dropLast, h1', e3, e11]
        simp [-List.length_dropLast, intsD, hw1, hs, hc, e11]
        rw [hn, notsR, hV, if_pos ⟨h1, ha⟩]
        rw [z_q57, err_fin (i := (pre.length : Nat)) (e := 91) (by simp [hlow]) (r := H'.next + 2) (by omega) (by simp)]
        exact ⟨rfl, rfl⟩
      | false =>
        rw [ha] at hc
        simp [-List.length_dropLast, h1', e3, e11]
        simp [-List.length_dropLast, intsD, hw1, hs, hc, e3, e9, e10, e11, hw, hg', hne, hne1, hlow, queryC, Sl.enc]
        refine ⟨suf.length, by omega, pre ++ [x], suf, by simp [hl], rfl, by simp, by omega, ?_⟩
        rw [hn, notsR, hV, if_neg (by rw [ha]; simp)]
        simp
    · have h1' : ¬ (1 : Int) < V.length := by omega
      simp [h1', e3, e9, e10, e11, hw, hg', hne, hne1, hlow, queryC, Sl.enc]
      refine ⟨suf.length, by omega, pre ++ [x], suf, by simp [hl], rfl, by simp, by omega, ?_⟩
      rw [hn, notsR, hV, if_neg (by simp [h1])]
      simp
theorem As_nil (x : D) (H : Heap) (k : D → Heap → Prop) : cK tab (.fn n_q66) [.v .nilIface, x] H k = k (bD false) H :=
  (cK.run (cK_orc o_q66 ⟨(bD false, H), rfl, rfl, rfl⟩)).cK k
theorem As_hit (c : List D) (d : D) (r : Nat) (H : Heap) (hg : H.get r = some (.cells [d])) (k : D → Heap → Prop) : cK tab (.fn n_q66) [.ifc 106 (.cp c), .ifc 110 (.rf r 0)] H k = k (bD true) (H.set r (.cells [.cp c])) :=
  (cK.run (cK_orc o_q66 ⟨(bD true, H.set r (.cells [.cp c])), by simp [orcAs, hg], rfl, rfl⟩)).cK k
theorem As_num (i e : Int) (d : D) (r : Nat) (H : Heap) (hg : H.get r = some (.cells [d])) (k : D → Heap → Prop) : cK tab (.fn n_q66) [.ifc 106 (.cp [i64D i, .ifc 51 (i64D e)]), .ifc 111 (.rf r 0)] H k = k (bD true) (H.set r (.cells [i64D e])) :=
  (cK.run (cK_orc o_q66 ⟨(bD true, H.set r (.cells [i64D e])), by simp [orcAs, hg], rfl, rfl⟩)).cK k
theorem rightItem_names {x : TItem} {f : Bool} (h : rightItem x f = true) : x.names.l ≠ [] := by
  intro h0
  unfold rightItem at h
  rw [if_pos (.inr (.inl (by rw [h0]; decide)))] at h
  cases h
theorem itemsOk_all : ∀ (suf pre : List TItem), itemsOk pre suf = true → ∀ x ∈ suf, ∃ f, rightItem x f = true
  | [], _, _, x, h => by cases h
  | y :: suf, pre, h, x, hx => by
    simp only [itemsOk, Bool.and_eq_true] at h
    rcases List.mem_cons.1 hx with rfl | hx
    · exact ⟨_, h.1.1⟩
    · exact itemsOk_all suf _ h.2 x hx
theorem rightP_facts {q : TQuery} (h : rightP q = true) : (∀ x ∈ q.items.l, x.names.l ≠ []) ∧ q.items.l ≠ [] ∧ q.items.l.length ≤ 6 := by
  unfold rightP at h
  simp only [Bool.and_eq_true, Bool.not_eq_true', Bool.or_eq_false_iff, decide_eq_false_iff_not] at h
  obtain ⟨⟨⟨⟨h1, -⟩, ⟨h2, h3⟩, -⟩, -⟩, -⟩ := h
  refine ⟨fun x hx => ?_, fun e => h2 (by rw [e]; rfl), by omega⟩
  obtain ⟨f, hf⟩ := itemsOk_all q.items.l [] h1 x hx
  exact rightItem_names hf
def pairD (p : Int × Int) : D := .tup [i64D p.1, i64D p.2]
theorem Check_loop (l : Sl TSchema) (q : TQuery) (fl : List (Nat × Option (Int × Int))) (hlen : fl.length = 4) (hrun : ∀ p ∈ fl, ∀ H, Run tab (.fn p.1) [l.enc schemaC, .agg (queryC q)] H (errD p.2) H) (H : Heap) (Q : PostX)
    (h1 : (∀ p ∈ fl, p.2 = none) → ∀ E H', H'.low = H.next → Q (.exit 0) E H')
    (h2 : ∀ i e, firstE (fl.map (·.2)) = (e, i) → e ≠ 0 → ∀ E H', E 4 = i64D e → E 5 = i64D i → H'.low = H.next → Q .ret E H') (hz : ∀ p ∈ fl, ∀ i e, p.2 = some (i, e) → e ≠ 0) (E : Fr) (H1 : Heap)
    (e0 : E 0 = l.enc schemaC) (e3 : E 3 = .rf H.next 0) (e14 : E 14 = .rs (H.next + 1) 0 4 (some 4) 1) (e15 : E 15 = i64D 4) (e16 : E 16 = i64D 0)
    (g0 : H1.get H.next = some (.cells (queryC q))) (g1 : H1.get (H.next + 1) = some (.cells (fl.map fun p => .fn (.func p.1) [] []))) (g2 : H1.low = H.next) (g3 : H.next + 2 ≤ H1.next) :
    LR (WR 38 tab none F_q47.l12) E H1 Q := by
  refine LR_rule (WR_mono _) (fun j E H' => ∃ pre suf, fl = pre ++ suf ∧ j = suf.length ∧ E 0 = l.enc schemaC ∧ E 3 = .rf H.next 0 ∧ E 14 = .rs (H.next + 1) 0 4 (some 4) 1 ∧ E 15 = i64D 4 ∧ E 16 = i64D pre.length ∧
    H'.get H.next = some (.cells (queryC q)) ∧ H'.get (H.next + 1) = some (.cells (fl.map fun p => .fn (.func p.1) [] [])) ∧ H'.low = H.next ∧ H.next + 2 ≤ H'.next ∧ ∀ p ∈ pre, p.2 = none) ?_ (j := fl.length) ⟨[], fl, by simp, rfl, e0, e3, e14, e15, e16, g0, g1, g2, g3, by simp⟩
  rintro j E H' ⟨pre, suf, hl, rfl, e0, e3, e14, e15, e16, hg, hc, hlow, hnx, hn⟩
  have hpl : pre.length + suf.length = 4 := by rw [← hlen, hl]; simp
  cases suf with
  | nil =>
    simp at hl hpl
    simp [e15, e16, hpl]
    exact h1 (by rw [hl]; exact hn) _ _ hlow
  | cons p suf =>
    simp at hpl
    have hlt' : ((pre.length : Int) < 4) = True := by simp; omega
    have hlt2 : (pre.length < 4) = True := by simp; omega
    have hw : IntKind.i64.wrap ((pre.length : Int) + 1) = (pre.length : Int) + 1 := wrap64 (by omega) (by omega)
    have hC : (fl.map fun p : Nat × Option (Int × Int) => D.fn (.func p.1) [] [])[pre.length]? = some (.fn (.func p.1) [] []) := by rw [hl]; simp
    generalize (fl.map fun p : Nat × Option (Int × Int) => D.fn (.func p.1) [] []) = C at hc hC
    have hp := fun H => (hrun p (by rw [hl]; simp) H).cK
    have n0 : ∀ k, (H.next = H'.next + k) = False := fun k => by simp; omega
    have n00 : (H.next = H'.next) = False := by simp; omega
    have n1 : ∀ k, (H.next + 1 = H'.next + k) = False := fun k => by simp; omega
    have n10 : (H.next + 1 = H'.next) = False := by simp; omega
    have hq1 : (H'.next < H.next) = False := by simp; omega
    have hq2 : (H'.next + 1 < H.next) = False := by simp; omega
    have hle : H'.low ≤ H'.next := by omega
    have hle1 : H'.low ≤ H'.next + 1 := by omega
    simp only [queryC, Sl.enc] at hg hp e0
    obtain ⟨f, o⟩ := p
    cases o with
    | none =>
      simp only [errD] at hp
      simp [e0, e3, e14, e15, e16, hlt', hlt2, hc, hC, hg, n0, n00, n1, n10, hp, As_nil, hw]
      refine ⟨suf.length, by omega, pre ++ [(f, none)], suf, by simp [hl], rfl, by simp [Sl.enc], by simp, by simp [queryC, Sl.enc], hlow, by omega, fun p hp => ?_⟩
      intro h
      rcases List.mem_append.1 h with h | h
      · exact hn _ h
      · simp at h; exact h.2
    | some v =>
      obtain ⟨i, e⟩ := v
      simp only [errD] at hp
      simp [e0, e3, e14, e15, e16, hlt', hlt2, hc, hC, hg, n0, n00, n1, n10, hp, hw]
      have hA1 := As_hit [i64D i, .ifc 51 (i64D e)] (.v (.pointer none)) H'.next ((H'.add (.cells [.v (.pointer none)])).add (.cells [i64D 0])) (by simp)
      have hA2 := As_num i e (i64D 0) (H'.next + 1) ((H'.add (.cells [.cp [i64D i, .ifc 51 (i64D e)]])).add (.cells [i64D 0])) (by simp)
      simp [hle, hle1] at hA1 hA2
      have hf : firstE (fl.map (·.2)) = (e, i) := by
        have : ∀ a : List (Nat × Option (Int × Int)), (∀ p ∈ a, p.2 = none) → ∀ r, firstE (a.map (·.2) ++ r) = firstE r := fun a => by
          induction a with
          | nil => intro _ r; rfl
          | cons p a ih =>
            intro h r
            have h1 := h p (List.mem_cons_self ..)
            simp only [List.map_cons, List.cons_append, h1, firstE]
            exact ih (fun p hp => h p (List.mem_cons_of_mem _ hp)) r
        rw [hl, List.map_append, this pre hn]
        rfl
      simp [hA1, hA2, hle, hle1]
      exact h2 i e hf (hz (f, some (i, e)) (by rw [hl]; simp) i e rfl) _ _ (by simp) (by simp) (by simp [hlow])
theorem check_Check_run (l : Sl TSchema) (q : TQuery) (H : Heap) : Run tab (.fn n_q47) [l.enc schemaC, .agg (queryC q)] H (pairD (checkR l.l q)) H := by
  refine cK.run (cK_fn o_q47 t_q47 (Nat.le_of_ble_eq_true rfl) (by decide) ?_)
  have hR := fun H => (tree_Right_run q H).cK
  have hq5 : (queryC q).take 5 = queryC q := List.take_of_length_le (by rw [queryC_len]; exact Nat.le_refl _)
  cases h : rightP q with
  | false =>
    have : checkR l.l q = (1, 0) := by unfold checkR; rw [if_neg (by rw [h]; decide)]
    rw [this]
    simp [hq5, hR, h, pairD]
  | true =>
    obtain ⟨f1, f2, f3⟩ := rightP_facts h
    have hc : checkR l.l q = firstE [namesR l.l 0 q.items.l, byR l.l q.by_ q.items.l, kindsR l.l q.items.l 0 q.preds.l, notsR q.items.l 0 q.preds.l] := by unfold checkR; rw [if_pos h]
    let fl : List (Nat × Option (Int × Int)) := [(n_q56, namesR l.l 0 q.items.l), (n_q50, byR l.l q.by_ q.items.l), (n_q55, kindsR l.l q.items.l 0 q.preds.l), (n_q57, notsR q.items.l 0 q.preds.l)]
    have hrun : ∀ p ∈ fl, ∀ H, Run tab (.fn p.1) [l.enc schemaC, .agg (queryC q)] H (errD p.2) H := fun p hp H => by
      simp only [fl, List.mem_cons, List.not_mem_nil, or_false] at hp
      rcases hp with rfl | rfl | rfl | rfl
      · exact check_names_run l q H
      · exact check_by_run l q f1 f2 H
      · exact check_kinds_run l q H
      · exact check_nots_run l q (by omega) H
    have hz : ∀ p ∈ fl, ∀ i e, p.2 = some (i, e) → e ≠ 0 := fun p hp i e he => by
      simp only [fl, List.mem_cons, List.not_mem_nil, or_false] at hp
      rcases hp with rfl | rfl | rfl | rfl
      · have := namesR_code _ _ _ _ he; simp at this; omega
      · have := byR_code _ _ _ _ he; simp at this; omega
      · have := kindsR_code _ _ _ _ _ he; simp at this; omega
      · have := notsR_code _ _ _ _ he; simp at this; omega
    have hloop := Check_loop l q fl rfl hrun H
    simp [hq5, hR, h]
    refine hloop _ (fun hn E H' hlow => ?_) (fun i e hf _ E H' e4 e5 hlow => ?_) hz _ _ (by simp) (by simp) (by simp) (by simp) (by simp) (by simp) (by simp [fl]) (by simp) (by simp)
    · have e0 : checkR l.l q = (0, 0) := by
        have a1 := hn _ (show (n_q56, namesR l.l 0 q.items.l) ∈ fl by simp [fl])
        have a2 := hn _ (show (n_q50, byR l.l q.by_ q.items.l) ∈ fl by simp [fl])
        have a3 := hn _ (show (n_q55, kindsR l.l q.items.l 0 q.preds.l) ∈ fl by simp [fl])
        have a4 := hn _ (show (n_q57, notsR q.items.l 0 q.preds.l) ∈ fl by simp [fl])
        simp only at a1 a2 a3 a4
        rw [hc, a1, a2, a3, a4]
        rfl
      rw [e0]
      simp [hlow, pairD]
    · have e0 : checkR l.l q = (e, i) := by rw [hc]; exact hf
      rw [e0]
      simp [e4, e5, hlow, pairD]
end Go.Proofs.YthdkeggdipogoaaGreatDoor.Tz.V
