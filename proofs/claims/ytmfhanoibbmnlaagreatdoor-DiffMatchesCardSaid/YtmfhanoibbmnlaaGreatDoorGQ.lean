/-
The walks of checks: items, fields, kinds. Conditions: none.
-/
import Derived.Test.YtmfhanoibbmnlaaGreatDoorGP
namespace Go.Aug
open Go.Aug.Api (i64ok)
def encM (m : List (Int × Int)) : List (D × D) := m.map fun p => (i64D p.1, i64D p.2)
def addK (ks : List Int) (k : Int) : List Int := if ks.contains k then ks else ks ++ [k]
theorem find_encM (k : Int) : ∀ (m : List (Int × Int)) (i : Nat), findD .int (i64D k) (encM m) i = some ((m.findIdx? fun p => decide (p.1 = k)).map (· + i))
  | [], i => rfl
  | (a, b) :: m, i => by
    have ih := find_encM k m (i + 1)
    have e : eqK .int (i64D k) (i64D a) = some (k == a) := rfl
    simp only [encM, List.map_cons, findD, e]
    by_cases h : a = k
    · subst h
      simp [List.findIdx?_cons]
    · have h' : (k == a) = false := by simp; exact fun e => h e.symm
      rw [h']
      simp only [List.findIdx?_cons, h, decide_false]
      have : (List.map (fun p : Int × Int => (i64D p.1, i64D p.2)) m) = encM m := rfl
      rw [this, ih]
      cases m.findIdx? fun p => decide (p.1 = k) with
      | none => rfl
      | some j => simp; omega
def countM (m : List (Int × Int)) (k : Int) : Int := match m.find? (fun p => decide (p.1 = k)) with
  | some p => p.2
  | none => 0
theorem look_encM {H : Heap} {r : Nat} {m : List (Int × Int)} (hg : H.get r = some (.map (encM m))) (k : Int) : evMlook H .int (i64D 0) false (.mp r) (i64D k) = some (i64D (countM m k)) := by
  have hk : keyOk .int (i64D k) = true := rfl
  simp only [evMlook, mapAt, hg, hk, if_true, find_encM]
  unfold countM
  cases h : m.findIdx? fun p => decide (p.1 = k) with
  | none =>
    have : m.find? (fun p => decide (p.1 = k)) = none := by
      rw [List.find?_eq_none]
      intro x hx
      simpa using (List.findIdx?_eq_none_iff.1 h) x hx
    simp [this]
  | some i =>
    obtain ⟨hi, h1, h2⟩ := List.findIdx?_eq_some_iff_getElem.1 h
    have hf : m.find? (fun p => decide (p.1 = k)) = some m[i] := by
      rw [List.find?_eq_some_iff_getElem]
      exact ⟨by simpa using h1, i, hi, rfl, fun j hj => by have := h2 j hj; simpa using this⟩
    simp [hf, encM, hi]
def putM (m : List (Int × Int)) (k x : Int) : List (Int × Int) := match m.findIdx? fun p => decide (p.1 = k) with
  | none => m ++ [(k, x)]
  | some i => m.set i (k, x)
theorem put_encM {H : Heap} {r : Nat} {m : List (Int × Int)} (hg : H.get r = some (.map (encM m))) (k x : Int) : evMput H .int (.mp r) (i64D k) (i64D x) = some (H.set r (.map (encM (putM m k x)))) := by
  have hk : keyOk .int (i64D k) = true := rfl
  simp only [evMput, hg, hk, if_true, find_encM, putM]
  cases h : m.findIdx? fun p => decide (p.1 = k) with
  | none => simp [encM]
  | some i => simp [encM, List.map_set]
theorem keys_putM (m : List (Int × Int)) (k x : Int) : (putM m k x).map (·.1) = addK (m.map (·.1)) k := by
  unfold putM
  cases h : m.findIdx? fun p => decide (p.1 = k) with
  | none =>
    have hn : (m.map (·.1)).contains k = false := by
      have := List.findIdx?_eq_none_iff.1 h
      rw [Bool.eq_false_iff]
      intro hc
      obtain ⟨p, hp, e⟩ := List.mem_map.1 (List.contains_iff_mem.1 hc)
      have := this p hp
      simp [e] at this
    unfold addK
    rw [hn]
    simp
  | some i =>
    obtain ⟨hi, h1, h2⟩ := List.findIdx?_eq_some_iff_getElem.1 h
    simp at h1
    have hc : (m.map (·.1)).contains k = true := by
      rw [List.contains_iff_mem, List.mem_map]
      exact ⟨m[i], List.getElem_mem hi, h1⟩
    unfold addK
    rw [hc, if_pos rfl]
    simp only [List.map_set]
    apply List.ext_getElem?
    intro j
    by_cases hj : j = i
    · subst hj
      simp [hi, h1]
    · rw [List.getElem?_set_ne (fun e => hj e.symm)]
theorem keysI_encM : ∀ (m : List (Int × Int)), (∀ p ∈ m, i64ok p.1) → keysI (encM m) = some (m.map (·.1))
  | [], _ => rfl
  | (a, b) :: m, h => by
    have ih := keysI_encM m fun p hp => h p (List.mem_cons_of_mem _ hp)
    have h0 := h (a, b) (List.mem_cons_self ..)
    simp only [encM, List.map_cons, keysI, i64D]
    have e : List.map (fun p : Int × Int => (i64D p.1, i64D p.2)) m = encM m := rfl
    simp only [i64D] at e
    rw [e, ih]
    simp [h0]
theorem addK_nodup {l : List Int} (h : l.Nodup) (k : Int) : (addK l k).Nodup := by
  unfold addK
  split
  · exact h
  · rename_i hc
    rw [List.nodup_append]
    refine ⟨h, by simp, ?_⟩
    intro a ha b hb
    simp at hb
    subst hb
    intro e
    subst e
    exact hc (List.contains_iff_mem.2 ha)
end Go.Aug
namespace Go.Proofs.YtmfhanoibbmnlaaGreatDoor.Tz
open Go.Aug Go.Aug.Api
set_option maxRecDepth 100000
theorem check_item_1_run (x : TItem) (name : ByteArray) (H : Heap) {r : Nat} (h : H.get r = some (.cells [strD name])) (hr : r < H.next) : Run tab (.fn n_q50) [.agg (itemC x), .rf r 0] H (bD (decide (x.var = name))) H := by
  refine cK.run (cK_fn o_q50 t_q50 (Nat.le_of_ble_eq_true rfl) (by decide) ?_)
  have hne : (r = H.next) = False := by simp; omega
  simp [itemC, Sl.enc, h, hne]
theorem check_item_run (q : TQuery) (v : ByteArray) (H : Heap) : Run tab (.fn n_q49) [.agg (queryC q), strD v] H (.tup [.agg (itemC (itemS q.items.l v)), i64D (placeS q.items.l v)]) H := by
  refine cK.run (cK_fn o_q49 t_q49 (Nat.le_of_ble_eq_true rfl) (by decide) ?_)
  have call := fun (H1 : Heap) (r : Nat) (h : H1.get r = some (.cells [strD v])) (hr : r < H1.next) =>
    (IndexFunc_Item_run itemC_len (fun x => decide (x.var = v)) q.items.rep q.items.l q.items.ok n_q50 [] [.rf r 0] H1 (fun x => check_item_1_run x v (low0 H1) (by simpa using h) (by simpa using hr))).cK
  simp [queryC, Sl.enc, call]
  rcases idx_cases (fun x : TItem => decide (x.var = v)) q.items.l with ⟨h1, h2, h3⟩ | ⟨pre, x, suf, h1, h2, h3, h4, h5⟩
  · simp [h1, placeS, itemS, h3, zItem, itemC, Sl.nil_enc]
  · have h4' : idx (fun x : TItem => decide (x.var = v)) (pre ++ x :: suf) = (pre.length : Nat) := by rw [← h1]; exact h4
    have e1 : placeS q.items.l v = (pre.length : Nat) := h4
    have e2 : itemS q.items.l v = x := by unfold itemS; rw [h5]
    rw [e1, e2]
    have ep := elem_at itemC_len q.items.rep q.items.l .i64 pre.length x (by rw [h1]; simp)
    simp [h4, ep, load_elem _ _ _ _ (itemC_len x), setAll_full]
    simp [itemC, Sl.enc]
end Go.Proofs.YtmfhanoibbmnlaaGreatDoor.Tz
namespace Go.Proofs.YtmfhanoibbmnlaaGreatDoor.Tz
open Go.Aug Go.Aug.Api
set_option maxRecDepth 100000
theorem finX_cold {H : Heap} {d : D} {H' : Heap} {R : D → Heap → Prop} (h : d.under H.next = false) (hl : H.low ≤ H'.low) : finX false H d H' R = R d (relow H' H.low) := by
  unfold finX leaveF leave
  have hm : (if H.low < H'.low then H.low else H'.low) = H.low := by split <;> omega
  simp [h, hm, relow]
theorem Keys_cK (r : Nat) (H : Heap) (hl : H.low ≤ H.next) (R : D → Heap → Prop) : cK tab (.fn n_q70) [.mp r] H R = R (.fn (.func n_q71) [] [.rf H.next 0]) (H.add (.cells [.mp r])) := by
  have h : Run tab (.fn n_q70) [.mp r] H (.fn (.func n_q71) [] [.rf H.next 0]) (H.add (.cells [.mp r])) := by
    refine cK.run (cK_fn o_q70 t_q70 (Nat.le_of_ble_eq_true rfl) (by decide) ?_)
    have hz : tab.fz n_q70 = false := by kernel_rfl
    have h1 : ∀ R, finX false H (.fn (.func n_q71) [] [.rf H.next 0]) ((low0 H).add (.cells [.mp r])) R = R (.fn (.func n_q71) [] [.rf H.next 0]) (H.add (.cells [.mp r])) := fun R => by
      rw [finX_cold (by simp [D.under, D.under.underAll]) (by simpa using hl)]
      rfl
    simp [hz, h1]
  exact h.cK R
end Go.Proofs.YtmfhanoibbmnlaaGreatDoor.Tz
namespace Go.Proofs.YtmfhanoibbmnlaaGreatDoor.Tz
open Go.Aug Go.Aug.Api
set_option maxRecDepth 100000
end Go.Proofs.YtmfhanoibbmnlaaGreatDoor.Tz
namespace Go.Proofs.YtmfhanoibbmnlaaGreatDoor.Tz
open Go.Aug Go.Aug.Api
set_option maxRecDepth 100000
def PlacesPost (H : Heap) (rm : Nat) (ks : List Int) (_d : D) (H' : Heap) : Prop :=
  H.next ≤ H'.next ∧ ((H'.low = H.low ∧ H'.get rm = H.get rm) ∨ H'.low = if H.low < rm then H.low else rm) ∧ (∀ r, r < H.next → r ≠ rm → H'.get r = H.get r) ∧ ∃ m, H'.get rm = some (.map (encM m)) ∧ m.map (·.1) = ks
structure PlacesAt (q : TQuery) (H : Heap) (rq rp rm : Nat) (ks : List Int) : Prop where
  hq : H.get rq = some (.cells (queryC q))
  hp : H.get rp = some (.cells [.mp rm])
  hm : ∃ m, H.get rm = some (.map (encM m)) ∧ m.map (·.1) = ks
  lq : rq < H.next
  lp : rp < H.next
  lm : rm < H.next
  nq : rq ≠ rm
  np : rp ≠ rm
theorem check_vars_1_cK (q : TQuery) (v : ByteArray) (ks : List Int) (H : Heap) {rq rp rm : Nat} (h : PlacesAt q H rq rp rm ks) : cK tab (.fn n_q52) [strD v, .rf rq 0, .rf rp 0] H (PlacesPost H rm (addP ks (placeS q.items.l v))) := by
  obtain ⟨hq, hp, ⟨m, hm, rfl⟩, lq, lp, lm, nq, np⟩ := h
  refine cK_fn o_q52 t_q52 (Nat.le_of_ble_eq_true rfl) (by decide) ?_
  have hi := fun H => (check_item_run q v H).cK
  have hq5 : ∀ q : TQuery, (queryC q).take 5 = queryC q := fun q => List.take_of_length_le (by rw [queryC_len]; exact Nat.le_refl _)
  have e1 : (rq = H.next) = False := by simp; omega
  have e2 : (rp = H.next) = False := by simp; omega
  have e3 : (rm = H.next) = False := by simp; omega
  have e4 : ∀ k, (rq = H.next + k) = False := by simp; omega
  have e5 : ∀ k, (rp = H.next + k) = False := by simp; omega
  have e6 : ∀ k, (rm = H.next + k) = False := by simp; omega
  have hlook : ∀ H1 k, H1.get rm = some (.map (encM m)) → evMlook H1 .int (.v (.int .i64 0)) false (.mp rm) (.v (.int .i64 k)) = some (i64D (countM m k)) := fun H1 k h => look_encM h k
  have hput : ∀ H1 k x, H1.get rm = some (.map (encM m)) → evMput H1 .int (.mp rm) (.v (.int .i64 k)) (.v (.int .i64 x)) = some (H1.set rm (.map (encM (putM m k x)))) := fun H1 k x h => put_encM h k x
  simp [hq, hq5, hi, e1, e2, e3, itemC, setAll_full]
  refine gK_of (fun h => ?_) (fun h => ?_)
  · simp [h, hp, hm, hlook, hput, e1, e2, e3, e4, e5, e6]
    rw [finX_loud (by simp [lm])]
    simp only [PlacesPost]
    refine ⟨by simp, .inr (by simp [lm]), fun r h1 h2 => ?_, putM m (placeS q.items.l v) (IntKind.i64.wrap (countM m (placeS q.items.l v) + 1)), ?_, ?_⟩
    · have : (r = H.next) = False := by simp; omega
      simp [this, get_set, h2]
    · simp [e3, get_set, hm]
    · simp at h
      rw [keys_putM, addP, if_pos h, addK]
  · simp at h
    have h' : ¬ 0 ≤ placeS q.items.l v := by omega
    simp [addP, PlacesPost, hm, h']
    exact ⟨m, rfl, rfl⟩
theorem PlacesPost.refl {q : TQuery} {ks : List Int} {H : Heap} {rq rp rm : Nat} (h : PlacesAt q H rq rp rm ks) (d : D) : PlacesPost H rm ks d H := by
  exact ⟨Nat.le_refl _, .inl ⟨rfl, rfl⟩, fun _ _ _ => rfl, h.hm⟩
theorem PlacesPost.at {q : TQuery} {ks ks' : List Int} {H H' : Heap} {rq rp rm : Nat} {d : D} (h : PlacesAt q H rq rp rm ks) (p : PlacesPost H rm ks' d H') : PlacesAt q H' rq rp rm ks' := by
  obtain ⟨p1, p2, p3, p4⟩ := p
  have := h.lq
  have := h.lp
  have := h.lm
  exact ⟨(p3 _ h.lq h.nq).trans h.hq, (p3 _ h.lp h.np).trans h.hp, p4, by omega, by omega, by omega, h.nq, h.np⟩
theorem PlacesAt.low0 {q : TQuery} {ks : List Int} {H : Heap} {rq rp rm : Nat} (h : PlacesAt q H rq rp rm ks) : PlacesAt q (low0 H) rq rp rm ks := ⟨h.hq, h.hp, h.hm, h.lq, h.lp, h.lm, h.nq, h.np⟩
theorem PlacesAt.add {q : TQuery} {ks : List Int} {H : Heap} {rq rp rm : Nat} (h : PlacesAt q H rq rp rm ks) (o : O) : PlacesAt q (H.add o) rq rp rm ks := by
  have := h.lq
  have := h.lp
  have := h.lm
  have e1 : (rq = H.next) = False := by simp; omega
  have e2 : (rp = H.next) = False := by simp; omega
  have e3 : (rm = H.next) = False := by simp; omega
  exact ⟨by simp [e1, h.hq], by simp [e2, h.hp], by simpa [e3] using h.hm, by simp; omega, by simp; omega, by simp; omega, h.nq, h.np⟩
theorem PlacesPost.fin {q : TQuery} {ks ks' : List Int} {H H' : Heap} {rq rp rm : Nat} {d : D} {o : O} (h : PlacesAt q H rq rp rm ks) (p : PlacesPost ((_root_.Go.Aug.low0 H).add o) rm ks' d H') : finX true H (.tup []) H' (PlacesPost H rm ks') := by
  obtain ⟨p1, p2, p3, m, p4, p5⟩ := p
  have l2 := h.lm
  have e3 : (rm = H.next) = False := by simp; omega
  simp at p1
  rcases p2 with ⟨p2, p6⟩ | p2
  · simp at p2
    simp [e3] at p6
    rw [finX_data (by omega) rfl]
    exact ⟨Nat.le_refl _, .inl ⟨rfl, rfl⟩, fun _ _ _ => rfl, m, by rw [← p6]; exact p4, p5⟩
  · have hn : ¬ H.next < rm := by omega
    simp [hn] at p2
    rw [finX_loud (by omega)]
    refine ⟨by simp; omega, .inr (by simp [p2]), fun r h1 h2 => ?_, m, by simpa using p4, p5⟩
    have e4 : (r = H.next) = False := by simp; omega
    have := p3 r (by simp; omega) h2
    simpa [e4] using this
theorem PlacesPost.then {ks1 ks2 : List Int} {H H1 H2 : Heap} {rm : Nat} {d1 d2 d3 : D} {o : O} (lm : rm < H.next) (p : PlacesPost H rm ks1 d1 H1) (p2 : PlacesPost (H1.add o) rm ks2 d2 H2) : PlacesPost H rm ks2 d3 H2 := by
  obtain ⟨a1, a2, a3, a4⟩ := p
  obtain ⟨b1, b2, b3, b4⟩ := p2
  have e3 : (rm = H1.next) = False := by simp; omega
  simp at b1 b2
  refine ⟨by omega, ?_, fun r h1 h2 => ?_, b4⟩
  · rcases a2 with ⟨a2, a5⟩ | a2
    · rcases b2 with ⟨b2, b5⟩ | b2
      · simp [e3] at b5
        exact .inl ⟨by omega, b5.trans a5⟩
      · exact .inr (by rw [b2, a2])
    · rcases b2 with ⟨b2, b5⟩ | b2
      · exact .inr (by rw [b2, a2])
      · refine .inr ?_
        rw [b2, a2]
        split <;> simp_all
  · have e4 : (r = H1.next) = False := by simp; omega
    have := b3 r (by simp; omega) h2
    simp [e4] at this
    rw [this, a3 r h1 h2]
def addPs (q : List TItem) (vs : List ByteArray) (ks : List Int) : List Int := vs.foldl (fun l v => addP l (placeS q v)) ks
theorem addPs_append (q : List TItem) (a b : List ByteArray) (ks : List Int) : addPs q (a ++ b) ks = addPs q b (addPs q a ks) := by simp [addPs]
theorem eachVs_append : ∀ a b : List TExpr, eachVs (a ++ b) = eachVs a ++ eachVs b
  | [], _ => rfl
  | x :: a, b => by simp [eachVs, eachVs_append a b]
structure KidsAt (H : Heap) (rm : Nat) (kd : D) (kids : List TExpr) : Prop where
  len : evLen false kd = some (i64D kids.length)
  elem : ∀ i a, kids[i]? = some a → ∃ p, evIadr 7 kd (.v (.int .i64 (i : Nat))) = some p ∧ ∀ H', (∀ r, r < H.next → r ≠ rm → H'.get r = H.get r) → evLoad H' (some 7) p = some (.agg (exprC a))
theorem KidsAt.data (H : Heap) (rm : Nat) (rep : Option (Option Nat)) (kids : List TExpr) : KidsAt H rm (slD rep kids.length (kids.flatMap exprC)) kids :=
  ⟨sl_len _ _ _, fun i a h => ⟨_, elem_at exprC_len rep kids .i64 i a h, fun H' _ => load_elem _ _ _ _ (exprC_len a)⟩⟩
theorem KidsAt.own {H : Heap} {rm r : Nat} (kids : List TExpr) (c : Option Nat) (h : H.get r = some (.cells (kids.flatMap exprC))) (hr : r < H.next) (hn : r ≠ rm) : KidsAt H rm (.rs r 0 kids.length c 7) kids := by
  refine ⟨rfl, fun i a hi => ?_⟩
  obtain ⟨hlt, hx⟩ := List.getElem?_eq_some_iff.1 hi
  have hlt' : ((i : Int) < (kids.length : Int)) := by omega
  refine ⟨.rf r (0 + i * 7), by rw [iadr_rs, if_pos ⟨by omega, hlt'⟩]; rfl, fun H' hf => ?_⟩
  have hsplit : kids = kids.take i ++ a :: kids.drop (i + 1) := by rw [← hx, List.getElem_cons_drop, List.take_append_drop]
  have hlen : (kids.take i).length = i := by simp; omega
  have hd := drop_zip exprC_len (kids.take i) (a :: kids.drop (i + 1))
  rw [← hsplit, hlen] at hd
  have := (hf r hr hn).trans h
  simp [this, hd]
theorem check_each_gen (q : TQuery) (k vk vn : Int) (vs var field : ByteArray) (kd : D) (kids : List TExpr) (hok : kids.length ≤ big) (ks : List Int) (H : Heap) {rq rp rm : Nat} (h : PlacesAt q H rq rp rm ks) (hk : KidsAt H rm kd kids)
    (ih : ∀ x ∈ kids, ∀ (ks : List Int) (H : Heap), PlacesAt q H rq rp rm ks → cK tab (.fn n_q48) [.agg (exprC x), .fn (.func n_q52) [] [.rf rq 0, .rf rp 0]] H (PlacesPost H rm (addPs q.items.l (eachV x) ks))) :
    cK tab (.fn n_q48) [.agg [i64D k, i64D vk, i64D vn, strD vs, strD var, strD field, kd], .fn (.func n_q52) [] [.rf rq 0, .rf rp 0]] H (PlacesPost H rm (addPs q.items.l (if 2 ≤ k ∧ k ≤ 6 then [var] else if k = 7 ∨ k = 8 then eachVs kids else []) ks)) := by
  generalize hnm : (if 2 ≤ k ∧ k ≤ 6 then [var] else if k = 7 ∨ k = 8 then eachVs kids else []) = nm
  refine cK_fn o_q48 t_q48 (Nat.le_of_ble_eq_true rfl) (by decide) ?_
  simp
  have hA : PlacesAt q ((low0 H).add (.cells [i64D k, i64D vk, i64D vn, strD vs, strD var, strD field, kd])) rq rp rm ks := (h.low0).add _
  have hend : ∀ ks' d H', PlacesPost ((low0 H).add (.cells [i64D k, i64D vk, i64D vn, strD vs, strD var, strD field, kd])) rm ks' d H' → finX true H (.tup []) H' (PlacesPost H rm ks') := fun ks' d H' p => p.fin h
  have hz : tab.fz n_q48 = true := z_q48
  by_cases h1 : 2 ≤ k
  · by_cases h2 : k ≤ 6
    · have e : nm = [var] := by rw [← hnm, if_pos ⟨h1, h2⟩]
      rw [e]
      simp [h1, h2]
      refine cK.mono (check_vars_1_cK q var ks _ hA) fun d H' p => ?_
      have := hend _ _ _ p
      simpa [hz, h1, h2, addPs] using this
    · have h3 : ¬ (2 ≤ k ∧ k ≤ 6) := fun h => h2 h.2
      simp [h1, h2]
      by_cases h4 : k = 7 ∨ k = 8
      · have e : nm = eachVs kids := by rw [← hnm, if_neg h3, if_pos h4]
        rw [e]
        rcases h4 with h4 | h4 <;> simp [h4, hk.len]
        all_goals
          refine LR_rule (WR_mono _) (fun j E H' => ∃ pre suf, kids = pre ++ suf ∧ j = suf.length ∧ E 1 = .fn (.func n_q52) [] [.rf rq 0, .rf rp 0] ∧ E 27 = kd ∧ E 28 = i64D kids.length ∧ E 29 = i64D pre.length ∧ ∃ o d, PlacesPost ((low0 H).add o) rm (addPs q.items.l (eachVs pre) ks) d H') ?_ (j := kids.length)
            ⟨[], kids, rfl, rfl, by simp, by simp, by simp, by simp, _, uD, .refl ((h.low0).add _) _⟩
          rintro j E H' ⟨pre, suf, hl, rfl, e1, e27, e28, e29, o, d0, hp⟩
          cases suf with
          | nil =>
            simp at hl
            subst hl
            have := hp.fin h
            simpa [e27, e28, e29, hz] using this
          | cons a suf =>
            have hlt : pre.length < kids.length := by rw [hl]; simp
            have hlt' : ((pre.length : Int) < (kids.length : Int)) = True := by simp; omega
            have hw := wrap_len hlt hok
            obtain ⟨p, e0, e0'⟩ := hk.elem pre.length a (by rw [hl]; simp)
            have e00 := e0' H' (fun r h1 h2 => by have := hp.2.2.1 r (by simp; omega) h2; have e4 : (r = H.next) = False := (by simp; omega); simpa [e4] using this)
            have hnl : H'.low ≤ H'.next := by
              obtain ⟨p1, p2, _, _⟩ := hp
              have := h.lm
              simp at p1 p2
              rcases p2 with p2 | p2
              · omega
              · rw [p2]; split <;> omega
            simp [e1, e27, e28, e29, hlt', e0, e00, setAll_full, hnl]
            refine cK.mono (ih a (by rw [hl]; simp) _ _ ((hp.at ((h.low0).add _)).add _)) fun d H2 p => ?_
            refine ⟨suf.length, by omega, pre ++ [a], suf, by simp [hl], rfl, by rw [hw]; simp, o, uD, ?_⟩
            have lm := h.lm
            have := PlacesPost.then (d3 := uD) (by simp; omega) hp p
            simpa [eachVs_append, eachVs, addPs_append] using this
      · have h7 : k ≠ 7 := fun h => h4 (.inl h)
        have h8 : k ≠ 8 := fun h => h4 (.inr h)
        have e : nm = [] := by rw [← hnm, if_neg h3, if_neg h4]
        rw [e]
        simp [h7, h8, hz]
        exact .refl h _
  · have h7 : k ≠ 7 := by omega
    have h8 : k ≠ 8 := by omega
    have e : nm = [] := by rw [← hnm, if_neg (fun h => h1 h.1), if_neg (fun h => h.elim h7 h8)]
    rw [e]
    simp [h1, h7, h8, hz]
    exact .refl h _
theorem check_each_cK (q : TQuery) : ∀ (x : TExpr) (_hx : okE x) (ks : List Int) (H : Heap) {rq rp rm : Nat} (_h : PlacesAt q H rq rp rm ks), cK tab (.fn n_q48) [.agg (exprC x), .fn (.func n_q52) [] [.rf rq 0, .rf rp 0]] H (PlacesPost H rm (addPs q.items.l (eachV x) ks))
  | .mk k v var field rep kids, hx, ks, H, rq, rp, rm, h => by
    have ih : ∀ x ∈ kids, ∀ (ks : List Int) (H : Heap), PlacesAt q H rq rp rm ks → cK tab (.fn n_q48) [.agg (exprC x), .fn (.func n_q52) [] [.rf rq 0, .rf rp 0]] H (PlacesPost H rm (addPs q.items.l (eachV x) ks)) := fun x hm ks H h => check_each_cK q x (okEs_mem hx.2.1 hm) ks H h
    have := check_each_gen q k v.kind v.n v.s var field _ kids hx.1 ks H h (.data H rm rep kids) ih
    rw [exprC_mk, eachV]
    exact this
end Go.Proofs.YtmfhanoibbmnlaaGreatDoor.Tz
