/-
The walks of checks: items, fields, kinds. Conditions: none.
-/
import Derived.Test.YtnpoicmaiieanaaGreatDoorTW4
import Derived.Test.YtnpoicmaiieanaaGreatDoorTS6
namespace Go.Aug
open Go.Aug.Api (i64ok)
/-- A map from numbers to numbers, as the evaluator holds it. -/
def encM (m : List (Int × Int)) : List (D × D) := m.map fun p => (i64D p.1, i64D p.2)
def addK (ks : List Int) (k : Int) : List Int := if ks.contains k then ks else ks ++ [k]

theorem find_encM (k : Int) : ∀ (m : List (Int × Int)) (i : Nat), findD .int (i64D k) (encM m) i = some ((m.findIdx? fun p => decide (p.1 = k)).map (· + i))
  | [], i => rfl
  | (a, b) :: m, i => by
    have ih := find_encM k m (i + 1)
    have e : eqK .int (i64D k) (i64D a) = some (k == a) := rfl
    simp only [encM, List.map_cons, findD, e]
    by_cases h : a = k
    · subst h
      simp [List.findIdx?_cons]
    · have h' : (k == a) = false := by simp; exact fun e => h e.symm
      rw [h']
      simp only [List.findIdx?_cons, h, decide_false]
      have : (List.map (fun p : Int × Int => (i64D p.1, i64D p.2)) m) = encM m := rfl
      rw [this, ih]
      cases m.findIdx? fun p => decide (p.1 = k) with
      | none => rfl
      | some j => simp; omega

/-- What a number stands at, in a map. -/
def countM (m : List (Int × Int)) (k : Int) : Int := match m.find? (fun p => decide (p.1 = k)) with
  | some p => p.2
  | none => 0

theorem look_encM {H : Heap} {r : Nat} {m : List (Int × Int)} (hg : H.get r = some (.map (encM m))) (k : Int) : evMlook H .int (i64D 0) false (.mp r) (i64D k) = some (i64D (countM m k)) := by
  have hk : keyOk .int (i64D k) = true := rfl
  simp only [evMlook, mapAt, hg, hk, if_true, find_encM]
  unfold countM
  cases h : m.findIdx? fun p => decide (p.1 = k) with
  | none =>
    have : m.find? (fun p => decide (p.1 = k)) = none := by
      rw [List.find?_eq_none]
      intro x hx
      simpa using (List.findIdx?_eq_none_iff.1 h) x hx
    simp [this]
  | some i =>
    obtain ⟨hi, h1, h2⟩ := List.findIdx?_eq_some_iff_getElem.1 h
    have hf : m.find? (fun p => decide (p.1 = k)) = some m[i] := by
      rw [List.find?_eq_some_iff_getElem]
      exact ⟨by simpa using h1, i, hi, rfl, fun j hj => by have := h2 j hj; simpa using this⟩
    simp [hf, encM, hi]

/-- A number put, or its count anew. -/
def putM (m : List (Int × Int)) (k x : Int) : List (Int × Int) := match m.findIdx? fun p => decide (p.1 = k) with
  | none => m ++ [(k, x)]
  | some i => m.set i (k, x)

theorem put_encM {H : Heap} {r : Nat} {m : List (Int × Int)} (hg : H.get r = some (.map (encM m))) (k x : Int) : evMput H .int (.mp r) (i64D k) (i64D x) = some (H.set r (.map (encM (putM m k x)))) := by
  have hk : keyOk .int (i64D k) = true := rfl
  simp only [evMput, hg, hk, if_true, find_encM, putM]
  cases h : m.findIdx? fun p => decide (p.1 = k) with
  | none => simp [encM]
  | some i => simp [encM, List.map_set]

theorem keys_putM (m : List (Int × Int)) (k x : Int) : (putM m k x).map (·.1) = addK (m.map (·.1)) k := by
  unfold putM
  cases h : m.findIdx? fun p => decide (p.1 = k) with
  | none =>
    have hn : (m.map (·.1)).contains k = false := by
      have := List.findIdx?_eq_none_iff.1 h
      rw [Bool.eq_false_iff]
      intro hc
      obtain ⟨p, hp, e⟩ := List.mem_map.1 (List.contains_iff_mem.1 hc)
      have := this p hp
      simp [e] at this
    unfold addK
    rw [hn]
    simp
  | some i =>
    obtain ⟨hi, h1, h2⟩ := List.findIdx?_eq_some_iff_getElem.1 h
    simp at h1
    have hc : (m.map (·.1)).contains k = true := by
      rw [List.contains_iff_mem, List.mem_map]
      exact ⟨m[i], List.getElem_mem hi, h1⟩
    unfold addK
    rw [hc, if_pos rfl]
    simp only [List.map_set]
    apply List.ext_getElem?
    intro j
    by_cases hj : j = i
    · subst hj
      simp [hi, h1]
    · rw [List.getElem?_set_ne (fun e => hj e.symm)]

theorem keysI_encM : ∀ (m : List (Int × Int)), (∀ p ∈ m, i64ok p.1) → keysI (encM m) = some (m.map (·.1))
  | [], _ => rfl
  | (a, b) :: m, h => by
    have ih := keysI_encM m fun p hp => h p (List.mem_cons_of_mem _ hp)
    have h0 := h (a, b) (List.mem_cons_self ..)
    simp only [encM, List.map_cons, keysI, i64D]
    have e : List.map (fun p : Int × Int => (i64D p.1, i64D p.2)) m = encM m := rfl
    simp only [i64D] at e
    rw [e, ih]
    simp [h0]

theorem addK_nodup {l : List Int} (h : l.Nodup) (k : Int) : (addK l k).Nodup := by
  unfold addK
  split
  · exact h
  · rename_i hc
    rw [List.nodup_append]
    refine ⟨h, by simp, ?_⟩
    intro a ha b hb
    simp at hb
    subst hb
    intro e
    subst e
    exact hc (List.contains_iff_mem.2 ha)

theorem len_encM (m : List (Int × Int)) : (encM m).length = m.length := by simp [encM]
end Go.Aug
namespace Go.Proofs.YtnpoicmaiieanaaGreatDoor.Tz
open Go.Aug Go.Aug.Api
set_option maxRecDepth 100000

theorem check_item_1_run (x : TItem) (name : ByteArray) (H : Heap) {r : Nat} (h : H.get r = some (.cells [strD name])) (hr : r < H.next) : Run tab (.fn n_check_item_1) [.agg (itemC x), .rf r 0] H (bD (decide (x.var = name))) H := by
  refine cK.run (cK_fn o_check_item_1 t_check_item_1 (Nat.le_of_ble_eq_true rfl) (by decide) ?_)
  have hne : (r = H.next) = False := by simp; omega
  simp [itemC, Sl.enc, h, hne]

theorem check_item_run (q : TQuery) (v : ByteArray) (H : Heap) : Run tab (.fn n_check_item) [.agg (queryC q), strD v] H (.tup [.agg (itemC (itemS q.items.l v)), i64D (placeS q.items.l v)]) H := by
  refine cK.run (cK_fn o_check_item t_check_item (Nat.le_of_ble_eq_true rfl) (by decide) ?_)
  have call := fun (H1 : Heap) (r : Nat) (h : H1.get r = some (.cells [strD v])) (hr : r < H1.next) =>
    (IndexFunc_Item_run itemC_len (fun x => decide (x.var = v)) q.items.rep q.items.l q.items.ok n_check_item_1 [] [.rf r 0] H1 (fun x => check_item_1_run x v (low0 H1) (by simpa using h) (by simpa using hr))).cK
  simp [queryC, Sl.enc, call]
  rcases idx_cases (fun x : TItem => decide (x.var = v)) q.items.l with ⟨h1, h2, h3⟩ | ⟨pre, x, suf, h1, h2, h3, h4, h5⟩
  · simp [h1, placeS, itemS, h3, zItem, itemC, Sl.nil_enc]
  · have h4' : idx (fun x : TItem => decide (x.var = v)) (pre ++ x :: suf) = (pre.length : Nat) := by rw [← h1]; exact h4
    have e1 : placeS q.items.l v = (pre.length : Nat) := h4
    have e2 : itemS q.items.l v = x := by unfold itemS; rw [h5]
    rw [e1, e2]
    have ep := elem_at itemC_len q.items.rep q.items.l .i64 pre.length x (by rw [h1]; simp)
    simp [h4, ep, load_elem _ _ _ _ (itemC_len x), setAll_full]
    simp [itemC, Sl.enc]

end Go.Proofs.YtnpoicmaiieanaaGreatDoor.Tz
