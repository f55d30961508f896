/-
slices.IndexFunc at some kinds: the place of the first that is so. Conditions: none.
-/
import Derived.Test.YthdkeggdipogoaaGreatDoorTX0
import Derived.Test.YthdkeggdipogoaaGreatDoorGS
namespace Go.Proofs.YthdkeggdipogoaaGreatDoor.Tz
open Go.Aug Go.Aug.Api
set_option maxRecDepth 100000
theorem IndexFunc_Schema_run {α : Type} {c : α → List D} (hc : ∀ x, (c x).length = 2) (p : α → Bool) (rep : Option (Option Nat)) (l : List α) (hl : l.length ≤ big) (g : FuncId) (first caps : List D) (H : Heap)
    (hp : ∀ x, Run tab (.fn g) (first ++ .agg (c x) :: caps) (low0 H) (bD (p x)) (low0 H)) :
    Run tab (.fn n_q85) [slD rep l.length (l.flatMap c), .fn (.func g) first caps] H (i64D (idx p l)) H := by
  refine cK.run (cK_fn o_q85 t_q85 (Nat.le_of_ble_eq_true rfl) (by decide) ?_)
  simp
  refine LR_rule (WR_mono _) (fun j E H' => H' = low0 H ∧ ∃ pre suf, l = pre ++ suf ∧ j = suf.length ∧ E 0 = slD rep l.length (l.flatMap c) ∧ E 1 = .fn (.func g) first caps ∧ E 7 = i64D l.length ∧ E 8 = i64D pre.length ∧ (∀ x ∈ pre, p x = false)) ?_
    (j := l.length) ⟨rfl, [], l, by simp⟩
  rintro j E H' ⟨rfl, pre, suf, h0, rfl, e0, e1, e7, e8, hpre⟩
  cases suf with
  | nil =>
    simp at h0
    subst h0
    simp [e7, e8, idx_none hpre]
  | cons x suf =>
    have hlt : pre.length < l.length := by simp [h0]
    simp [e0, e1, e7, e8, h0, zip_at hc, load_elem _ _ _ _ (hc x), (hp x).cK]
    refine gK_of (fun hx => ?_) (fun hx => ?_)
    · simp [e8, idx_some pre x suf hpre hx]
    · simp [e0, e1, e7, e8, h0, wrap_len hlt hl]
      exact ⟨suf.length, by omega, pre ++ [x], suf, by simp, rfl, by simp, fun y hy => by simp at hy; rcases hy with hy | rfl; exact hpre y hy; exact hx⟩
theorem IndexFunc_Field_run {α : Type} {c : α → List D} (hc : ∀ x, (c x).length = 2) (p : α → Bool) (rep : Option (Option Nat)) (l : List α) (hl : l.length ≤ big) (g : FuncId) (first caps : List D) (H : Heap)
    (hp : ∀ x, Run tab (.fn g) (first ++ .agg (c x) :: caps) (low0 H) (bD (p x)) (low0 H)) :
    Run tab (.fn n_q83) [slD rep l.length (l.flatMap c), .fn (.func g) first caps] H (i64D (idx p l)) H := by
  refine cK.run (cK_fn o_q83 t_q83 (Nat.le_of_ble_eq_true rfl) (by decide) ?_)
  simp
  refine LR_rule (WR_mono _) (fun j E H' => H' = low0 H ∧ ∃ pre suf, l = pre ++ suf ∧ j = suf.length ∧ E 0 = slD rep l.length (l.flatMap c) ∧ E 1 = .fn (.func g) first caps ∧ E 7 = i64D l.length ∧ E 8 = i64D pre.length ∧ (∀ x ∈ pre, p x = false)) ?_
    (j := l.length) ⟨rfl, [], l, by simp⟩
  rintro j E H' ⟨rfl, pre, suf, h0, rfl, e0, e1, e7, e8, hpre⟩
  cases suf with
  | nil =>
    simp at h0
    subst h0
    simp [e7, e8, idx_none hpre]
  | cons x suf =>
    have hlt : pre.length < l.length := by simp [h0]
    simp [e0, e1, e7, e8, h0, zip_at hc, load_elem _ _ _ _ (hc x), (hp x).cK]
    refine gK_of (fun hx => ?_) (fun hx => ?_)
    · simp [e8, idx_some pre x suf hpre hx]
    · simp [e0, e1, e7, e8, h0, wrap_len hlt hl]
      exact ⟨suf.length, by omega, pre ++ [x], suf, by simp, rfl, by simp, fun y hy => by simp at hy; rcases hy with hy | rfl; exact hpre y hy; exact hx⟩
theorem IndexFunc_Item_run {α : Type} {c : α → List D} (hc : ∀ x, (c x).length = 4) (p : α → Bool) (rep : Option (Option Nat)) (l : List α) (hl : l.length ≤ big) (g : FuncId) (first caps : List D) (H : Heap)
    (hp : ∀ x, Run tab (.fn g) (first ++ .agg (c x) :: caps) (low0 H) (bD (p x)) (low0 H)) :
    Run tab (.fn n_q84) [slD rep l.length (l.flatMap c), .fn (.func g) first caps] H (i64D (idx p l)) H := by
  refine cK.run (cK_fn o_q84 t_q84 (Nat.le_of_ble_eq_true rfl) (by decide) ?_)
  simp
  refine LR_rule (WR_mono _) (fun j E H' => H' = low0 H ∧ ∃ pre suf, l = pre ++ suf ∧ j = suf.length ∧ E 0 = slD rep l.length (l.flatMap c) ∧ E 1 = .fn (.func g) first caps ∧ E 7 = i64D l.length ∧ E 8 = i64D pre.length ∧ (∀ x ∈ pre, p x = false)) ?_
    (j := l.length) ⟨rfl, [], l, by simp⟩
  rintro j E H' ⟨rfl, pre, suf, h0, rfl, e0, e1, e7, e8, hpre⟩
  cases suf with
  | nil =>
    simp at h0
    subst h0
    simp [e7, e8, idx_none hpre]
  | cons x suf =>
    have hlt : pre.length < l.length := by simp [h0]
    simp [e0, e1, e7, e8, h0, zip_at hc, load_elem _ _ _ _ (hc x), (hp x).cK]
    refine gK_of (fun hx => ?_) (fun hx => ?_)
    · simp [e8, idx_some pre x suf hpre hx]
    · simp [e0, e1, e7, e8, h0, wrap_len hlt hl]
      exact ⟨suf.length, by omega, pre ++ [x], suf, by simp, rfl, by simp, fun y hy => by simp at hy; rcases hy with hy | rfl; exact hpre y hy; exact hx⟩
end Go.Proofs.YthdkeggdipogoaaGreatDoor.Tz
namespace Go.Proofs.YthdkeggdipogoaaGreatDoor.Tz
open Go.Aug Go.Aug.Api
set_option maxRecDepth 100000
theorem value_Right_run (k n : Int) (s : ByteArray) (H : Heap) : Run tab (.fn n_q119) [.agg [i64D k, i64D n, strD s]] H (bD (rightV ⟨k, n, s⟩)) H := by
  refine cK.run (cK_fn o_q119 t_q119 (Nat.le_of_ble_eq_true rfl) (by decide) ?_)
  simp
  repeat' (refine gK_of (fun h => ?_) (fun h => ?_) <;> (try simp [h]))
  all_goals grind [rightV, maxNum, emptyS]
theorem value_both_run (k n : Int) (s : ByteArray) (k' n' : Int) (s' : ByteArray) (H : Heap) : Run tab (.fn n_q121) [.agg [i64D k, i64D n, strD s], .agg [i64D k', i64D n', strD s']] H (i64D (bothV ⟨k, n, s⟩ ⟨k', n', s'⟩)) H := by
  refine cK.run (cK_fn o_q121 t_q121 (Nat.le_of_ble_eq_true rfl) (by decide) ?_)
  simp [(value_Right_run _ _ _ _).cK]
  repeat' (refine gK_of (fun h => ?_) (fun h => ?_) <;> (try simp [h, (value_Right_run _ _ _ _).cK]))
  all_goals grind [bothV]
theorem value_reckoned_run (k n : Int) (s : ByteArray) (k' n' : Int) (s' : ByteArray) (sign : Int) (hs : sign = 1 ∨ sign = -1) (H : Heap) : Run tab (.fn n_q122) [.agg [i64D k, i64D n, strD s], .agg [i64D k', i64D n', strD s'], i64D sign] H
    (VE.enc (if sign = 1 then addV ⟨k, n, s⟩ ⟨k', n', s'⟩ else subV ⟨k, n, s⟩ ⟨k', n', s'⟩)) H := by
  refine cK.run (cK_fn o_q122 t_q122 (Nat.le_of_ble_eq_true rfl) (by decide) ?_)
  simp [(value_both_run _ _ _ _ _ _ _).cK]
  repeat' (refine gK_of (fun h => ?_) (fun h => ?_) <;> (try simp [h, (value_Right_run _ _ _ _).cK]))
  · rcases hs with rfl | rfl <;> simp at h <;> simp [addV, subV, h, VE.enc, valC, zVal]
  · rename_i h0
    simp at h0 h
    obtain ⟨r1, r2, k1, k2⟩ := both_zero h0
    have b1 := right_num r1 k1
    have b2 := right_num r2 k2
    simp only [maxNum] at b1 b2
    have hw : IntKind.i64.wrap (n + IntKind.i64.wrap (sign * n')) = n + sign * n' := by
      rcases hs with rfl | rfl <;> rw [wrap64 (n := _ * n') (by omega) (by omega), wrap64 (by omega) (by omega)]
    rw [hw] at h
    rcases hs with rfl | rfl <;> simp [addV, subV, h0, VE.enc, valC, zVal, emptyS, ofSum, maxNum] <;> simp [rightV, maxNum, emptyS] at h <;> grind
  · rename_i h0
    simp at h0 h
    obtain ⟨r1, r2, k1, k2⟩ := both_zero h0
    have b1 := right_num r1 k1
    have b2 := right_num r2 k2
    simp only [maxNum] at b1 b2
    have hw : IntKind.i64.wrap (n + IntKind.i64.wrap (sign * n')) = n + sign * n' := by
      rcases hs with rfl | rfl <;> rw [wrap64 (n := _ * n') (by omega) (by omega), wrap64 (by omega) (by omega)]
    rw [hw] at h ⊢
    rcases hs with rfl | rfl <;> simp [addV, subV, h0, VE.enc, valC, zVal, emptyS, ofSum, maxNum] <;> simp [rightV, maxNum, emptyS] at h <;> grind
theorem value_Add_run (k n : Int) (s : ByteArray) (k' n' : Int) (s' : ByteArray) (H : Heap) : Run tab (.fn n_q118) [.agg [i64D k, i64D n, strD s], .agg [i64D k', i64D n', strD s']] H (addV ⟨k, n, s⟩ ⟨k', n', s'⟩).enc H := by
  refine cK.run (cK_fn o_q118 t_q118 (Nat.le_of_ble_eq_true rfl) (by decide) ?_)
  simp [(value_reckoned_run _ _ _ _ _ _ _ (.inl rfl) _).cK, VE.enc, valC]
theorem value_Sub_run (k n : Int) (s : ByteArray) (k' n' : Int) (s' : ByteArray) (H : Heap) : Run tab (.fn n_q120) [.agg [i64D k, i64D n, strD s], .agg [i64D k', i64D n', strD s']] H (subV ⟨k, n, s⟩ ⟨k', n', s'⟩).enc H := by
  refine cK.run (cK_fn o_q120 t_q120 (Nat.le_of_ble_eq_true rfl) (by decide) ?_)
  simp [(value_reckoned_run _ _ _ _ _ _ _ (.inr rfl) _).cK, VE.enc, valC]
end Go.Proofs.YthdkeggdipogoaaGreatDoor.Tz
namespace Go.Proofs.YthdkeggdipogoaaGreatDoor.Tz
open Go.Aug Go.Aug.Api
set_option maxRecDepth 100000
theorem event_Find_1_run (s : TSchema) (name : ByteArray) (H : Heap) {r : Nat} (h : H.get r = some (.cells [strD name])) (hr : r < H.next) : Run tab (.fn n_q71) [.agg (schemaC s), .rf r 0] H (bD (decide (s.name = name))) H := by
  refine cK.run (cK_fn o_q71 t_q71 (Nat.le_of_ble_eq_true rfl) (by decide) ?_)
  have hne : (r = H.next) = False := by simp; omega
  simp [schemaC, Sl.enc, h, hne]
theorem event_Field_1_run (f : TField) (name : ByteArray) (H : Heap) {r : Nat} (h : H.get r = some (.cells [strD name])) (hr : r < H.next) : Run tab (.fn n_q69) [.agg (fieldC f), .rf r 0] H (bD (decide (f.name = name))) H := by
  refine cK.run (cK_fn o_q69 t_q69 (Nat.le_of_ble_eq_true rfl) (by decide) ?_)
  have hne : (r = H.next) = False := by simp; omega
  simp [fieldC, h, hne]
def findD (r : TSchema × Bool) : D := .tup [.agg (schemaC r.1), bD r.2]
theorem event_Find_run (l : Sl TSchema) (name : ByteArray) (H : Heap) : Run tab (.fn n_q70) [l.enc schemaC, strD name] H (findD (findS l.l name)) H := by
  refine cK.run (cK_fn o_q70 t_q70 (Nat.le_of_ble_eq_true rfl) (by decide) ?_)
  have call := fun (H1 : Heap) (r : Nat) (h : H1.get r = some (.cells [strD name])) (hr : r < H1.next) =>
    (IndexFunc_Schema_run schemaC_len (fun s => decide (s.name = name)) l.rep l.l l.ok n_q71 [] [.rf r 0] H1 (fun x => event_Find_1_run x name (low0 H1) (by simpa using h) (by simpa using hr))).cK
  simp [Sl.enc, call]
  rcases idx_cases (fun s : TSchema => decide (s.name = name)) l.l with ⟨h1, h2, h3⟩ | ⟨pre, x, suf, h1, h2, h3, h4, h5⟩
  · simp [h1, findS, h3, findD, zSchema, schemaC, Sl.enc, Sl.nil, slD, emptyS]
  · have h4' : idx (fun s : TSchema => decide (s.name = name)) (pre ++ x :: suf) = (pre.length : Nat) := by rw [← h1]; exact h4
    rw [show findS l.l name = (x, true) by simp [findS, h5]]
    simp [h1, h4', zip_at schemaC_len, load_elem _ _ _ _ (schemaC_len x)]
    simp [schemaC, findD, Sl.enc]
def fieldD (r : Int × Int) : D := .tup [i64D r.1, i64D r.2]
theorem event_Field_run (s : ByteArray) (l : Sl TField) (name : ByteArray) (H : Heap) : Run tab (.fn n_q68) [.agg [strD s, l.enc fieldC], strD name] H (fieldD (fieldS ⟨s, l⟩ name)) H := by
  refine cK.run (cK_fn o_q68 t_q68 (Nat.le_of_ble_eq_true rfl) (by decide) ?_)
  have call := fun (H1 : Heap) (r : Nat) (h : H1.get r = some (.cells [strD name])) (hr : r < H1.next) =>
    (IndexFunc_Field_run fieldC_len (fun s => decide (s.name = name)) l.rep l.l l.ok n_q69 [] [.rf r 0] H1 (fun x => event_Field_1_run x name (low0 H1) (by simpa using h) (by simpa using hr))).cK
  simp [Sl.enc, call]
  rcases idx_cases (fun s : TField => decide (s.name = name)) l.l with ⟨h1, h2, h3⟩ | ⟨pre, x, suf, h1, h2, h3, h4, h5⟩
  · simp [h1, fieldS, h3, fieldD]
  · have h4' : idx (fun s : TField => decide (s.name = name)) (pre ++ x :: suf) = (pre.length : Nat) := by rw [← h1]; exact h4
    rw [show fieldS ⟨s, l⟩ name = (((pre.length : Nat) : Int), x.kind) by simp [fieldS, h5, h4]]
    simp [h1, h4', zip_at fieldC_len]
    simp [fieldC, fieldD]
end Go.Proofs.YthdkeggdipogoaaGreatDoor.Tz
namespace Go.Proofs.YthdkeggdipogoaaGreatDoor.Tz
open Go.Aug Go.Aug.Api
set_option maxRecDepth 100000
def foldsD : List D := [.v .nilFunc, .v .nilFunc, .v .nilFunc, .v .nilFunc, .fn (.func n_q118) [] [], .fn (.func n_q67) [] [.cp [i64D (-1)]], .fn (.func n_q67) [] [.cp [i64D 1]]]
end Go.Proofs.YthdkeggdipogoaaGreatDoor.Tz
