/-
slices.IndexFunc at some kinds: the place of the first that is so. Conditions: none.
-/
import Derived.Test.YtnpoicmaiieanaaGreatDoorTX0
import Derived.Test.YtnpoicmaiieanaaGreatDoorGS
namespace Go.Proofs.YtnpoicmaiieanaaGreatDoor.Tz
open Go.Aug Go.Aug.Api
set_option maxRecDepth 100000

theorem IndexFunc_Schema_run {α : Type} {c : α → List D} (hc : ∀ x, (c x).length = 2) (p : α → Bool) (rep : Option (Option Nat)) (l : List α) (hl : l.length ≤ big) (g : FuncId) (first caps : List D) (H : Heap)
    (hp : ∀ x, Run tab (.fn g) (first ++ .agg (c x) :: caps) (low0 H) (bD (p x)) (low0 H)) :
    Run tab (.fn n_slices_IndexFunc_Schema) [slD rep l.length (l.flatMap c), .fn (.func g) first caps] H (i64D (idx p l)) H := by
  refine cK.run (cK_fn o_slices_IndexFunc_Schema t_slices_IndexFunc_Schema (Nat.le_of_ble_eq_true rfl) (by decide) ?_)
  simp
  refine LR_rule (WR_mono _) (fun j E H' => H' = low0 H ∧ ∃ pre suf, l = pre ++ suf ∧ j = suf.length ∧ E 0 = slD rep l.length (l.flatMap c) ∧ E 1 = .fn (.func g) first caps ∧ E 7 = i64D l.length ∧ E 8 = i64D pre.length ∧ (∀ x ∈ pre, p x = false)) ?_
    (j := l.length) ⟨rfl, [], l, by simp⟩
  rintro j E H' ⟨rfl, pre, suf, h0, rfl, e0, e1, e7, e8, hpre⟩
  cases suf with
  | nil =>
    simp at h0
    subst h0
    simp [e7, e8, idx_none hpre]
  | cons x suf =>
    have hlt : pre.length < l.length := by simp [h0]
    simp [e0, e1, e7, e8, h0, zip_at hc, load_elem _ _ _ _ (hc x), (hp x).cK]
    refine gK_of (fun hx => ?_) (fun hx => ?_)
    · simp [e8, idx_some pre x suf hpre hx]
    · simp [e0, e1, e7, e8, h0, wrap_len hlt hl]
      exact ⟨suf.length, by omega, pre ++ [x], suf, by simp, rfl, by simp, fun y hy => by simp at hy; rcases hy with hy | rfl; exact hpre y hy; exact hx⟩


theorem IndexFunc_Field_run {α : Type} {c : α → List D} (hc : ∀ x, (c x).length = 2) (p : α → Bool) (rep : Option (Option Nat)) (l : List α) (hl : l.length ≤ big) (g : FuncId) (first caps : List D) (H : Heap)
    (hp : ∀ x, Run tab (.fn g) (first ++ .agg (c x) :: caps) (low0 H) (bD (p x)) (low0 H)) :
    Run tab (.fn n_slices_IndexFunc_Field) [slD rep l.length (l.flatMap c), .fn (.func g) first caps] H (i64D (idx p l)) H := by
  refine cK.run (cK_fn o_slices_IndexFunc_Field t_slices_IndexFunc_Field (Nat.le_of_ble_eq_true rfl) (by decide) ?_)
  simp
  refine LR_rule (WR_mono _) (fun j E H' => H' = low0 H ∧ ∃ pre suf, l = pre ++ suf ∧ j = suf.length ∧ E 0 = slD rep l.length (l.flatMap c) ∧ E 1 = .fn (.func g) first caps ∧ E 7 = i64D l.length ∧ E 8 = i64D pre.length ∧ (∀ x ∈ pre, p x = false)) ?_
    (j := l.length) ⟨rfl, [], l, by simp⟩
  rintro j E H' ⟨rfl, pre, suf, h0, rfl, e0, e1, e7, e8, hpre⟩
  cases suf with
  | nil =>
    simp at h0
    subst h0
    simp [e7, e8, idx_none hpre]
  | cons x suf =>
    have hlt : pre.length < l.length := by simp [h0]
    simp [e0, e1, e7, e8, h0, zip_at hc, load_elem _ _ _ _ (hc x), (hp x).cK]
    refine gK_of (fun hx => ?_) (fun hx => ?_)
    · simp [e8, idx_some pre x suf hpre hx]
    · simp [e0, e1, e7, e8, h0, wrap_len hlt hl]
      exact ⟨suf.length, by omega, pre ++ [x], suf, by simp, rfl, by simp, fun y hy => by simp at hy; rcases hy with hy | rfl; exact hpre y hy; exact hx⟩


theorem IndexFunc_Item_run {α : Type} {c : α → List D} (hc : ∀ x, (c x).length = 4) (p : α → Bool) (rep : Option (Option Nat)) (l : List α) (hl : l.length ≤ big) (g : FuncId) (first caps : List D) (H : Heap)
    (hp : ∀ x, Run tab (.fn g) (first ++ .agg (c x) :: caps) (low0 H) (bD (p x)) (low0 H)) :
    Run tab (.fn n_slices_IndexFunc_Item) [slD rep l.length (l.flatMap c), .fn (.func g) first caps] H (i64D (idx p l)) H := by
  refine cK.run (cK_fn o_slices_IndexFunc_Item t_slices_IndexFunc_Item (Nat.le_of_ble_eq_true rfl) (by decide) ?_)
  simp
  refine LR_rule (WR_mono _) (fun j E H' => H' = low0 H ∧ ∃ pre suf, l = pre ++ suf ∧ j = suf.length ∧ E 0 = slD rep l.length (l.flatMap c) ∧ E 1 = .fn (.func g) first caps ∧ E 7 = i64D l.length ∧ E 8 = i64D pre.length ∧ (∀ x ∈ pre, p x = false)) ?_
    (j := l.length) ⟨rfl, [], l, by simp⟩
  rintro j E H' ⟨rfl, pre, suf, h0, rfl, e0, e1, e7, e8, hpre⟩
  cases suf with
  | nil =>
    simp at h0
    subst h0
    simp [e7, e8, idx_none hpre]
  | cons x suf =>
    have hlt : pre.length < l.length := by simp [h0]
    simp [e0, e1, e7, e8, h0, zip_at hc, load_elem _ _ _ _ (hc x), (hp x).cK]
    refine gK_of (fun hx => ?_) (fun hx => ?_)
    · simp [e8, idx_some pre x suf hpre hx]
    · simp [e0, e1, e7, e8, h0, wrap_len hlt hl]
      exact ⟨suf.length, by omega, pre ++ [x], suf, by simp, rfl, by simp, fun y hy => by simp at hy; rcases hy with hy | rfl; exact hpre y hy; exact hx⟩





end Go.Proofs.YtnpoicmaiieanaaGreatDoor.Tz

/- The walks of values. Conditions: none. -/

namespace Go.Proofs.YtnpoicmaiieanaaGreatDoor.Tz
open Go.Aug Go.Aug.Api
set_option maxRecDepth 100000

theorem value_Right_run (k n : Int) (s : ByteArray) (H : Heap) : Run tab (.fn n_value_Right) [.agg [i64D k, i64D n, strD s]] H (bD (rightV ⟨k, n, s⟩)) H := by
  refine cK.run (cK_fn o_value_Right t_value_Right (Nat.le_of_ble_eq_true rfl) (by decide) ?_)
  simp
  repeat' (refine gK_of (fun h => ?_) (fun h => ?_) <;> (try simp [h]))
  all_goals grind [rightV, maxNum, emptyS]



end Go.Proofs.YtnpoicmaiieanaaGreatDoor.Tz

/- The walks of events and their schemas. Conditions: none. -/

namespace Go.Proofs.YtnpoicmaiieanaaGreatDoor.Tz
open Go.Aug Go.Aug.Api
set_option maxRecDepth 100000

theorem event_Find_1_run (s : TSchema) (name : ByteArray) (H : Heap) {r : Nat} (h : H.get r = some (.cells [strD name])) (hr : r < H.next) : Run tab (.fn n_event_Find_1) [.agg (schemaC s), .rf r 0] H (bD (decide (s.name = name))) H := by
  refine cK.run (cK_fn o_event_Find_1 t_event_Find_1 (Nat.le_of_ble_eq_true rfl) (by decide) ?_)
  have hne : (r = H.next) = False := by simp; omega
  simp [schemaC, Sl.enc, h, hne]

theorem event_Field_1_run (f : TField) (name : ByteArray) (H : Heap) {r : Nat} (h : H.get r = some (.cells [strD name])) (hr : r < H.next) : Run tab (.fn n_event_Field_1) [.agg (fieldC f), .rf r 0] H (bD (decide (f.name = name))) H := by
  refine cK.run (cK_fn o_event_Field_1 t_event_Field_1 (Nat.le_of_ble_eq_true rfl) (by decide) ?_)
  have hne : (r = H.next) = False := by simp; omega
  simp [fieldC, h, hne]

def findD (r : TSchema × Bool) : D := .tup [.agg (schemaC r.1), bD r.2]

theorem event_Find_run (l : Sl TSchema) (name : ByteArray) (H : Heap) : Run tab (.fn n_event_Find) [l.enc schemaC, strD name] H (findD (findS l.l name)) H := by
  refine cK.run (cK_fn o_event_Find t_event_Find (Nat.le_of_ble_eq_true rfl) (by decide) ?_)
  have call := fun (H1 : Heap) (r : Nat) (h : H1.get r = some (.cells [strD name])) (hr : r < H1.next) =>
    (IndexFunc_Schema_run schemaC_len (fun s => decide (s.name = name)) l.rep l.l l.ok n_event_Find_1 [] [.rf r 0] H1 (fun x => event_Find_1_run x name (low0 H1) (by simpa using h) (by simpa using hr))).cK
  simp [Sl.enc, call]
  rcases idx_cases (fun s : TSchema => decide (s.name = name)) l.l with ⟨h1, h2, h3⟩ | ⟨pre, x, suf, h1, h2, h3, h4, h5⟩
  · simp [h1, findS, h3, findD, zSchema, schemaC, Sl.enc, Sl.nil, slD, emptyS]
  · have h4' : idx (fun s : TSchema => decide (s.name = name)) (pre ++ x :: suf) = (pre.length : Nat) := by rw [← h1]; exact h4
    rw [show findS l.l name = (x, true) by simp [findS, h5]]
    simp [h1, h4', zip_at schemaC_len, load_elem _ _ _ _ (schemaC_len x)]
    simp [schemaC, findD, Sl.enc]

def fieldD (r : Int × Int) : D := .tup [i64D r.1, i64D r.2]

theorem event_Field_run (s : ByteArray) (l : Sl TField) (name : ByteArray) (H : Heap) : Run tab (.fn n_event_Field) [.agg [strD s, l.enc fieldC], strD name] H (fieldD (fieldS ⟨s, l⟩ name)) H := by
  refine cK.run (cK_fn o_event_Field t_event_Field (Nat.le_of_ble_eq_true rfl) (by decide) ?_)
  have call := fun (H1 : Heap) (r : Nat) (h : H1.get r = some (.cells [strD name])) (hr : r < H1.next) =>
    (IndexFunc_Field_run fieldC_len (fun s => decide (s.name = name)) l.rep l.l l.ok n_event_Field_1 [] [.rf r 0] H1 (fun x => event_Field_1_run x name (low0 H1) (by simpa using h) (by simpa using hr))).cK
  simp [Sl.enc, call]
  rcases idx_cases (fun s : TField => decide (s.name = name)) l.l with ⟨h1, h2, h3⟩ | ⟨pre, x, suf, h1, h2, h3, h4, h5⟩
  · simp [h1, fieldS, h3, fieldD]
  · have h4' : idx (fun s : TField => decide (s.name = name)) (pre ++ x :: suf) = (pre.length : Nat) := by rw [← h1]; exact h4
    rw [show fieldS ⟨s, l⟩ name = (((pre.length : Nat) : Int), x.kind) by simp [fieldS, h5, h4]]
    simp [h1, h4', zip_at fieldC_len]
    simp [fieldC, fieldD]

end Go.Proofs.YtnpoicmaiieanaaGreatDoor.Tz

/- The walks of expressions: rows, fields. Conditions: none. -/

namespace Go.Proofs.YtnpoicmaiieanaaGreatDoor.Tz
open Go.Aug Go.Aug.Api
set_option maxRecDepth 100000

/-- The better one of two numbers. -/
def betterV (sign : Int) (a b : TVal) : TVal := if 0 < cmpI b.n a.n * sign then b else a



end Go.Proofs.YtnpoicmaiieanaaGreatDoor.Tz
