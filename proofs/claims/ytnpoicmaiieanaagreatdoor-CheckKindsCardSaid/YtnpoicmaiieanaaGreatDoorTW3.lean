/-
The walks of events and their schemas. Conditions: none.
-/
import Derived.Test.YtnpoicmaiieanaaGreatDoorTW2
namespace Go.Proofs.YtnpoicmaiieanaaGreatDoor.Tz
open Go.Aug Go.Aug.Api
set_option maxRecDepth 100000

theorem event_Find_1_run (s : TSchema) (name : ByteArray) (H : Heap) {r : Nat} (h : H.get r = some (.cells [strD name])) (hr : r < H.next) : Run tab (.fn n_event_Find_1) [.agg (schemaC s), .rf r 0] H (bD (decide (s.name = name))) H := by
  refine cK.run (cK_fn o_event_Find_1 t_event_Find_1 (Nat.le_of_ble_eq_true rfl) (by decide) ?_)
  have hne : (r = H.next) = False := by simp; omega
  simp [schemaC, Sl.enc, h, hne]

theorem event_Field_1_run (f : TField) (name : ByteArray) (H : Heap) {r : Nat} (h : H.get r = some (.cells [strD name])) (hr : r < H.next) : Run tab (.fn n_event_Field_1) [.agg (fieldC f), .rf r 0] H (bD (decide (f.name = name))) H := by
  refine cK.run (cK_fn o_event_Field_1 t_event_Field_1 (Nat.le_of_ble_eq_true rfl) (by decide) ?_)
  have hne : (r = H.next) = False := by simp; omega
  simp [fieldC, h, hne]

def findD (r : TSchema × Bool) : D := .tup [.agg (schemaC r.1), bD r.2]

theorem event_Find_run (l : Sl TSchema) (name : ByteArray) (H : Heap) : Run tab (.fn n_event_Find) [l.enc schemaC, strD name] H (findD (findS l.l name)) H := by
  refine cK.run (cK_fn o_event_Find t_event_Find (Nat.le_of_ble_eq_true rfl) (by decide) ?_)
  have call := fun (H1 : Heap) (r : Nat) (h : H1.get r = some (.cells [strD name])) (hr : r < H1.next) =>
    (IndexFunc_Schema_run schemaC_len (fun s => decide (s.name = name)) l.rep l.l l.ok n_event_Find_1 [] [.rf r 0] H1 (fun x => event_Find_1_run x name (low0 H1) (by simpa using h) (by simpa using hr))).cK
  simp [Sl.enc, call]
  rcases idx_cases (fun s : TSchema => decide (s.name = name)) l.l with ⟨h1, h2, h3⟩ | ⟨pre, x, suf, h1, h2, h3, h4, h5⟩
  · simp [h1, findS, h3, findD, zSchema, schemaC, Sl.enc, Sl.nil, slD, emptyS]
  · have h4' : idx (fun s : TSchema => decide (s.name = name)) (pre ++ x :: suf) = (pre.length : Nat) := by rw [← h1]; exact h4
    rw [show findS l.l name = (x, true) by simp [findS, h5]]
    simp [h1, h4', zip_at schemaC_len, load_elem _ _ _ _ (schemaC_len x)]
    simp [schemaC, findD, Sl.enc]

def fieldD (r : Int × Int) : D := .tup [i64D r.1, i64D r.2]

theorem event_Field_run (s : ByteArray) (l : Sl TField) (name : ByteArray) (H : Heap) : Run tab (.fn n_event_Field) [.agg [strD s, l.enc fieldC], strD name] H (fieldD (fieldS ⟨s, l⟩ name)) H := by
  refine cK.run (cK_fn o_event_Field t_event_Field (Nat.le_of_ble_eq_true rfl) (by decide) ?_)
  have call := fun (H1 : Heap) (r : Nat) (h : H1.get r = some (.cells [strD name])) (hr : r < H1.next) =>
    (IndexFunc_Field_run fieldC_len (fun s => decide (s.name = name)) l.rep l.l l.ok n_event_Field_1 [] [.rf r 0] H1 (fun x => event_Field_1_run x name (low0 H1) (by simpa using h) (by simpa using hr))).cK
  simp [Sl.enc, call]
  rcases idx_cases (fun s : TField => decide (s.name = name)) l.l with ⟨h1, h2, h3⟩ | ⟨pre, x, suf, h1, h2, h3, h4, h5⟩
  · simp [h1, fieldS, h3, fieldD]
  · have h4' : idx (fun s : TField => decide (s.name = name)) (pre ++ x :: suf) = (pre.length : Nat) := by rw [← h1]; exact h4
    rw [show fieldS ⟨s, l⟩ name = (((pre.length : Nat) : Int), x.kind) by simp [fieldS, h5, h4]]
    simp [h1, h4', zip_at fieldC_len]
    simp [fieldC, fieldD]

end Go.Proofs.YtnpoicmaiieanaaGreatDoor.Tz
