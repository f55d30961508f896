/-
The walks of values. Conditions: none.
-/
import Derived.Test.YtnkbdcaiepecdaaGreatTW1
namespace Go.Proofs.YtnkbdcaiepecdaaGreat.Tz
open Go.Aug Go.Aug.Api
set_option maxRecDepth 100000

theorem value_Right_run (k n : Int) (s : ByteArray) (H : Heap) : Run tab (.fn n_value_Right) [.agg [i64D k, i64D n, strD s]] H (bD (rightV ⟨k, n, s⟩)) H := by
  refine cK.run (cK_fn o_value_Right t_value_Right (Nat.le_of_ble_eq_true rfl) (by decide) ?_)
  simp
  repeat' (refine gK_of (fun h => ?_) (fun h => ?_) <;> (try simp [h]))
  all_goals grind [rightV, maxNum, emptyS]

theorem value_both_run (k n : Int) (s : ByteArray) (k' n' : Int) (s' : ByteArray) (H : Heap) : Run tab (.fn n_value_both) [.agg [i64D k, i64D n, strD s], .agg [i64D k', i64D n', strD s']] H (i64D (bothV ⟨k, n, s⟩ ⟨k', n', s'⟩)) H := by
  refine cK.run (cK_fn o_value_both t_value_both (Nat.le_of_ble_eq_true rfl) (by decide) ?_)
  simp [(value_Right_run _ _ _ _).cK]
  repeat' (refine gK_of (fun h => ?_) (fun h => ?_) <;> (try simp [h, (value_Right_run _ _ _ _).cK]))
  all_goals grind [bothV]

theorem value_reckoned_run (k n : Int) (s : ByteArray) (k' n' : Int) (s' : ByteArray) (sign : Int) (hs : sign = 1 ∨ sign = -1) (H : Heap) : Run tab (.fn n_value_reckoned) [.agg [i64D k, i64D n, strD s], .agg [i64D k', i64D n', strD s'], i64D sign] H
    (VE.enc (if sign = 1 then addV ⟨k, n, s⟩ ⟨k', n', s'⟩ else subV ⟨k, n, s⟩ ⟨k', n', s'⟩)) H := by
  refine cK.run (cK_fn o_value_reckoned t_value_reckoned (Nat.le_of_ble_eq_true rfl) (by decide) ?_)
  simp [(value_both_run _ _ _ _ _ _ _).cK]
  repeat' (refine gK_of (fun h => ?_) (fun h => ?_) <;> (try simp [h, (value_Right_run _ _ _ _).cK]))
  · rcases hs with rfl | rfl <;> simp at h <;> simp [addV, subV, h, VE.enc, valC, zVal]
  · rename_i h0
    simp at h0 h
    obtain ⟨r1, r2, k1, k2⟩ := both_zero h0
    have b1 := right_num r1 k1
    have b2 := right_num r2 k2
    simp only [maxNum] at b1 b2
    have hw : IntKind.i64.wrap (n + IntKind.i64.wrap (sign * n')) = n + sign * n' := by
      rcases hs with rfl | rfl <;> rw [wrap64 (n := _ * n') (by omega) (by omega), wrap64 (by omega) (by omega)]
    rw [hw] at h
    rcases hs with rfl | rfl <;> simp [addV, subV, h0, VE.enc, valC, zVal, emptyS, ofSum, maxNum] <;> simp [rightV, maxNum, emptyS] at h <;> grind
  · rename_i h0
    simp at h0 h
    obtain ⟨r1, r2, k1, k2⟩ := both_zero h0
    have b1 := right_num r1 k1
    have b2 := right_num r2 k2
    simp only [maxNum] at b1 b2
    have hw : IntKind.i64.wrap (n + IntKind.i64.wrap (sign * n')) = n + sign * n' := by
      rcases hs with rfl | rfl <;> rw [wrap64 (n := _ * n') (by omega) (by omega), wrap64 (by omega) (by omega)]
    rw [hw] at h ⊢
    rcases hs with rfl | rfl <;> simp [addV, subV, h0, VE.enc, valC, zVal, emptyS, ofSum, maxNum] <;> simp [rightV, maxNum, emptyS] at h <;> grind

theorem value_Add_run (k n : Int) (s : ByteArray) (k' n' : Int) (s' : ByteArray) (H : Heap) : Run tab (.fn n_value_Add) [.agg [i64D k, i64D n, strD s], .agg [i64D k', i64D n', strD s']] H (addV ⟨k, n, s⟩ ⟨k', n', s'⟩).enc H := by
  refine cK.run (cK_fn o_value_Add t_value_Add (Nat.le_of_ble_eq_true rfl) (by decide) ?_)
  simp [(value_reckoned_run _ _ _ _ _ _ _ (.inl rfl) _).cK, VE.enc, valC]

theorem value_Sub_run (k n : Int) (s : ByteArray) (k' n' : Int) (s' : ByteArray) (H : Heap) : Run tab (.fn n_value_Sub) [.agg [i64D k, i64D n, strD s], .agg [i64D k', i64D n', strD s']] H (subV ⟨k, n, s⟩ ⟨k', n', s'⟩).enc H := by
  refine cK.run (cK_fn o_value_Sub t_value_Sub (Nat.le_of_ble_eq_true rfl) (by decide) ?_)
  simp [(value_reckoned_run _ _ _ _ _ _ _ (.inr rfl) _).cK, VE.enc, valC]

end Go.Proofs.YtnkbdcaiepecdaaGreat.Tz
