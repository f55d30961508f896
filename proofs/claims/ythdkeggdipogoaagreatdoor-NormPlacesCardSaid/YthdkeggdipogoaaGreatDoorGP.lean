/-
slices.IndexFunc at some kinds: the place of the first that is so. Conditions: none.
-/
import Derived.Test.YthdkeggdipogoaaGreatDoorTX0
import Derived.Test.YthdkeggdipogoaaGreatDoorGS
namespace Go.Proofs.YthdkeggdipogoaaGreatDoor.Tz
open Go.Aug Go.Aug.Api
set_option maxRecDepth 100000
theorem IndexFunc_Item_run {α : Type} {c : α → List D} (hc : ∀ x, (c x).length = 4) (p : α → Bool) (rep : Option (Option Nat)) (l : List α) (hl : l.length ≤ big) (g : FuncId) (first caps : List D) (H : Heap)
    (hp : ∀ x, Run tab (.fn g) (first ++ .agg (c x) :: caps) (low0 H) (bD (p x)) (low0 H)) :
    Run tab (.fn n_slices_IndexFunc_Item) [slD rep l.length (l.flatMap c), .fn (.func g) first caps] H (i64D (idx p l)) H := by
  refine cK.run (cK_fn o_slices_IndexFunc_Item t_slices_IndexFunc_Item (Nat.le_of_ble_eq_true rfl) (by decide) ?_)
  simp
  refine LR_rule (WR_mono _) (fun j E H' => H' = low0 H ∧ ∃ pre suf, l = pre ++ suf ∧ j = suf.length ∧ E 0 = slD rep l.length (l.flatMap c) ∧ E 1 = .fn (.func g) first caps ∧ E 7 = i64D l.length ∧ E 8 = i64D pre.length ∧ (∀ x ∈ pre, p x = false)) ?_
    (j := l.length) ⟨rfl, [], l, by simp⟩
  rintro j E H' ⟨rfl, pre, suf, h0, rfl, e0, e1, e7, e8, hpre⟩
  cases suf with
  | nil =>
    simp at h0
    subst h0
    simp [e7, e8, idx_none hpre]
  | cons x suf =>
    have hlt : pre.length < l.length := by simp [h0]
    simp [e0, e1, e7, e8, h0, zip_at hc, load_elem _ _ _ _ (hc x), (hp x).cK]
    refine gK_of (fun hx => ?_) (fun hx => ?_)
    · simp [e8, idx_some pre x suf hpre hx]
    · simp [e0, e1, e7, e8, h0, wrap_len hlt hl]
      exact ⟨suf.length, by omega, pre ++ [x], suf, by simp, rfl, by simp, fun y hy => by simp at hy; rcases hy with hy | rfl; exact hpre y hy; exact hx⟩
end Go.Proofs.YthdkeggdipogoaaGreatDoor.Tz
namespace Go.Proofs.YthdkeggdipogoaaGreatDoor.Tz
open Go.Aug Go.Aug.Api
set_option maxRecDepth 100000
theorem value_Right_run (k n : Int) (s : ByteArray) (H : Heap) : Run tab (.fn n_value_Right) [.agg [i64D k, i64D n, strD s]] H (bD (rightV ⟨k, n, s⟩)) H := by
  refine cK.run (cK_fn o_value_Right t_value_Right (Nat.le_of_ble_eq_true rfl) (by decide) ?_)
  simp
  repeat' (refine gK_of (fun h => ?_) (fun h => ?_) <;> (try simp [h]))
  all_goals grind [rightV, maxNum, emptyS]
theorem value_both_run (k n : Int) (s : ByteArray) (k' n' : Int) (s' : ByteArray) (H : Heap) : Run tab (.fn n_value_both) [.agg [i64D k, i64D n, strD s], .agg [i64D k', i64D n', strD s']] H (i64D (bothV ⟨k, n, s⟩ ⟨k', n', s'⟩)) H := by
  refine cK.run (cK_fn o_value_both t_value_both (Nat.le_of_ble_eq_true rfl) (by decide) ?_)
  simp [(value_Right_run _ _ _ _).cK]
  repeat' (refine gK_of (fun h => ?_) (fun h => ?_) <;> (try simp [h, (value_Right_run _ _ _ _).cK]))
  all_goals grind [bothV]
theorem value_reckoned_run (k n : Int) (s : ByteArray) (k' n' : Int) (s' : ByteArray) (sign : Int) (hs : sign = 1 ∨ sign = -1) (H : Heap) : Run tab (.fn n_value_reckoned) [.agg [i64D k, i64D n, strD s], .agg [i64D k', i64D n', strD s'], i64D sign] H
    (VE.enc (if sign = 1 then addV ⟨k, n, s⟩ ⟨k', n', s'⟩ else subV ⟨k, n, s⟩ ⟨k', n', s'⟩)) H := by
  refine cK.run (cK_fn o_value_reckoned t_value_reckoned (Nat.le_of_ble_eq_true rfl) (by decide) ?_)
  simp [(value_both_run _ _ _ _ _ _ _).cK]
  repeat' (refine gK_of (fun h => ?_) (fun h => ?_) <;> (try simp [h, (value_Right_run _ _ _ _).cK]))
  · rcases hs with rfl | rfl <;> simp at h <;> simp [addV, subV, h, VE.enc, valC, zVal]
  · rename_i h0
    simp at h0 h
    obtain ⟨r1, r2, k1, k2⟩ := both_zero h0
    have b1 := right_num r1 k1
    have b2 := right_num r2 k2
    simp only [maxNum] at b1 b2
    have hw : IntKind.i64.wrap (n + IntKind.i64.wrap (sign * n')) = n + sign * n' := by
      rcases hs with rfl | rfl <;> rw [wrap64 (n := _ * n') (by omega) (by omega), wrap64 (by omega) (by omega)]
    rw [hw] at h
    rcases hs with rfl | rfl <;> simp [addV, subV, h0, VE.enc, valC, zVal, emptyS, ofSum, maxNum] <;> simp [rightV, maxNum, emptyS] at h <;> grind
  · rename_i h0
    simp at h0 h
    obtain ⟨r1, r2, k1, k2⟩ := both_zero h0
    have b1 := right_num r1 k1
    have b2 := right_num r2 k2
    simp only [maxNum] at b1 b2
    have hw : IntKind.i64.wrap (n + IntKind.i64.wrap (sign * n')) = n + sign * n' := by
      rcases hs with rfl | rfl <;> rw [wrap64 (n := _ * n') (by omega) (by omega), wrap64 (by omega) (by omega)]
    rw [hw] at h ⊢
    rcases hs with rfl | rfl <;> simp [addV, subV, h0, VE.enc, valC, zVal, emptyS, ofSum, maxNum] <;> simp [rightV, maxNum, emptyS] at h <;> grind
theorem value_Add_run (k n : Int) (s : ByteArray) (k' n' : Int) (s' : ByteArray) (H : Heap) : Run tab (.fn n_value_Add) [.agg [i64D k, i64D n, strD s], .agg [i64D k', i64D n', strD s']] H (addV ⟨k, n, s⟩ ⟨k', n', s'⟩).enc H := by
  refine cK.run (cK_fn o_value_Add t_value_Add (Nat.le_of_ble_eq_true rfl) (by decide) ?_)
  simp [(value_reckoned_run _ _ _ _ _ _ _ (.inl rfl) _).cK, VE.enc, valC]
theorem value_Sub_run (k n : Int) (s : ByteArray) (k' n' : Int) (s' : ByteArray) (H : Heap) : Run tab (.fn n_value_Sub) [.agg [i64D k, i64D n, strD s], .agg [i64D k', i64D n', strD s']] H (subV ⟨k, n, s⟩ ⟨k', n', s'⟩).enc H := by
  refine cK.run (cK_fn o_value_Sub t_value_Sub (Nat.le_of_ble_eq_true rfl) (by decide) ?_)
  simp [(value_reckoned_run _ _ _ _ _ _ _ (.inr rfl) _).cK, VE.enc, valC]
end Go.Proofs.YthdkeggdipogoaaGreatDoor.Tz
namespace Go.Proofs.YthdkeggdipogoaaGreatDoor.Tz
open Go.Aug Go.Aug.Api
set_option maxRecDepth 100000
def findD (r : TSchema × Bool) : D := .tup [.agg (schemaC r.1), bD r.2]
end Go.Proofs.YthdkeggdipogoaaGreatDoor.Tz
namespace Go.Proofs.YthdkeggdipogoaaGreatDoor.Tz
open Go.Aug Go.Aug.Api
set_option maxRecDepth 100000
def foldsD : List D := [.v .nilFunc, .v .nilFunc, .v .nilFunc, .v .nilFunc, .fn (.func n_value_Add) [] [], .fn (.func n_eval_folds_1_1) [] [.cp [i64D (-1)]], .fn (.func n_eval_folds_1_1) [] [.cp [i64D 1]]]
end Go.Proofs.YthdkeggdipogoaaGreatDoor.Tz

namespace Go.Proofs.YthdkeggdipogoaaGreatDoor.Tz
open Go.Aug Go.Aug.Api
set_option maxRecDepth 100000
structure FoldI (H : Heap) (xc : List D) (H' : Heap) (out : TVal) (first : Bool) (res : TVal) (err : Int) (rc : O) : Prop where
  next : H.next + 7 ≤ H'.next
  low : H.next ≤ H'.low
  low' : H'.low ≤ H'.next
  old : ∀ k, k < H.next → H'.get k = H.get k
  g0 : H'.get H.next = some (.cells xc)
  g1 : H'.get (H.next + 1) = some (.cells (valC res))
  g2 : H'.get (H.next + 2) = some (.cells [i64D err])
  g3 : H'.get (H.next + 3) = some (.cells (valC out))
  g4 : H'.get (H.next + 4) = some (.cells foldsD)
  g5 : H'.get (H.next + 5) = some (.cells [bD first])
  g6 : H'.get (H.next + 6) = some rc
theorem FoldI.add {H : Heap} {xc : List D} {H' : Heap} {out : TVal} {first : Bool} {res : TVal} {err : Int} {rc : O} (h : FoldI H xc H' out first res err rc) (o : O) : FoldI H xc (H'.add o) out first res err rc := by
  have hn := h.next
  have hl := h.low'
  refine ⟨by simp; omega, by simp [h.low], by simp; omega, fun k hk => ?_, ?_, ?_, ?_, ?_, ?_, ?_, ?_⟩
  · rw [get_add, if_neg (by omega), h.old k hk]
  · rw [get_add, if_neg (by omega), h.g0]
  · rw [get_add, if_neg (by omega), h.g1]
  · rw [get_add, if_neg (by omega), h.g2]
  · rw [get_add, if_neg (by omega), h.g3]
  · rw [get_add, if_neg (by omega), h.g4]
  · rw [get_add, if_neg (by omega), h.g5]
  · rw [get_add, if_neg (by omega), h.g6]
end Go.Proofs.YthdkeggdipogoaaGreatDoor.Tz

namespace Go.Proofs.YthdkeggdipogoaaGreatDoor.Tz
open Go.Aug Go.Aug.Api
set_option maxRecDepth 100000
end Go.Proofs.YthdkeggdipogoaaGreatDoor.Tz
