/-
The walks of expressions: rows, fields. Conditions: none.
-/
import Derived.Test.YtnkbdcaiepecdaaGreatTW3
import Derived.Test.YtnkbdcaiepecdaaGreatTS2
namespace Go.Proofs.YtnkbdcaiepecdaaGreat.Tz
open Go.Aug Go.Aug.Api
set_option maxRecDepth 100000

theorem eval_scope_row_1_run (x : TItem) (name : ByteArray) (H : Heap) {r : Nat} (h : H.get r = some (.cells [strD name])) (hr : r < H.next) : Run tab (.fn n_eval_scope_row_1) [.agg (itemC x), .rf r 0] H (bD (decide (x.var = name))) H := by
  refine cK.run (cK_fn o_eval_scope_row_1 t_eval_scope_row_1 (Nat.le_of_ble_eq_true rfl) (by decide) ?_)
  have hne : (r = H.next) = False := by simp; omega
  simp [itemC, Sl.enc, h, hne]

theorem eval_scope_row_run (s : TScope) (v : ByteArray) (H : Heap) {r : Nat} (h : H.get r = some (.cells (scopeC s))) (hr : r < H.next) : Run tab (.fn n_eval_scope_row) [.rf r 0, strD v] H (.tup [(rowS s v).1.enc eventC, bD (rowS s v).2]) H := by
  refine cK.run (cK_fn o_eval_scope_row t_eval_scope_row (Nat.le_of_ble_eq_true rfl) (by decide) ?_)
  have hne : (r = H.next) = False := by simp; omega
  have call := fun (H1 : Heap) (r : Nat) (h : H1.get r = some (.cells [strD v])) (hr : r < H1.next) =>
    (IndexFunc_Item_run itemC_len (fun x => decide (x.var = v)) s.q.items.rep s.q.items.l s.q.items.ok n_eval_scope_row_1 [] [.rf r 0] H1 (fun x => eval_scope_row_1_run x v (low0 H1) (by simpa using h) (by simpa using hr))).cK
  rcases idx_cases (fun x : TItem => decide (x.var = v)) s.q.items.l with ⟨h1, -, -⟩ | ⟨pre, x, suf, -, -, -, h4, -⟩
  · simp [h, hne, scopeC, Sl.enc, call, h1, rowS]
    simp [Sl.nil, slD]
  · simp [h, hne, scopeC, Sl.enc, call, h4]
    refine gK_of (fun hlt => ?_) (fun hlt => ?_)
    · have hn : s.bound.l[pre.length]? = none := by simp at hlt; simp [hlt]
      simp [hlt, h4, rowS, hn, Sl.nil, slD]
    · simp [hlt, h, hne, scopeC, Sl.enc]
      have hn : ∃ r, s.bound.l[pre.length]? = some r := by simp at hlt; exact ⟨_, List.getElem?_eq_getElem hlt⟩
      obtain ⟨r, hn⟩ := hn
      simp [elem_at rowC_len _ _ _ _ _ hn]
      simp [rowC, rowS, h4, hn, Sl.enc]

theorem eval_scope_field_run (s : TScope) (ts depth seq : Int) (nm : ByteArray) (vals : Sl TVal) (name : ByteArray) (H : Heap) {r : Nat} (h : H.get r = some (.cells (scopeC s))) (hr : r < H.next) :
    Run tab (.fn n_eval_scope_field) [.rf r 0, .agg [i64D ts, i64D depth, i64D seq, strD nm, vals.enc valC], strD name] H (fieldE s ⟨ts, depth, seq, nm, vals⟩ name).enc H := by
  refine cK.run (cK_fn o_eval_scope_field t_eval_scope_field (Nat.le_of_ble_eq_true rfl) (by decide) ?_)
  have hne : (r = H.next) = False := by simp; omega
  have hne2 : ∀ k, (r = H.next + k) = False := by simp; omega
  have c1 := fun l name H => (event_Find_run l name H).cK
  have c2 := fun s l name H => (event_Field_run s l name H).cK
  simp only [Sl.enc] at c1 c2
  simp [h, hne, hne2, scopeC, Sl.enc, c1, c2, findD, schemaC, fieldD]
  repeat' (refine gK_of (fun h => ?_) (fun h => ?_) <;> (try simp [h]))
  · rename_i hf h0
    simp at h0 h
    obtain ⟨n, hn⟩ := Int.eq_ofNat_of_zero_le h0
    obtain ⟨v, hv⟩ : ∃ v, vals.l[n]? = some v := ⟨_, List.getElem?_eq_getElem (by omega)⟩
    simp [hn, elem_at valC_len _ _ _ _ _ hv, load_elem _ _ _ _ (valC_len v)]
    simp [valC, VE.enc, fieldE, hf, hn, hv]
  · rename_i hf h0
    simp at h0 h
    obtain ⟨n, hn⟩ := Int.eq_ofNat_of_zero_le h0
    have hv : vals.l[n]? = none := List.getElem?_eq_none (by omega)
    simp [VE.enc, fieldE, hf, hn, hv, zVal, valC]
  · rename_i hf
    simp [-Int.not_le, VE.enc, fieldE, hf, of_decide_eq_false h, zVal, valC]
  · simp [VE.enc, fieldE, h, zVal, valC]

theorem cmp_isNaN_int64_run (a : Int) (H : Heap) : Run tab (.fn n_cmp_isNaN_int64) [i64D a] H (bD false) H := by
  refine cK.run (cK_fn o_cmp_isNaN_int64 t_cmp_isNaN_int64 (Nat.le_of_ble_eq_true rfl) (by decide) ?_)
  simp


theorem cmp_Compare_int64_run (a b : Int) (H : Heap) : Run tab (.fn n_cmp_Compare_int64) [i64D a, i64D b] H (i64D (cmpI a b)) H := by
  refine cK.run (cK_fn o_cmp_Compare_int64 t_cmp_Compare_int64 (Nat.le_of_ble_eq_true rfl) (by decide) ?_)
  simp [(cmp_isNaN_int64_run _ _).cK]
  repeat' (refine gK_of (fun h => ?_) (fun h => ?_) <;> (try simp [h]))
  all_goals grind [cmpI]

/-- The better one of two numbers. -/
def betterV (sign : Int) (a b : TVal) : TVal := if 0 < cmpI b.n a.n * sign then b else a

theorem eval_folds_1_1_run (k n : Int) (s : ByteArray) (k' n' : Int) (s' : ByteArray) (sign : Int) (hs : sign = 1 ∨ sign = -1) (H : Heap) : Run tab (.fn n_eval_folds_1_1) [.agg [i64D k, i64D n, strD s], .agg [i64D k', i64D n', strD s'], .cp [i64D sign]] H
    (VE.enc (betterV sign ⟨k, n, s⟩ ⟨k', n', s'⟩, 0)) H := by
  refine cK.run (cK_fn o_eval_folds_1_1 t_eval_folds_1_1 (Nat.le_of_ble_eq_true rfl) (by decide) ?_)
  have hw : IntKind.i64.wrap (cmpI n' n * sign) = cmpI n' n * sign := by
    apply wrap64 <;> (unfold cmpI; rcases hs with rfl | rfl <;> split <;> (try split) <;> omega)
  simp [(cmp_Compare_int64_run _ _ _).cK, hw]
  repeat' (refine gK_of (fun h => ?_) (fun h => ?_) <;> (try simp [h]))
  · simp [VE.enc, valC, betterV, of_decide_eq_true h]
  · simp [-Int.not_lt, VE.enc, valC, betterV, of_decide_eq_false h]

theorem eval_folds_1_run (sign : Int) (H : Heap) : Run tab (.fn n_eval_folds_1) [i64D sign] H (.fn (.func n_eval_folds_1_1) [] [.cp [i64D sign]]) H := by
  refine cK.run (cK_fn o_eval_folds_1 t_eval_folds_1 (Nat.le_of_ble_eq_true rfl) (by decide) ?_)
  rw [z_eval_folds_1]
  simp [finX_frozen, frz_fn, frz_rf, frz_v, frzL_cons, frzL_nil]

def foldsD : List D := [.v .nilFunc, .v .nilFunc, .v .nilFunc, .v .nilFunc, .fn (.func n_value_Add) [] [], .fn (.func n_eval_folds_1_1) [] [.cp [i64D (-1)]], .fn (.func n_eval_folds_1_1) [] [.cp [i64D 1]]]

theorem eval_folds_run (H : Heap) : Run tab (.fn n_eval_folds) [] H (.agg foldsD) H := by
  refine cK.run (cK_fn o_eval_folds t_eval_folds (Nat.le_of_ble_eq_true rfl) (by decide) ?_)
  simp [(eval_folds_1_run _ _).cK, foldsD]

end Go.Proofs.YtnkbdcaiepecdaaGreat.Tz
