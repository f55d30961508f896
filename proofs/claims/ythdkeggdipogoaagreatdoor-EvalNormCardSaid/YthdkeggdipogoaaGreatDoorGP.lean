/-
slices.IndexFunc at some kinds: the place of the first that is so. Conditions: none.
-/
import Derived.Test.YthdkeggdipogoaaGreatDoorTX0
import Derived.Test.YthdkeggdipogoaaGreatDoorGS
namespace Go.Proofs.YthdkeggdipogoaaGreatDoor.Tz
open Go.Aug Go.Aug.Api
set_option maxRecDepth 100000
theorem IndexFunc_Schema_run {α : Type} {c : α → List D} (hc : ∀ x, (c x).length = 2) (p : α → Bool) (rep : Option (Option Nat)) (l : List α) (hl : l.length ≤ big) (g : FuncId) (first caps : List D) (H : Heap)
    (hp : ∀ x, Run tab (.fn g) (first ++ .agg (c x) :: caps) (low0 H) (bD (p x)) (low0 H)) :
    Run tab (.fn n_slices_IndexFunc_Schema) [slD rep l.length (l.flatMap c), .fn (.func g) first caps] H (i64D (idx p l)) H := by
  refine cK.run (cK_fn o_slices_IndexFunc_Schema t_slices_IndexFunc_Schema (Nat.le_of_ble_eq_true rfl) (by decide) ?_)
  simp
  refine LR_rule (WR_mono _) (fun j E H' => H' = low0 H ∧ ∃ pre suf, l = pre ++ suf ∧ j = suf.length ∧ E 0 = slD rep l.length (l.flatMap c) ∧ E 1 = .fn (.func g) first caps ∧ E 7 = i64D l.length ∧ E 8 = i64D pre.length ∧ (∀ x ∈ pre, p x = false)) ?_
    (j := l.length) ⟨rfl, [], l, by simp⟩
  rintro j E H' ⟨rfl, pre, suf, h0, rfl, e0, e1, e7, e8, hpre⟩
  cases suf with
  | nil =>
    simp at h0
    subst h0
    simp [e7, e8, idx_none hpre]
  | cons x suf =>
    have hlt : pre.length < l.length := by simp [h0]
    simp [e0, e1, e7, e8, h0, zip_at hc, load_elem _ _ _ _ (hc x), (hp x).cK]
    refine gK_of (fun hx => ?_) (fun hx => ?_)
    · simp [e8, idx_some pre x suf hpre hx]
    · simp [e0, e1, e7, e8, h0, wrap_len hlt hl]
      exact ⟨suf.length, by omega, pre ++ [x], suf, by simp, rfl, by simp, fun y hy => by simp at hy; rcases hy with hy | rfl; exact hpre y hy; exact hx⟩
theorem IndexFunc_Field_run {α : Type} {c : α → List D} (hc : ∀ x, (c x).length = 2) (p : α → Bool) (rep : Option (Option Nat)) (l : List α) (hl : l.length ≤ big) (g : FuncId) (first caps : List D) (H : Heap)
    (hp : ∀ x, Run tab (.fn g) (first ++ .agg (c x) :: caps) (low0 H) (bD (p x)) (low0 H)) :
    Run tab (.fn n_slices_IndexFunc_Field) [slD rep l.length (l.flatMap c), .fn (.func g) first caps] H (i64D (idx p l)) H := by
  refine cK.run (cK_fn o_slices_IndexFunc_Field t_slices_IndexFunc_Field (Nat.le_of_ble_eq_true rfl) (by decide) ?_)
  simp
  refine LR_rule (WR_mono _) (fun j E H' => H' = low0 H ∧ ∃ pre suf, l = pre ++ suf ∧ j = suf.length ∧ E 0 = slD rep l.length (l.flatMap c) ∧ E 1 = .fn (.func g) first caps ∧ E 7 = i64D l.length ∧ E 8 = i64D pre.length ∧ (∀ x ∈ pre, p x = false)) ?_
    (j := l.length) ⟨rfl, [], l, by simp⟩
  rintro j E H' ⟨rfl, pre, suf, h0, rfl, e0, e1, e7, e8, hpre⟩
  cases suf with
  | nil =>
    simp at h0
    subst h0
    simp [e7, e8, idx_none hpre]
  | cons x suf =>
    have hlt : pre.length < l.length := by simp [h0]
    simp [e0, e1, e7, e8, h0, zip_at hc, load_elem _ _ _ _ (hc x), (hp x).cK]
    refine gK_of (fun hx => ?_) (fun hx => ?_)
    · simp [e8, idx_some pre x suf hpre hx]
    · simp [e0, e1, e7, e8, h0, wrap_len hlt hl]
      exact ⟨suf.length, by omega, pre ++ [x], suf, by simp, rfl, by simp, fun y hy => by simp at hy; rcases hy with hy | rfl; exact hpre y hy; exact hx⟩
theorem IndexFunc_Item_run {α : Type} {c : α → List D} (hc : ∀ x, (c x).length = 4) (p : α → Bool) (rep : Option (Option Nat)) (l : List α) (hl : l.length ≤ big) (g : FuncId) (first caps : List D) (H : Heap)
    (hp : ∀ x, Run tab (.fn g) (first ++ .agg (c x) :: caps) (low0 H) (bD (p x)) (low0 H)) :
    Run tab (.fn n_slices_IndexFunc_Item) [slD rep l.length (l.flatMap c), .fn (.func g) first caps] H (i64D (idx p l)) H := by
  refine cK.run (cK_fn o_slices_IndexFunc_Item t_slices_IndexFunc_Item (Nat.le_of_ble_eq_true rfl) (by decide) ?_)
  simp
  refine LR_rule (WR_mono _) (fun j E H' => H' = low0 H ∧ ∃ pre suf, l = pre ++ suf ∧ j = suf.length ∧ E 0 = slD rep l.length (l.flatMap c) ∧ E 1 = .fn (.func g) first caps ∧ E 7 = i64D l.length ∧ E 8 = i64D pre.length ∧ (∀ x ∈ pre, p x = false)) ?_
    (j := l.length) ⟨rfl, [], l, by simp⟩
  rintro j E H' ⟨rfl, pre, suf, h0, rfl, e0, e1, e7, e8, hpre⟩
  cases suf with
  | nil =>
    simp at h0
    subst h0
    simp [e7, e8, idx_none hpre]
  | cons x suf =>
    have hlt : pre.length < l.length := by simp [h0]
    simp [e0, e1, e7, e8, h0, zip_at hc, load_elem _ _ _ _ (hc x), (hp x).cK]
    refine gK_of (fun hx => ?_) (fun hx => ?_)
    · simp [e8, idx_some pre x suf hpre hx]
    · simp [e0, e1, e7, e8, h0, wrap_len hlt hl]
      exact ⟨suf.length, by omega, pre ++ [x], suf, by simp, rfl, by simp, fun y hy => by simp at hy; rcases hy with hy | rfl; exact hpre y hy; exact hx⟩
end Go.Proofs.YthdkeggdipogoaaGreatDoor.Tz
namespace Go.Proofs.YthdkeggdipogoaaGreatDoor.Tz
open Go.Aug Go.Aug.Api
set_option maxRecDepth 100000
theorem value_Right_run (k n : Int) (s : ByteArray) (H : Heap) : Run tab (.fn n_value_Right) [.agg [i64D k, i64D n, strD s]] H (bD (rightV ⟨k, n, s⟩)) H := by
  refine cK.run (cK_fn o_value_Right t_value_Right (Nat.le_of_ble_eq_true rfl) (by decide) ?_)
  simp
  repeat' (refine gK_of (fun h => ?_) (fun h => ?_) <;> (try simp [h]))
  all_goals grind [rightV, maxNum, emptyS]
theorem value_both_run (k n : Int) (s : ByteArray) (k' n' : Int) (s' : ByteArray) (H : Heap) : Run tab (.fn n_value_both) [.agg [i64D k, i64D n, strD s], .agg [i64D k', i64D n', strD s']] H (i64D (bothV ⟨k, n, s⟩ ⟨k', n', s'⟩)) H := by
  refine cK.run (cK_fn o_value_both t_value_both (Nat.le_of_ble_eq_true rfl) (by decide) ?_)
  simp [(value_Right_run _ _ _ _).cK]
  repeat' (refine gK_of (fun h => ?_) (fun h => ?_) <;> (try simp [h, (value_Right_run _ _ _ _).cK]))
  all_goals grind [bothV]
theorem value_reckoned_run (k n : Int) (s : ByteArray) (k' n' : Int) (s' : ByteArray) (sign : Int) (hs : sign = 1 ∨ sign = -1) (H : Heap) : Run tab (.fn n_value_reckoned) [.agg [i64D k, i64D n, strD s], .agg [i64D k', i64D n', strD s'], i64D sign] H
    (VE.enc (if sign = 1 then addV ⟨k, n, s⟩ ⟨k', n', s'⟩ else subV ⟨k, n, s⟩ ⟨k', n', s'⟩)) H := by
  refine cK.run (cK_fn o_value_reckoned t_value_reckoned (Nat.le_of_ble_eq_true rfl) (by decide) ?_)
  simp [(value_both_run _ _ _ _ _ _ _).cK]
  repeat' (refine gK_of (fun h => ?_) (fun h => ?_) <;> (try simp [h, (value_Right_run _ _ _ _).cK]))
  · rcases hs with rfl | rfl <;> simp at h <;> simp [addV, subV, h, VE.enc, valC, zVal]
  · rename_i h0
    simp at h0 h
    obtain ⟨r1, r2, k1, k2⟩ := both_zero h0
    have b1 := right_num r1 k1
    have b2 := right_num r2 k2
    simp only [maxNum] at b1 b2
    have hw : IntKind.i64.wrap (n + IntKind.i64.wrap (sign * n')) = n + sign * n' := by
      rcases hs with rfl | rfl <;> rw [wrap64 (n := _ * n') (by omega) (by omega), wrap64 (by omega) (by omega)]
    rw [hw] at h
    rcases hs with rfl | rfl <;> simp [addV, subV, h0, VE.enc, valC, zVal, emptyS, ofSum, maxNum] <;> simp [rightV, maxNum, emptyS] at h <;> grind
  · rename_i h0
    simp at h0 h
    obtain ⟨r1, r2, k1, k2⟩ := both_zero h0
    have b1 := right_num r1 k1
    have b2 := right_num r2 k2
    simp only [maxNum] at b1 b2
    have hw : IntKind.i64.wrap (n + IntKind.i64.wrap (sign * n')) = n + sign * n' := by
      rcases hs with rfl | rfl <;> rw [wrap64 (n := _ * n') (by omega) (by omega), wrap64 (by omega) (by omega)]
    rw [hw] at h ⊢
    rcases hs with rfl | rfl <;> simp [addV, subV, h0, VE.enc, valC, zVal, emptyS, ofSum, maxNum] <;> simp [rightV, maxNum, emptyS] at h <;> grind
theorem value_Add_run (k n : Int) (s : ByteArray) (k' n' : Int) (s' : ByteArray) (H : Heap) : Run tab (.fn n_value_Add) [.agg [i64D k, i64D n, strD s], .agg [i64D k', i64D n', strD s']] H (addV ⟨k, n, s⟩ ⟨k', n', s'⟩).enc H := by
  refine cK.run (cK_fn o_value_Add t_value_Add (Nat.le_of_ble_eq_true rfl) (by decide) ?_)
  simp [(value_reckoned_run _ _ _ _ _ _ _ (.inl rfl) _).cK, VE.enc, valC]
theorem value_Sub_run (k n : Int) (s : ByteArray) (k' n' : Int) (s' : ByteArray) (H : Heap) : Run tab (.fn n_value_Sub) [.agg [i64D k, i64D n, strD s], .agg [i64D k', i64D n', strD s']] H (subV ⟨k, n, s⟩ ⟨k', n', s'⟩).enc H := by
  refine cK.run (cK_fn o_value_Sub t_value_Sub (Nat.le_of_ble_eq_true rfl) (by decide) ?_)
  simp [(value_reckoned_run _ _ _ _ _ _ _ (.inr rfl) _).cK, VE.enc, valC]
end Go.Proofs.YthdkeggdipogoaaGreatDoor.Tz
namespace Go.Proofs.YthdkeggdipogoaaGreatDoor.Tz
open Go.Aug Go.Aug.Api
set_option maxRecDepth 100000
theorem event_Find_1_run (s : TSchema) (name : ByteArray) (H : Heap) {r : Nat} (h : H.get r = some (.cells [strD name])) (hr : r < H.next) : Run tab (.fn n_event_Find_1) [.agg (schemaC s), .rf r 0] H (bD (decide (s.name = name))) H := by
  refine cK.run (cK_fn o_event_Find_1 t_event_Find_1 (Nat.le_of_ble_eq_true rfl) (by decide) ?_)
  have hne : (r = H.next) = False := by simp; omega
  simp [schemaC, Sl.enc, h, hne]
theorem event_Field_1_run (f : TField) (name : ByteArray) (H : Heap) {r : Nat} (h : H.get r = some (.cells [strD name])) (hr : r < H.next) : Run tab (.fn n_event_Field_1) [.agg (fieldC f), .rf r 0] H (bD (decide (f.name = name))) H := by
  refine cK.run (cK_fn o_event_Field_1 t_event_Field_1 (Nat.le_of_ble_eq_true rfl) (by decide) ?_)
  have hne : (r = H.next) = False := by simp; omega
  simp [fieldC, h, hne]
def findD (r : TSchema × Bool) : D := .tup [.agg (schemaC r.1), bD r.2]
theorem event_Find_run (l : Sl TSchema) (name : ByteArray) (H : Heap) : Run tab (.fn n_event_Find) [l.enc schemaC, strD name] H (findD (findS l.l name)) H := by
  refine cK.run (cK_fn o_event_Find t_event_Find (Nat.le_of_ble_eq_true rfl) (by decide) ?_)
  have call := fun (H1 : Heap) (r : Nat) (h : H1.get r = some (.cells [strD name])) (hr : r < H1.next) =>
    (IndexFunc_Schema_run schemaC_len (fun s => decide (s.name = name)) l.rep l.l l.ok n_event_Find_1 [] [.rf r 0] H1 (fun x => event_Find_1_run x name (low0 H1) (by simpa using h) (by simpa using hr))).cK
  simp [Sl.enc, call]
  rcases idx_cases (fun s : TSchema => decide (s.name = name)) l.l with ⟨h1, h2, h3⟩ | ⟨pre, x, suf, h1, h2, h3, h4, h5⟩
  · simp [h1, findS, h3, findD, zSchema, schemaC, Sl.enc, Sl.nil, slD, emptyS]
  · have h4' : idx (fun s : TSchema => decide (s.name = name)) (pre ++ x :: suf) = (pre.length : Nat) := by rw [← h1]; exact h4
    rw [show findS l.l name = (x, true) by simp [findS, h5]]
    simp [h1, h4', zip_at schemaC_len, load_elem _ _ _ _ (schemaC_len x)]
    simp [schemaC, findD, Sl.enc]
def fieldD (r : Int × Int) : D := .tup [i64D r.1, i64D r.2]
theorem event_Field_run (s : ByteArray) (l : Sl TField) (name : ByteArray) (H : Heap) : Run tab (.fn n_event_Field) [.agg [strD s, l.enc fieldC], strD name] H (fieldD (fieldS ⟨s, l⟩ name)) H := by
  refine cK.run (cK_fn o_event_Field t_event_Field (Nat.le_of_ble_eq_true rfl) (by decide) ?_)
  have call := fun (H1 : Heap) (r : Nat) (h : H1.get r = some (.cells [strD name])) (hr : r < H1.next) =>
    (IndexFunc_Field_run fieldC_len (fun s => decide (s.name = name)) l.rep l.l l.ok n_event_Field_1 [] [.rf r 0] H1 (fun x => event_Field_1_run x name (low0 H1) (by simpa using h) (by simpa using hr))).cK
  simp [Sl.enc, call]
  rcases idx_cases (fun s : TField => decide (s.name = name)) l.l with ⟨h1, h2, h3⟩ | ⟨pre, x, suf, h1, h2, h3, h4, h5⟩
  · simp [h1, fieldS, h3, fieldD]
  · have h4' : idx (fun s : TField => decide (s.name = name)) (pre ++ x :: suf) = (pre.length : Nat) := by rw [← h1]; exact h4
    rw [show fieldS ⟨s, l⟩ name = (((pre.length : Nat) : Int), x.kind) by simp [fieldS, h5, h4]]
    simp [h1, h4', zip_at fieldC_len]
    simp [fieldC, fieldD]
end Go.Proofs.YthdkeggdipogoaaGreatDoor.Tz
namespace Go.Proofs.YthdkeggdipogoaaGreatDoor.Tz
open Go.Aug Go.Aug.Api
set_option maxRecDepth 100000
theorem eval_scope_row_1_run (x : TItem) (name : ByteArray) (H : Heap) {r : Nat} (h : H.get r = some (.cells [strD name])) (hr : r < H.next) : Run tab (.fn n_eval_scope_row_1) [.agg (itemC x), .rf r 0] H (bD (decide (x.var = name))) H := by
  refine cK.run (cK_fn o_eval_scope_row_1 t_eval_scope_row_1 (Nat.le_of_ble_eq_true rfl) (by decide) ?_)
  have hne : (r = H.next) = False := by simp; omega
  simp [itemC, Sl.enc, h, hne]
theorem eval_scope_row_run (s : TScope) (v : ByteArray) (H : Heap) {r : Nat} (h : H.get r = some (.cells (scopeC s))) (hr : r < H.next) : Run tab (.fn n_eval_scope_row) [.rf r 0, strD v] H (.tup [(rowS s v).1.enc eventC, bD (rowS s v).2]) H := by
  refine cK.run (cK_fn o_eval_scope_row t_eval_scope_row (Nat.le_of_ble_eq_true rfl) (by decide) ?_)
  have hne : (r = H.next) = False := by simp; omega
  have call := fun (H1 : Heap) (r : Nat) (h : H1.get r = some (.cells [strD v])) (hr : r < H1.next) =>
    (IndexFunc_Item_run itemC_len (fun x => decide (x.var = v)) s.q.items.rep s.q.items.l s.q.items.ok n_eval_scope_row_1 [] [.rf r 0] H1 (fun x => eval_scope_row_1_run x v (low0 H1) (by simpa using h) (by simpa using hr))).cK
  rcases idx_cases (fun x : TItem => decide (x.var = v)) s.q.items.l with ⟨h1, -, -⟩ | ⟨pre, x, suf, -, -, -, h4, -⟩
  · simp [h, hne, scopeC, Sl.enc, call, h1, rowS]
    simp [Sl.nil, slD]
  · simp [h, hne, scopeC, Sl.enc, call, h4]
    refine gK_of (fun hlt => ?_) (fun hlt => ?_)
    · have hn : s.bound.l[pre.length]? = none := by simp at hlt; simp [hlt]
      simp [hlt, h4, rowS, hn, Sl.nil, slD]
    · simp [hlt, h, hne, scopeC, Sl.enc]
      have hn : ∃ r, s.bound.l[pre.length]? = some r := by simp at hlt; exact ⟨_, List.getElem?_eq_getElem hlt⟩
      obtain ⟨r, hn⟩ := hn
      simp [elem_at rowC_len _ _ _ _ _ hn]
      simp [rowC, rowS, h4, hn, Sl.enc]
theorem eval_scope_field_run (s : TScope) (ts depth seq : Int) (nm : ByteArray) (vals : Sl TVal) (name : ByteArray) (H : Heap) {r : Nat} (h : H.get r = some (.cells (scopeC s))) (hr : r < H.next) :
    Run tab (.fn n_eval_scope_field) [.rf r 0, .agg [i64D ts, i64D depth, i64D seq, strD nm, vals.enc valC], strD name] H (fieldE s ⟨ts, depth, seq, nm, vals⟩ name).enc H := by
  refine cK.run (cK_fn o_eval_scope_field t_eval_scope_field (Nat.le_of_ble_eq_true rfl) (by decide) ?_)
  have hne : (r = H.next) = False := by simp; omega
  have hne2 : ∀ k, (r = H.next + k) = False := by simp; omega
  have c1 := fun l name H => (event_Find_run l name H).cK
  have c2 := fun s l name H => (event_Field_run s l name H).cK
  simp only [Sl.enc] at c1 c2
  simp [h, hne, hne2, scopeC, Sl.enc, c1, c2, findD, schemaC, fieldD]
  repeat' (refine gK_of (fun h => ?_) (fun h => ?_) <;> (try simp [h]))
  · rename_i hf h0
    simp at h0 h
    obtain ⟨n, hn⟩ := Int.eq_ofNat_of_zero_le h0
    obtain ⟨v, hv⟩ : ∃ v, vals.l[n]? = some v := ⟨_, List.getElem?_eq_getElem (by omega)⟩
    simp [hn, elem_at valC_len _ _ _ _ _ hv, load_elem _ _ _ _ (valC_len v)]
    simp [valC, VE.enc, fieldE, hf, hn, hv]
  · rename_i hf h0
    simp at h0 h
    obtain ⟨n, hn⟩ := Int.eq_ofNat_of_zero_le h0
    have hv : vals.l[n]? = none := List.getElem?_eq_none (by omega)
    simp [VE.enc, fieldE, hf, hn, hv, zVal, valC]
  · rename_i hf
    simp [-Int.not_le, VE.enc, fieldE, hf, of_decide_eq_false h, zVal, valC]
  · simp [VE.enc, fieldE, h, zVal, valC]
theorem cmp_isNaN_int64_run (a : Int) (H : Heap) : Run tab (.fn n_cmp_isNaN_int64) [i64D a] H (bD false) H := by
  refine cK.run (cK_fn o_cmp_isNaN_int64 t_cmp_isNaN_int64 (Nat.le_of_ble_eq_true rfl) (by decide) ?_)
  simp
theorem cmp_Compare_int64_run (a b : Int) (H : Heap) : Run tab (.fn n_cmp_Compare_int64) [i64D a, i64D b] H (i64D (cmpI a b)) H := by
  refine cK.run (cK_fn o_cmp_Compare_int64 t_cmp_Compare_int64 (Nat.le_of_ble_eq_true rfl) (by decide) ?_)
  simp [(cmp_isNaN_int64_run _ _).cK]
  repeat' (refine gK_of (fun h => ?_) (fun h => ?_) <;> (try simp [h]))
  all_goals grind [cmpI]
def betterV (sign : Int) (a b : TVal) : TVal := if 0 < cmpI b.n a.n * sign then b else a
theorem eval_folds_1_1_run (k n : Int) (s : ByteArray) (k' n' : Int) (s' : ByteArray) (sign : Int) (hs : sign = 1 ∨ sign = -1) (H : Heap) : Run tab (.fn n_eval_folds_1_1) [.agg [i64D k, i64D n, strD s], .agg [i64D k', i64D n', strD s'], .cp [i64D sign]] H
    (VE.enc (betterV sign ⟨k, n, s⟩ ⟨k', n', s'⟩, 0)) H := by
  refine cK.run (cK_fn o_eval_folds_1_1 t_eval_folds_1_1 (Nat.le_of_ble_eq_true rfl) (by decide) ?_)
  have hw : IntKind.i64.wrap (cmpI n' n * sign) = cmpI n' n * sign := by
    apply wrap64 <;> (unfold cmpI; rcases hs with rfl | rfl <;> split <;> (try split) <;> omega)
  simp [(cmp_Compare_int64_run _ _ _).cK, hw]
  repeat' (refine gK_of (fun h => ?_) (fun h => ?_) <;> (try simp [h]))
  · simp [VE.enc, valC, betterV, of_decide_eq_true h]
  · simp [-Int.not_lt, VE.enc, valC, betterV, of_decide_eq_false h]
theorem eval_folds_1_run (sign : Int) (H : Heap) : Run tab (.fn n_eval_folds_1) [i64D sign] H (.fn (.func n_eval_folds_1_1) [] [.cp [i64D sign]]) H := by
  refine cK.run (cK_fn o_eval_folds_1 t_eval_folds_1 (Nat.le_of_ble_eq_true rfl) (by decide) ?_)
  rw [z_eval_folds_1]
  simp
  rw [finX_frozen (d' := .fn (.func n_eval_folds_1_1) [] [.cp [i64D sign]]) (by simp) (by simp [frz_fn, frz_rf, frz_v, frzL_cons, frzL_nil, D.under])]
  exact ⟨rfl, rfl⟩
def foldsD : List D := [.v .nilFunc, .v .nilFunc, .v .nilFunc, .v .nilFunc, .fn (.func n_value_Add) [] [], .fn (.func n_eval_folds_1_1) [] [.cp [i64D (-1)]], .fn (.func n_eval_folds_1_1) [] [.cp [i64D 1]]]
theorem eval_folds_run (H : Heap) : Run tab (.fn n_eval_folds) [] H (.agg foldsD) H := by
  refine cK.run (cK_fn o_eval_folds t_eval_folds (Nat.le_of_ble_eq_true rfl) (by decide) ?_)
  simp [(eval_folds_1_run _ _).cK, foldsD]
end Go.Proofs.YthdkeggdipogoaaGreatDoor.Tz
