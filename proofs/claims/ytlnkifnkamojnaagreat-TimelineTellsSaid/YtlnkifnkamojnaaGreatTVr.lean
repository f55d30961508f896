/-
The walks of versions: whether they are right; how long each is in force. Conditions: none.
-/
import Derived.Test.YtlnkifnkamojnaaGreatGT
import Derived.Test.YtlnkifnkamojnaaGreatTSp
import Derived.Test.YtlnkifnkamojnaaGreatTR6
namespace Go.Proofs.YtlnkifnkamojnaaGreat.Tz
open Go.Aug Go.Aug.Api
set_option maxRecDepth 100000
theorem timeline_zero_run (q : TQuery) (H : Heap) : Run tab (.fn n_q173) [.agg (queryC q)] H (bD (zeroQ q)) H := by
  refine cK.run (cK_fn o_q173 t_q173 (Nat.le_of_ble_eq_true rfl) (by decide) ?_)
  unfold zeroQ
  have hb : ∀ s : ByteArray, evBin .eql (strD s) (.v (.string ⟨#[]⟩)) = some (bD (decide (s = ⟨#[]⟩))) := fun s => bin_eqlS s ⟨#[]⟩
  by_cases h1 : IntKind.i64.wrap ((q.items.l.length : Int) + (q.preds.l.length : Int)) = 0
  · by_cases h2 : q.within = 0
    · by_cases h3 : q.by_ = ⟨#[]⟩
      · simp [queryC, Sl.enc, h1, h2, h3]
      · simp [queryC, Sl.enc, h1, h2, h3]
    · simp [queryC, Sl.enc, h1, h2]
  · simp [queryC, Sl.enc, h1]
theorem ver_get0 (v : TVersion) : (versionC v)[0]? = some (i64D v.from_) := rfl
theorem ver_at0 (v : TVersion) (h : 0 < (versionC v).length) : (versionC v)[0] = i64D v.from_ := rfl
theorem ver_get1 (v : TVersion) : (versionC v)[1]? = some (bD v.drop) := rfl
theorem ver_at1 (v : TVersion) (h : 1 < (versionC v).length) : (versionC v)[1] = bD v.drop := rfl
theorem ver_drop2 (v : TVersion) : (versionC v).drop 2 = queryC v.query := rfl
theorem ver_take (v : TVersion) : (versionC v).take 7 = versionC v := List.take_of_length_le (by rw [versionC_len]; exact Nat.le_refl _)
theorem query_take (q : TQuery) : (queryC q).take 5 = queryC q := List.take_of_length_le (by rw [queryC_len]; exact Nat.le_refl _)
theorem timeline_one_run (v : TVersion) (H : Heap) : Run tab (.fn n_q170) [.agg (versionC v)] H (bD (oneV v)) H := by
  refine cK.run (cK_fn o_q170 t_q170 (Nat.le_of_ble_eq_true rfl) (by decide) ?_)
  have hZ := fun q H => (timeline_zero_run q H).cK
  have hR := fun q H => (tree_Right_run q H).cK
  have hm : maxNum = 1099511627776 := rfl
  unfold oneV
  by_cases h1 : 0 ≤ v.from_
  · by_cases h2 : v.from_ ≤ 1099511627776
    · cases hd : v.drop with
      | true => cases hz : zeroQ v.query <;> simp [ver_get0, ver_at0, ver_get1, ver_at1, ver_drop2, query_take, versionC_len, h1, h2, hd, hm, hZ, hz]
      | false => simp [ver_get0, ver_at0, ver_get1, ver_at1, ver_drop2, query_take, versionC_len, h1, h2, hd, hm, hR]
    · simp [ver_get0, ver_at0, versionC_len, h1, h2, hm]
  · simp [ver_get0, ver_at0, versionC_len, h1]
def RightInv (l : Sl TVersion) (H : Heap) (j : Nat) (E : Fr) (H' : Heap) : Prop :=
  ∃ (pre suf : List TVersion) (wf : Int) (wd : Bool) (rest : List D), l.l = pre ++ suf ∧ j = suf.length ∧ E 0 = l.enc versionC ∧ E 3 = .rf H.next 0 ∧ E 7 = l.enc versionC ∧ E 8 = i64D l.l.length ∧ E 9 = i64D pre.length ∧
    H'.get H.next = some (.cells (i64D wf :: bD wd :: rest)) ∧ rest.length = 5 ∧ H.next < H'.next ∧ H.next ≤ H'.low ∧ H'.low ≤ H'.next ∧ okFrom (-1) true l.l = okFrom wf wd suf
theorem timeline_Right_run (l : Sl TVersion) (H : Heap) : Run tab (.fn n_q167) [l.enc versionC] H (bD (rightVs l.l)) H := by
  refine cK.run (cK_fn o_q167 t_q167 (Nat.le_of_ble_eq_true rfl) (by decide) ?_)
  simp [Sl.enc]
  refine LR_rule (WR_mono _) (RightInv l H) ?_ (j := l.l.length) ⟨[], l.l, -1, true, [.v (.slice none 0 0), .v (.slice none 0 0), i64D 0, strD ⟨#[]⟩, i64D 0], rfl, rfl, by simp [Sl.enc], by simp, by simp [Sl.enc], by simp, by simp, by simp, rfl, by simp, by simp, by simp, rfl⟩
  rintro j E H' ⟨pre, suf, wf, wd, rest, hl, rfl, e0, e3, e7, e8, e9, hg, hrl, h1, h2, h3, hok⟩
  simp only [Sl.enc] at e0 e7
  unfold rightVs
  cases suf with
  | nil =>
    have hp : l.l = pre := by simpa using hl
    have hlt' : ((pre.length : Int) < (l.l.length : Int)) = False := by simp [hp]
    have hok' : okFrom (-1) true l.l = true := by rw [hok]; rfl
    simp [e0, e3, e7, e8, e9, hlt', hok', h2]
    omega
  | cons v suf =>
    have hlt : pre.length < l.l.length := by rw [hl]; simp
    have hlt' : ((pre.length : Int) < (l.l.length : Int)) = True := by simp; omega
    have hw := wrap_more hlt l.ok
    have ev := elem_at versionC_len l.rep l.l .i64 pre.length v (by rw [hl]; simp)
    have hO := fun H => (timeline_one_run v H).cK
    have hne : (H.next = H'.next) = False := by simp; omega
    have hne2 : (H'.next = H.next) = False := by simp; omega
    have hfull : ∀ z : List D, z.length = 7 → setAll z 0 (versionC v) = versionC v := fun z hz => setAll_full z _ (by rw [versionC_len, hz])
    have hfull2 := hfull (i64D wf :: bD wd :: rest) (by simp [hrl])
    have hcells : ∃ rest', rest'.length = 5 ∧ versionC v = i64D v.from_ :: bD v.drop :: rest' := ⟨queryC v.query, rfl, rfl⟩
    simp [e0, e3, e7, e8, e9, hlt', ev, load_elem _ _ _ _ (versionC_len v), versionC_len, hfull, ver_take, hne, hne2, hg, hO, h3]
    cases c1 : oneV v with
    | false =>
      have hno : okFrom (-1) true l.l = false := by rw [hok]; simp [okFrom, c1]
      simp [hno, h2, h3, hne, hne2, hg]
    | true =>
      by_cases c2 : wf < v.from_
      · have c2' : (v.from_ ≤ wf) = False := by simp; omega
        have hw7 : ∀ z : List D, (i64D wf :: bD wd :: rest).length = 7 := fun _ => by simp [hrl]
        have step : (wd && v.drop) = false → okFrom (-1) true l.l = okFrom v.from_ v.drop suf := fun c => by rw [hok]; simp [okFrom, c1, c2, c]
        have stop : (wd && v.drop) = true → okFrom (-1) true l.l = false := fun c => by
          rw [hok]
          simp only [Bool.and_eq_true] at c
          simp [okFrom, c1, c2, c.1, c.2]
        have next : ∀ (E' : Fr) (H2 : Heap), (wd && v.drop) = false → E' 0 = l.enc versionC → E' 3 = .rf H.next 0 → E' 7 = l.enc versionC → E' 8 = i64D l.l.length → E' 9 = i64D ((pre.length : Int) + 1) → H2.get H.next = some (.cells (versionC v)) → H.next < H2.next → H.next ≤ H2.low → H2.low ≤ H2.next → ∃ j', j' < suf.length + 1 ∧ RightInv l H j' E' H2 := fun E' H2 c f0 f3 f7 f8 f9 f10 f11 f12 f13 =>
          ⟨suf.length, by omega, pre ++ [v], suf, v.from_, v.drop, queryC v.query, by simp [hl], rfl, f0, f3, f7, f8, by rw [f9]; simp, f10, rfl, f11, f12, f13, step c⟩
        cases wd with
        | false =>
          simp [ver_get0, ver_at0, ver_get1, ver_at1, versionC_len, hne, hne2, hg, c2', e0, e3, e7, e8, e9, hw, hrl, hfull, hfull2, ver_take, h3]
          refine next _ _ (by simp) (by simp [e0, Sl.enc]) (by simp [e3]) (by simp [e7, Sl.enc]) (by simp [e8]) (by simp) ?_ ?_ ?_ ?_
          · simp [hne, hne2, hg, get_set]
          · simp; omega
          · simp only [low_set, low_add]; split <;> omega
          · simp only [low_set, low_add, next_set, next_add]; split <;> omega
        | true =>
          cases c3 : v.drop with
          | true =>
            have := stop (by simp [c3])
            simp [ver_get0, ver_at0, ver_get1, ver_at1, versionC_len, hne, hne2, hg, c2', c3, this, h2, h3, e3]
          | false =>
            simp [ver_get0, ver_at0, ver_get1, ver_at1, versionC_len, hne, hne2, hg, c2', c3, e0, e3, e7, e8, e9, hw, hrl, hfull, hfull2, ver_take, h3]
            refine next _ _ (by simp [c3]) (by simp [e0, Sl.enc]) (by simp [e3]) (by simp [e7, Sl.enc]) (by simp [e8]) (by simp) ?_ ?_ ?_ ?_
            · simp [hne, hne2, hg, get_set]
            · simp; omega
            · simp only [low_set, low_add]; split <;> omega
            · simp only [low_set, low_add, next_set, next_add]; split <;> omega
      · have c2' : (v.from_ ≤ wf) = True := by simp; omega
        have hno : okFrom (-1) true l.l = false := by rw [hok]; simp [okFrom, c1, c2]
        simp [ver_get0, ver_at0, versionC_len, hno, h2, h3, hne, hne2, hg, c2', e3]
end Go.Proofs.YtlnkifnkamojnaaGreat.Tz
