/-
The walks of what compares matches, and of what a change takes over of them. Conditions: none.
-/
import Derived.Test.YtmfhanoibbmnlaaGreatDoorTSl
import Derived.Test.YtmfhanoibbmnlaaGreatDoorTR5
namespace Go.Proofs.YtmfhanoibbmnlaaGreatDoor.Tz
open Go.Aug Go.Aug.Api
set_option maxRecDepth 100000
theorem ref04_Same_run (a b : Sl TVal) (H : Heap) : Run tab (.fn n_q8) [a.enc valC, b.enc valC] H (bD (sameL (fun x y : TVal => decide (x = y)) a.l b.l)) H := by
  refine cK.run (cK_fn o_q8 t_q8 (Nat.le_of_ble_eq_true rfl) (by decide) ?_)
  by_cases hl : a.l.length = b.l.length
  · have hl' : ((a.l.length : Int) = (b.l.length : Int)) = True := by simp [hl]
    simp [Sl.enc, hl']
    refine LR_rule (WR_mono _) (fun j E H' => ∃ pa sa pb sb, a.l = pa ++ sa ∧ b.l = pb ++ sb ∧ pa.length = pb.length ∧ j = sa.length ∧ sameL (fun x y : TVal => decide (x = y)) pa pb = true ∧ E 0 = a.enc valC ∧ E 1 = b.enc valC ∧ E 5 = i64D pa.length ∧ H' = low0 H) ?_ (j := a.l.length) ⟨[], a.l, [], b.l, rfl, rfl, rfl, rfl, rfl, by simp [Sl.enc], by simp [Sl.enc], by simp, rfl⟩
    rintro j E H' ⟨pa, sa, pb, sb, ha, hb, hp, rfl, hs, e0, e1, e5, rfl⟩
    cases sa with
    | nil =>
      have ha' : a.l = pa := by simpa using ha
      have hsb : sb = [] := by
        rw [ha', hb] at hl
        simp at hl
        exact List.length_eq_zero_iff.1 (by omega)
      subst hsb
      have hb' : b.l = pb := by simpa using hb
      have hlt' : ((pa.length : Int) < (a.l.length : Int)) = False := by simp [ha']
      have hsab : sameL (fun x y : TVal => decide (x = y)) a.l b.l = true := by rw [ha', hb']; exact hs
      simp [e0, e5, Sl.enc, hlt', hsab]
    | cons x sa =>
      obtain ⟨y, sb, rfl⟩ : ∃ y t, sb = y :: t := by
        cases sb with
        | nil => rw [ha, hb] at hl; simp at hl; omega
        | cons y t => exact ⟨y, t, rfl⟩
      have hlt : pa.length < a.l.length := by rw [ha]; simp
      have hlt' : ((pa.length : Int) < (a.l.length : Int)) = True := by simp; omega
      have hw := wrap_more hlt a.ok
      have ea := elem_at valC_len a.rep a.l .i64 pa.length x (by rw [ha]; simp)
      have eb := elem_at valC_len b.rep b.l .i64 pa.length y (by rw [hb, hp]; simp)
      have hq : eqAny (.cells [.int, .int, .text]) (.agg (valC x)) (.agg (valC y)) = some (decide (x = y)) := by
        obtain ⟨k, n, s⟩ := x
        obtain ⟨k', n', s'⟩ := y
        have b1 : (k == k') = decide (k = k') := by rw [Bool.eq_iff_iff]; simp
        have b2 : (n == n') = decide (n = n') := by rw [Bool.eq_iff_iff]; simp
        have b3 : (s.toList == s'.toList) = decide (s = s') := by rw [Bool.eq_iff_iff]; simp [toList_inj]
        simp only [valC, eqAny, eqL, eqK, if_true, b1, b2, b3, TVal.mk.injEq]
        by_cases h1 : k = k' <;> by_cases h2 : n = n' <;> by_cases h3 : s = s' <;> simp [h1, h2, h3]
      simp [e0, e1, e5, Sl.enc, hlt', ea, eb, load_elem _ _ _ _ (valC_len x), load_elem _ _ _ _ (valC_len y), hq, gK_not]
      by_cases c : x = y
      · subst c
        simp [e0, e1, e5, Sl.enc, hw]
        refine ⟨sa.length, by omega, pa ++ [x], sa, by simp [ha], pb ++ [x], ⟨sb, by simp [hb]⟩, by simpa using hp, rfl, ?_, by simp⟩
        rw [sameL_append [x] [x] hp, hs]
        simp [sameL]
      · have hf : sameL (fun x y : TVal => decide (x = y)) a.l b.l = false := by
          rw [ha, hb, sameL_append (x :: sa) (y :: sb) hp, hs]
          simp [sameL, c]
        simp [c, hf]
  · have hl' : ((a.l.length : Int) = (b.l.length : Int)) = False := by simp; omega
    simp [Sl.enc, hl', sameL_length hl]
theorem ref05_SameOne_run (a b : TEvent) (H : Heap) : Run tab (.fn n_q10) [.agg (eventC a), .agg (eventC b)] H (bD (sameEv a b)) H := by
  refine cK.run (cK_fn o_q10 t_q10 (Nat.le_of_ble_eq_true rfl) (by decide) ?_)
  have hS := fun H => (ref04_Same_run a.vals b.vals H).cK
  simp only [Sl.enc] at hS
  unfold sameEv
  by_cases h1 : a.ts = b.ts
  · by_cases h2 : a.depth = b.depth
    · by_cases h3 : a.seq = b.seq
      · by_cases h4 : a.name = b.name
        · simp [eventC, Sl.enc, h1, h2, h3, h4, hS]
        · simp [eventC, Sl.enc, h1, h2, h3, h4]
      · simp [eventC, Sl.enc, h1, h2, h3]
    · simp [eventC, Sl.enc, h1, h2]
  · simp [eventC, Sl.enc, h1]
theorem ref05_Same_run (a b : Sl (TEvent)) (H : Heap) : Run tab (.fn n_q9) [a.enc eventC, b.enc eventC] H (bD (sameL sameEv a.l b.l)) H := by
  refine cK.run (cK_fn o_q9 t_q9 (Nat.le_of_ble_eq_true rfl) (by decide) ?_)
  by_cases hl : a.l.length = b.l.length
  · have hl' : ((a.l.length : Int) = (b.l.length : Int)) = True := by simp [hl]
    simp [Sl.enc, hl']
    refine LR_rule (WR_mono _) (fun j E H' => ∃ pa sa pb sb, a.l = pa ++ sa ∧ b.l = pb ++ sb ∧ pa.length = pb.length ∧ j = sa.length ∧ sameL sameEv pa pb = true ∧ E 0 = a.enc eventC ∧ E 1 = b.enc eventC ∧ E 5 = i64D pa.length ∧ H' = low0 H) ?_ (j := a.l.length) ⟨[], a.l, [], b.l, rfl, rfl, rfl, rfl, rfl, by simp [Sl.enc], by simp [Sl.enc], by simp, rfl⟩
    rintro j E H' ⟨pa, sa, pb, sb, ha, hb, hp, rfl, hs, e0, e1, e5, rfl⟩
    cases sa with
    | nil =>
      have ha' : a.l = pa := by simpa using ha
      have hsb : sb = [] := by
        rw [ha', hb] at hl
        simp at hl
        exact List.length_eq_zero_iff.1 (by omega)
      subst hsb
      have hb' : b.l = pb := by simpa using hb
      have hlt' : ((pa.length : Int) < (a.l.length : Int)) = False := by simp [ha']
      have hsab : sameL sameEv a.l b.l = true := by rw [ha', hb']; exact hs
      simp [e0, e5, Sl.enc, hlt', hsab]
    | cons x sa =>
      obtain ⟨y, sb, rfl⟩ : ∃ y t, sb = y :: t := by
        cases sb with
        | nil => rw [ha, hb] at hl; simp at hl; omega
        | cons y t => exact ⟨y, t, rfl⟩
      have hlt : pa.length < a.l.length := by rw [ha]; simp
      have hlt' : ((pa.length : Int) < (a.l.length : Int)) = True := by simp; omega
      have hw := wrap_more hlt a.ok
      have ea := elem_at eventC_len a.rep a.l .i64 pa.length x (by rw [ha]; simp)
      have eb := elem_at eventC_len b.rep b.l .i64 pa.length y (by rw [hb, hp]; simp)
      have hS := fun H => (ref05_SameOne_run x y H).cK
      have hrest : sameEv x y = true → sameL sameEv (pa ++ [x]) (pb ++ [y]) = true := fun c => by
        rw [sameL_append [x] [y] hp, hs]
        simp [sameL, c]
      have hf : sameEv x y = false → sameL sameEv a.l b.l = false := fun c => by
        rw [ha, hb, sameL_append (x :: sa) (y :: sb) hp, hs]
        simp [sameL, c]
      simp [e0, e1, e5, Sl.enc, hlt', ea, eb, load_elem _ _ _ _ (eventC_len x), load_elem _ _ _ _ (eventC_len y), hS, gK_not]
      cases c : sameEv x y with
      | true =>
        simp [e0, e1, e5, Sl.enc, hw]
        refine ⟨sa.length, by omega, pa ++ [x], sa, by simp [ha], pb ++ [y], ⟨sb, by simp [hb]⟩, by simpa using hp, rfl, hrest c, by simp⟩
      | false =>
        simp [hf c]
  · have hl' : ((a.l.length : Int) = (b.l.length : Int)) = False := by simp; omega
    simp [Sl.enc, hl', sameL_length hl]
theorem ref13_SameBound_run (a b : Sl (Sl TEvent)) (H : Heap) : Run tab (.fn n_q42) [a.enc rowC, b.enc rowC] H (bD (sameL sameRow a.l b.l)) H := by
  refine cK.run (cK_fn o_q42 t_q42 (Nat.le_of_ble_eq_true rfl) (by decide) ?_)
  by_cases hl : a.l.length = b.l.length
  · have hl' : ((a.l.length : Int) = (b.l.length : Int)) = True := by simp [hl]
    simp [Sl.enc, hl']
    refine LR_rule (WR_mono _) (fun j E H' => ∃ pa sa pb sb, a.l = pa ++ sa ∧ b.l = pb ++ sb ∧ pa.length = pb.length ∧ j = sa.length ∧ sameL sameRow pa pb = true ∧ E 0 = a.enc rowC ∧ E 1 = b.enc rowC ∧ E 5 = i64D pa.length ∧ H' = low0 H) ?_ (j := a.l.length) ⟨[], a.l, [], b.l, rfl, rfl, rfl, rfl, rfl, by simp [Sl.enc], by simp [Sl.enc], by simp, rfl⟩
    rintro j E H' ⟨pa, sa, pb, sb, ha, hb, hp, rfl, hs, e0, e1, e5, rfl⟩
    cases sa with
    | nil =>
      have ha' : a.l = pa := by simpa using ha
      have hsb : sb = [] := by
        rw [ha', hb] at hl
        simp at hl
        exact List.length_eq_zero_iff.1 (by omega)
      subst hsb
      have hb' : b.l = pb := by simpa using hb
      have hlt' : ((pa.length : Int) < (a.l.length : Int)) = False := by simp [ha']
      have hsab : sameL sameRow a.l b.l = true := by rw [ha', hb']; exact hs
      simp [e0, e5, Sl.enc, hlt', hsab]
    | cons x sa =>
      obtain ⟨y, sb, rfl⟩ : ∃ y t, sb = y :: t := by
        cases sb with
        | nil => rw [ha, hb] at hl; simp at hl; omega
        | cons y t => exact ⟨y, t, rfl⟩
      have hlt : pa.length < a.l.length := by rw [ha]; simp
      have hlt' : ((pa.length : Int) < (a.l.length : Int)) = True := by simp; omega
      have hw := wrap_more hlt a.ok
      have ea := elem_at rowC_len a.rep a.l .i64 pa.length x (by rw [ha]; simp)
      have eb := elem_at rowC_len b.rep b.l .i64 pa.length y (by rw [hb, hp]; simp)
      have hS := fun H => (ref05_Same_run x y H).cK
      have hrest : sameRow x y = true → sameL sameRow (pa ++ [x]) (pb ++ [y]) = true := fun c => by
        rw [sameL_append [x] [y] hp, hs]
        simp [sameL, c]
      have hf : sameRow x y = false → sameL sameRow a.l b.l = false := fun c => by
        rw [ha, hb, sameL_append (x :: sa) (y :: sb) hp, hs]
        simp [sameL, c]
      simp [e0, e1, e5, Sl.enc, hlt', ea, eb]
      simp only [Sl.enc] at hS
      simp [rowC, Sl.enc, hS, gK_not]
      cases c : sameRow x y with
      | true =>
        have c' : sameL sameEv x.l y.l = true := c
        simp [c', e0, e1, e5, Sl.enc, rowC, hw]
        refine ⟨sa.length, by omega, pa ++ [x], sa, by simp [ha], pb ++ [y], ⟨sb, by simp [hb]⟩, by simpa using hp, rfl, hrest c, by simp⟩
      | false =>
        have c' : sameL sameEv x.l y.l = false := c
        simp [c', hf c]
  · have hl' : ((a.l.length : Int) = (b.l.length : Int)) = False := by simp; omega
    simp [Sl.enc, hl', sameL_length hl]
theorem ref13_SameMatches_run (a b : Sl (TMatch)) (H : Heap) : Run tab (.fn n_q43) [a.enc matchC, b.enc matchC] H (bD (sameL sameM a.l b.l)) H := by
  refine cK.run (cK_fn o_q43 t_q43 (Nat.le_of_ble_eq_true rfl) (by decide) ?_)
  by_cases hl : a.l.length = b.l.length
  · have hl' : ((a.l.length : Int) = (b.l.length : Int)) = True := by simp [hl]
    simp [Sl.enc, hl']
    refine LR_rule (WR_mono _) (fun j E H' => ∃ pa sa pb sb, a.l = pa ++ sa ∧ b.l = pb ++ sb ∧ pa.length = pb.length ∧ j = sa.length ∧ sameL sameM pa pb = true ∧ E 0 = a.enc matchC ∧ E 1 = b.enc matchC ∧ E 5 = i64D pa.length ∧ H' = low0 H) ?_ (j := a.l.length) ⟨[], a.l, [], b.l, rfl, rfl, rfl, rfl, rfl, by simp [Sl.enc], by simp [Sl.enc], by simp, rfl⟩
    rintro j E H' ⟨pa, sa, pb, sb, ha, hb, hp, rfl, hs, e0, e1, e5, rfl⟩
    cases sa with
    | nil =>
      have ha' : a.l = pa := by simpa using ha
      have hsb : sb = [] := by
        rw [ha', hb] at hl
        simp at hl
        exact List.length_eq_zero_iff.1 (by omega)
      subst hsb
      have hb' : b.l = pb := by simpa using hb
      have hlt' : ((pa.length : Int) < (a.l.length : Int)) = False := by simp [ha']
      have hsab : sameL sameM a.l b.l = true := by rw [ha', hb']; exact hs
      simp [e0, e5, Sl.enc, hlt', hsab]
    | cons x sa =>
      obtain ⟨y, sb, rfl⟩ : ∃ y t, sb = y :: t := by
        cases sb with
        | nil => rw [ha, hb] at hl; simp at hl; omega
        | cons y t => exact ⟨y, t, rfl⟩
      have hlt : pa.length < a.l.length := by rw [ha]; simp
      have hlt' : ((pa.length : Int) < (a.l.length : Int)) = True := by simp; omega
      have hw := wrap_more hlt a.ok
      have ea := elem_at matchC_len a.rep a.l .i64 pa.length x (by rw [ha]; simp)
      have eb := elem_at matchC_len b.rep b.l .i64 pa.length y (by rw [hb, hp]; simp)
      have hS := fun H => (ref13_SameBound_run x.bound y.bound H).cK
      have f0 : ∀ (x : TMatch) rest, evFadr 0 (.cp (matchC x ++ rest)) = some (.cp (matchC x ++ rest)) := fun _ _ => rfl
      have f1 : ∀ (x : TMatch) rest, evFadr 1 (.cp (matchC x ++ rest)) = some (.cp (x.bound.enc rowC :: rest)) := fun _ _ => rfl
      have l0 : ∀ H (x : TMatch) rest, evLoad H none (.cp (matchC x ++ rest)) = some (i64D x.done) := fun _ _ _ => rfl
      have hrest : sameM x y = true → sameL sameM (pa ++ [x]) (pb ++ [y]) = true := fun c => by
        rw [sameL_append [x] [y] hp, hs]
        simp [sameL, c]
      have hf : sameM x y = false → sameL sameM a.l b.l = false := fun c => by
        rw [ha, hb, sameL_append (x :: sa) (y :: sb) hp, hs]
        simp [sameL, c]
      simp only [Sl.enc] at e0 e1
      by_cases hd : x.done = y.done
      · simp [-fadr_cp, e0, e1, e5, hlt', ea, eb, f0, f1, l0, hd, hS, gK_not]
        cases c : sameM x y with
        | true =>
          have c' : sameL sameRow x.bound.l y.bound.l = true := by simpa [sameM, hd] using c
          simp [c', e0, e1, e5, hw]
          exact ⟨sa.length, by omega, pa ++ [x], sa, by simp [ha], pb ++ [y], ⟨sb, by simp [hb]⟩, by simpa using hp, rfl, hrest c, by simp [Sl.enc], by simp [Sl.enc], by simp⟩
        | false =>
          have c' : sameL sameRow x.bound.l y.bound.l = false := by simpa [sameM, hd] using c
          simp [c', hf c]
      · have c : sameM x y = false := by simp [sameM, hd]
        simp [-fadr_cp, e0, e1, e5, hlt', ea, eb, f0, f1, l0, hd, hf c]
  · have hl' : ((a.l.length : Int) = (b.l.length : Int)) = False := by simp; omega
    simp [Sl.enc, hl', sameL_length hl]
def runC (at_ : Int) (b : Sl (Sl TEvent)) : List D := [i64D at_, b.enc rowC]
end Go.Proofs.YtmfhanoibbmnlaaGreatDoor.Tz
