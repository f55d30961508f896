/-
The walks of the reference's versions: RightOne, Right, end, Back, At. Conditions: none.
-/
import Derived.Test.YtlnkifnkamojnaaGreatTVw
import Derived.Test.YtlnkifnkamojnaaGreatTWA
import Derived.Test.YtlnkifnkamojnaaGreatGU
namespace Go.Proofs.YtlnkifnkamojnaaGreat.Tz
open Go.Aug Go.Aug.Api
set_option maxRecDepth 100000
abbrev queryZ : List D := [.v (.slice none 0 0), .v (.slice none 0 0), i64D 0, strD ⟨#[]⟩, i64D 0]
theorem zeroQ_eq (q : TQuery) : zeroQ q = (decide (q.items.l.length = 0) && decide (q.preds.l.length = 0) && decide (q.within = 0) && decide (q.by_ = ⟨#[]⟩) && decide (q.pick = 0)) := by
  have h1 := q.items.ok
  have h2 := q.preds.ok
  unfold zeroQ
  have : (IntKind.i64.wrap ((q.items.l.length : Int) + (q.preds.l.length : Int)) = 0) ↔ (q.items.l.length = 0 ∧ q.preds.l.length = 0) := by
    constructor
    · intro h
      have : big = 9223372036854775807 := rfl
      simp only [IntKind.wrap, IntKind.signed, IntKind.bits, Bool.true_and, decide_eq_true_eq] at h
      split at h <;> omega
    · rintro ⟨a, b⟩
      rw [a, b]
      rfl
  simp only [this]
  by_cases a : q.items.l.length = 0 <;> by_cases b : q.preds.l.length = 0 <;> simp [a, b]
def zq (q : TQuery) : List D := [slD q.items.rep 0 (q.items.l.flatMap itemC), slD q.preds.rep 0 (q.preds.l.flatMap predC), i64D 0, strD ⟨#[]⟩, i64D 0]
theorem SameZ_run (q : TQuery) (H : Heap) : Run tab (.fn n_q20) [.agg (queryC q), .agg queryZ] H (bD (zeroQ q)) H := by
  rw [zeroQ_eq]
  refine cK.run (cK_fn o_q20 t_q20 (Nat.le_of_ble_eq_true rfl) (by decide) ?_)
  have hq : ∀ q : TQuery, queryC q = [slD q.items.rep q.items.l.length (q.items.l.flatMap itemC), slD q.preds.rep q.preds.l.length (q.preds.l.flatMap predC), i64D q.within, strD q.by_, i64D q.pick] := fun _ => rfl
  rw [hq q]
  by_cases h1 : q.items.l.length = 0
  · by_cases h2 : q.preds.l.length = 0
    · by_cases h3 : q.within = 0
      · by_cases h4 : q.by_ = ⟨#[]⟩
        · by_cases h5 : q.pick = 0
          · simp [h1, h2, h3, h4, h5]
            refine LR_rule (WR_mono _) (fun j E H' => E 2 = .rf H.next 0 ∧ E 3 = .rf (H.next + 1) 0 ∧ E 5 = i64D 0 ∧ H' = ((low0 H).add (.cells (zq q))).add (.cells queryZ)) ?_ (j := 0) ⟨by simp, by simp, by simp, by rfl⟩
            rintro j E H' ⟨e2, e3, e5, rfl⟩
            simp [zq, e2, e3, e5]
            refine LR_rule (WR_mono _) (fun j E H' => E 2 = .rf H.next 0 ∧ E 3 = .rf (H.next + 1) 0 ∧ E 6 = i64D 0 ∧ H' = ((low0 H).add (.cells (zq q))).add (.cells queryZ)) ?_ (j := 0) ⟨by simp [e2], by simp [e3], by simp, by rfl⟩
            rintro j E H' ⟨e2, e3, e6, rfl⟩
            simp [zq, e2, e3, e6]
          · simp [h1, h2, h3, h4, h5]
        · simp [h1, h2, h3, h4]
      · simp [h1, h2, h3]
    · simp [h1, h2]
  · simp [h1]
theorem RightOne_run (v : TVersion) (H : Heap) : Run tab (.fn n_q45) [.agg (versionC v)] H (bD (oneV v)) H := by
  refine cK.run (cK_fn o_q45 t_q45 (Nat.le_of_ble_eq_true rfl) (by decide) ?_)
  have hZ := fun q H => (SameZ_run q H).cK
  have hR := fun q H => (ref08_Right_run q H).cK
  have hm : maxNum = 1099511627776 := rfl
  unfold oneV
  by_cases h1 : 0 ≤ v.from_
  · have h1' : (v.from_ < 0) = False := by simp; omega
    by_cases h2 : v.from_ ≤ 1099511627776
    · have h2' : (1099511627776 < v.from_) = False := by simp; omega
      cases hd : v.drop with
      | true => simp [ver_get0, ver_at0, ver_get1, ver_at1, ver_drop2, query_take, versionC_len, h1, h2, h1', h2', hd, hm, hZ]
      | false => simp [ver_get0, ver_at0, ver_get1, ver_at1, ver_drop2, query_take, versionC_len, h1, h2, h1', h2', hd, hm, hR, rightQ_eq]
    · have h2' : (1099511627776 < v.from_) = True := by simp; omega
      simp [ver_get0, ver_at0, versionC_len, h1, h2, h1', h2', hm]
  · have h1' : (v.from_ < 0) = True := by simp; omega
    simp [ver_get0, ver_at0, versionC_len, h1, h1']
def Right15Inv (l : Sl TVersion) (H : Heap) (j : Nat) (E : Fr) (H' : Heap) : Prop :=
  ∃ (pre suf : List TVersion), l.l = pre ++ suf ∧ j = suf.length ∧ E 0 = l.enc versionC ∧ E 3 = i64D pre.length ∧ H' = low0 H ∧
    okFrom (-1) true l.l = (match pre.getLast? with | none => okFrom (-1) true suf | some u => okFrom u.from_ u.drop suf)
theorem Right15_run (l : Sl TVersion) (H : Heap) : Run tab (.fn n_q44) [l.enc versionC] H (bD (rightVs l.l)) H := by
  refine cK.run (cK_fn o_q44 t_q44 (Nat.le_of_ble_eq_true rfl) (by decide) ?_)
  have hO := fun v H => (RightOne_run v H).cK
  simp [Sl.enc]
  refine LR_rule (WR_mono _) (Right15Inv l H) ?_ (j := l.l.length) ⟨[], l.l, rfl, rfl, by simp [Sl.enc], by simp, rfl, rfl⟩
  rintro j E H' ⟨pre, suf, hl, rfl, e0, e3, rfl, hok⟩
  simp only [Sl.enc] at e0
  unfold rightVs
  cases suf with
  | nil =>
    have hp : l.l = pre := by simpa using hl
    have hlt' : ((pre.length : Int) < (l.l.length : Int)) = False := by simp [hp]
    have hok' : okFrom (-1) true l.l = true := by rw [hok]; cases pre.getLast? <;> rfl
    simp [e0, e3, hlt', hok']
    omega
  | cons v suf =>
    have hlt : pre.length < l.l.length := by rw [hl]; simp
    have hlt' : ((pre.length : Int) < (l.l.length : Int)) = True := by simp; omega
    have hw := wrap_more hlt l.ok
    have ev := elem_at versionC_len l.rep l.l .i64 pre.length v (by rw [hl]; simp)
    have f1 : ∀ (x : TVersion) rest, evFadr 1 (.cp (versionC x ++ rest)) = some (.cp (bD x.drop :: (queryC x.query ++ rest))) := fun _ _ => rfl
    have f0 : ∀ (x : TVersion) rest, evFadr 0 (.cp (versionC x ++ rest)) = some (.cp (i64D x.from_ :: bD x.drop :: (queryC x.query ++ rest))) := fun _ _ => rfl
    have lm : ∀ H (d : D) rest, evLoad H none (.cp (d :: rest)) = some d := fun _ _ _ => rfl
    have next : (okFrom (-1) true l.l = okFrom v.from_ v.drop suf) → ∀ E' : Fr, E' 0 = l.enc versionC → E' 3 = i64D ((pre.length : Int) + 1) → ∃ j', j' < suf.length + 1 ∧ Right15Inv l H j' E' (low0 H) := fun c E' f0 f3 =>
      ⟨suf.length, by omega, pre ++ [v], suf, by simp [hl], rfl, f0, by rw [f3]; simp, rfl, by simpa using c⟩
    rcases List.eq_nil_or_concat pre with rfl | ⟨pre', u, hp⟩
    · simp only [List.getLast?_nil] at hok
      have hw0 : IntKind.i64.wrap 1 = 1 := rfl
      have hlt0 : 0 < l.l.length := hlt
      simp at ev
      cases c1 : oneV v with
      | false =>
        have hno : okFrom (-1) true l.l = false := by rw [hok]; simp [okFrom, c1]
        simp [-fadr_cp, -load_cp, e0, e3, hlt0, ev, load_elem _ _ _ _ (versionC_len v), hO, c1, hno]
      | true =>
        have hv0 : -1 < v.from_ := by
          simp only [oneV, Bool.and_eq_true, decide_eq_true_eq] at c1
          have := c1.1.1
          omega
        cases c3 : v.drop with
        | true =>
          have hno : okFrom (-1) true l.l = false := by rw [hok]; simp [okFrom, c1, c3]
          simp [-fadr_cp, -load_cp, e0, e3, hlt0, ev, load_elem _ _ _ _ (versionC_len v), hO, c1, hno, f1, lm, c3]
        | false =>
          have st : okFrom (-1) true l.l = okFrom v.from_ v.drop suf := by rw [hok]; simp [okFrom, c1, c3, hv0]
          simp [-fadr_cp, -load_cp, e0, e3, hlt0, ev, load_elem _ _ _ _ (versionC_len v), hO, c1, f1, lm, c3, hw0]
          exact next st _ (by simp [e0, Sl.enc]) (by simp)
    · rw [List.concat_eq_append] at hp
      have hgl : pre.getLast? = some u := by rw [hp]; simp
      have hpl : pre.length = pre'.length + 1 := by rw [hp]; simp
      simp only [hgl] at hok
      have h0 : ((pre.length : Int) = 0) = False := eq_false (by omega)
      have h0' : (0 < (pre.length : Int)) = True := eq_true (by omega)
      have hpos : 0 < pre.length := by omega
      have hne : pre ≠ [] := by intro e; rw [e] at hpos; simp at hpos
      have eu := elem_at versionC_len l.rep l.l .i64 pre'.length u (by rw [hl, hp]; simp)
      have w1 : IntKind.i64.wrap ((pre.length : Int) - 1) = pre'.length := by
        rw [show (pre.length : Int) - 1 = pre'.length by omega]
        have hb : l.l.length ≤ 9223372036854775807 := l.ok
        exact wrap64 (by omega) (by omega)
      cases c1 : oneV v with
      | false =>
        have hno : okFrom (-1) true l.l = false := by rw [hok]; simp [okFrom, c1]
        simp [-fadr_cp, -load_cp, e0, e3, hlt', ev, load_elem _ _ _ _ (versionC_len v), hO, c1, hno]
      | true =>
        by_cases c2 : u.from_ < v.from_
        · have c2' : (v.from_ ≤ u.from_) = False := by simp; omega
          cases c3 : (u.drop && v.drop) with
          | true =>
            have hno : okFrom (-1) true l.l = false := by rw [hok]; simp only [okFrom, c3]; simp
            simp only [Bool.and_eq_true] at c3
            simp [-fadr_cp, -load_cp, e0, e3, hlt', ev, eu, load_elem _ _ _ _ (versionC_len v), hO, c1, c2', hno, f0, f1, lm, c3.1, c3.2, h0, h0', hpos, hne, w1]
          | false =>
            have st : okFrom (-1) true l.l = okFrom v.from_ v.drop suf := by rw [hok]; simp only [okFrom, c3, c1, c2]; simp
            cases c4 : u.drop with
            | true =>
              have c5 : v.drop = false := by simpa [c4] using c3
              simp [-fadr_cp, -load_cp, e0, e3, hlt', ev, eu, load_elem _ _ _ _ (versionC_len v), hO, c1, c2', f0, f1, lm, c4, c5, h0, h0', hpos, hne, w1, hw]
              exact next st _ (by simp [e0, Sl.enc]) (by simp)
            | false =>
              simp [-fadr_cp, -load_cp, e0, e3, hlt', ev, eu, load_elem _ _ _ _ (versionC_len v), hO, c1, c2', f0, f1, lm, c4, h0, h0', hpos, hne, w1, hw]
              exact next st _ (by simp [e0, Sl.enc]) (by simp)
        · have c2' : (v.from_ ≤ u.from_) = True := by simp; omega
          have hno : okFrom (-1) true l.l = false := by rw [hok]; simp [okFrom, c1, c2]
          simp [-fadr_cp, -load_cp, e0, e3, hlt', ev, eu, load_elem _ _ _ _ (versionC_len v), hO, c1, c2', hno, f0, f1, lm, h0, h0', hpos, hne, w1]
theorem Back15_run (l : Sl TVersion) (H : Heap) : Run tab (.fn n_q42) [l.enc versionC] H (backD l) H := by
  refine cK.run (cK_fn o_q42 t_q42 (Nat.le_of_ble_eq_true rfl) (by decide) ?_)
  have hR := fun H => (Right15_run l H).cK
  unfold backD
  simp only [Sl.enc] at hR
  cases c1 : rightVs l.l with
  | false => simp [Sl.enc, hR, c1]
  | true =>
  have hl8 : l.l.length ≤ 8 := by
    simp only [rightVs, Bool.and_eq_true, decide_eq_true_eq] at c1
    exact c1.2
  by_cases c2 : l.l.length < 2
  · have c2' : ((l.l.length : Int) < 2) = True := by simp; omega
    simp [Sl.enc, hR, c1, c2, c2']
  · have c2' : ((l.l.length : Int) < 2) = False := by simp; omega
    have w1 : IntKind.i64.wrap ((l.l.length : Int) - 1) = ((l.l.length - 1 : Nat) : Int) := by
      rw [show (l.l.length : Int) - 1 = ((l.l.length - 1 : Nat) : Int) by omega]
      exact wrap64 (by omega) (by omega)
    obtain ⟨cap, hs⟩ := sl_hi versionC_len l.rep l.l (l.l.length - 1) (by omega) (by omega) .i64
    have ht : l.l.take (l.l.length - 1) = l.l.dropLast := by rw [List.dropLast_eq_take]
    rw [ht] at hs
    have hdl : l.l.dropLast.length = l.l.length - 1 := by simp
    have hfl := flatMap_length versionC_len l.l.dropLast
    have hpos : ¬ l.l.length - 1 = 0 := by omega
    simp [Sl.enc, hR, c1, c2, c2', w1, hs]
    rw [hdl] at hfl
    refine ⟨(.rs (H.next + 1) 0 (l.l.length - 1) none 7, ((low0 H).add (.cells [])).add (.cells (l.l.dropLast.flatMap versionC))), ?_, ?_⟩
    · simp [evApp, firstD, hfl, hpos, room96 (n := l.l.length - 1) (by omega), slD]
    · have hz : tab.fz n_q42 = true := z_q42
      simp only [hz]
      rw [finX_frozen (d' := .tup [.sl (l.l.length - 1) (l.l.dropLast.flatMap versionC) none, i64D 0]) (by simp) (frz_tupRow (rest := []) (by omega) (by simp) (by rw [flatMap_length versionC_len, hdl]) (under_flatMap 0 _ versionC_pure _))]
      exact ⟨rfl, rfl⟩
theorem end_run (l : Sl TVersion) (pre suf : List TVersion) (v : TVersion) (hl : l.l = pre ++ v :: suf) (H : Heap) : Run tab (.fn n_q48) [l.enc versionC, i64D pre.length] H (i64D (nextFrom suf)) H := by
  refine cK.run (cK_fn o_q48 t_q48 (Nat.le_of_ble_eq_true rfl) (by decide) ?_)
  have hlt : pre.length < l.l.length := by rw [hl]; simp
  have hw := wrap_more hlt l.ok
  cases suf with
  | nil =>
    have hn : (l.l.length : Int) = (pre.length : Int) + 1 := by rw [hl]; simp
    simp [Sl.enc, hw, hn, nextFrom, maxNum]
  | cons u suf =>
    have hn : ((pre.length : Int) + 1 < (l.l.length : Int)) = True := by rw [hl]; simp; omega
    have ev := elem_at versionC_len l.rep l.l .i64 (pre.length + 1) u (by rw [hl]; simp)
    have ev' : evIadr 7 (slD l.rep l.l.length (l.l.flatMap versionC)) (.v (.int .i64 ((pre.length : Int) + 1))) = _ := ev
    have f0 : ∀ (x : TVersion) rest, evFadr 0 (.cp (versionC x ++ rest)) = some (.cp (i64D x.from_ :: bD x.drop :: (queryC x.query ++ rest))) := fun _ _ => rfl
    have lm : ∀ H (d : D) rest, evLoad H none (.cp (d :: rest)) = some d := fun _ _ _ => rfl
    simp [-fadr_cp, -load_cp, Sl.enc, hw, hn, ev', f0, lm, nextFrom]
def findAt (t : Int) (x : List TSpan) : Int := match x.find? (inS t) with | some s => s.at_ | none => -1
def At15Inv (l : Sl TVersion) (t : Int) (H : Heap) (j : Nat) (E : Fr) (H' : Heap) : Prop :=
  ∃ (pre suf : List TVersion), l.l = pre ++ suf ∧ j = suf.length ∧ E 0 = l.enc versionC ∧ E 1 = i64D t ∧ E 5 = i64D pre.length ∧ H' = low0 H ∧ findAt t (spansFrom 0 l.l) = findAt t (spansFrom pre.length suf)
theorem At15_run (l : Sl TVersion) (t : Int) (H : Heap) : Run tab (.fn n_q41) [l.enc versionC, i64D t] H (i64D (atS l.l t)) H := by
  refine cK.run (cK_fn o_q41 t_q41 (Nat.le_of_ble_eq_true rfl) (by decide) ?_)
  have hR := fun H => (Right15_run l H).cK
  have hat : atS l.l t = if rightVs l.l = true then findAt t (spansFrom 0 l.l) else -1 := by
    unfold atS spansS findAt
    cases rightVs l.l <;> rfl
  simp
  refine LR_rule (WR_mono _) (At15Inv l t H) ?_ (j := l.l.length) ⟨[], l.l, rfl, rfl, by simp, by simp, by simp, rfl, by simp⟩
  rintro j E H' ⟨pre, suf, hl, rfl, e0, e1, e5, rfl, hf⟩
  have hlen : evLen false (l.enc versionC) = some (i64D l.l.length) := by simp [Sl.enc]
  cases c1 : rightVs l.l with
  | false => simp [e0, e1, e5, hR, c1, hat]
  | true =>
  cases suf with
  | nil =>
    have hp : l.l = pre := by simpa using hl
    have hlt' : ((pre.length : Int) < (l.l.length : Int)) = False := by simp [hp]
    have : findAt t (spansFrom 0 l.l) = -1 := by rw [hf]; rfl
    simp [e0, e1, e5, hR, c1, hlen, hlt', hat, this]
  | cons v suf =>
    have hlt : pre.length < l.l.length := by rw [hl]; simp
    have hlt' : ((pre.length : Int) < (l.l.length : Int)) = True := by simp; omega
    have hw := wrap_more hlt l.ok
    have ev := elem_at versionC_len l.rep l.l .i64 pre.length v (by rw [hl]; simp)
    have ev' : evIadr 7 (l.enc versionC) (.v (.int .i64 (pre.length : Int))) = _ := ev
    have f0 : ∀ (x : TVersion) rest, evFadr 0 (.cp (versionC x ++ rest)) = some (.cp (i64D x.from_ :: bD x.drop :: (queryC x.query ++ rest))) := fun _ _ => rfl
    have lm : ∀ H (d : D) rest, evLoad H none (.cp (d :: rest)) = some d := fun _ _ _ => rfl
    have hE := fun H => (end_run l pre suf v hl H).cK
    have hin : inS t ⟨pre.length, v.from_, nextFrom suf⟩ = (decide (v.from_ ≤ t) && decide (t < nextFrom suf)) := rfl
    have next : inS t ⟨pre.length, v.from_, nextFrom suf⟩ = false → ∀ E' : Fr, E' 0 = l.enc versionC → E' 1 = i64D t → E' 5 = i64D ((pre.length : Int) + 1) → ∃ j', j' < suf.length + 1 ∧ At15Inv l t H j' E' (low0 H) := fun c E' g0 g1 g5 =>
      ⟨suf.length, by omega, pre ++ [v], suf, by simp [hl], rfl, g0, g1, by rw [g5]; simp, rfl, by rw [hf]; simp [spansFrom, findAt, c]⟩
    by_cases c2 : v.from_ ≤ t
    · by_cases c3 : t < nextFrom suf
      · have : findAt t (spansFrom 0 l.l) = pre.length := by rw [hf]; simp [spansFrom, findAt, hin, c2, c3]
        simp [-fadr_cp, -load_cp, e0, e1, e5, hR, c1, hlen, hlt', ev', f0, lm, hE, c2, c3, hat, this]
      · simp [-fadr_cp, -load_cp, e0, e1, e5, hR, c1, hlen, hlt', ev', f0, lm, hE, c2, c3, hw]
        exact next (by simp [hin, c3]) _ (by simp [e0]) (by simp [e1]) (by simp)
    · simp [-fadr_cp, -load_cp, e0, e1, e5, hR, c1, hlen, hlt', ev', f0, lm, c2, hw]
      exact next (by simp [hin, c2]) _ (by simp [e0]) (by simp [e1]) (by simp)
end Go.Proofs.YtlnkifnkamojnaaGreat.Tz
