/-
The walks of the reference's Put and Spans. Conditions: none.
-/
import Derived.Test.YtlnkifnkamojnaaGreatTVy
namespace Go.Proofs.YtlnkifnkamojnaaGreat.Tz
open Go.Aug Go.Aug.Api
set_option maxRecDepth 100000
theorem leftV_snoc (v : TVersion) (pre : List TVersion) (x : TVersion) : leftV v (pre ++ [x]) = if x.from_ < v.from_ then leftV v pre ++ [x] else leftV v pre := by
  unfold leftV
  rw [List.filter_append]
  by_cases h : x.from_ < v.from_
  · rw [if_pos h, List.filter_cons_of_pos (by simp; omega)]
    rfl
  · rw [if_neg h, List.filter_cons_of_neg (by simp; omega)]
    simp
def Put15Inv (l : Sl TVersion) (v : TVersion) (H : Heap) (j : Nat) (E : Fr) (H' : Heap) : Prop :=
  ∃ (pre suf : List TVersion) (d : D), l.l = pre ++ suf ∧ j = suf.length ∧ E 0 = l.enc versionC ∧ E 3 = .rf H.next 0 ∧ E 6 = d ∧ E 7 = i64D pre.length ∧
    OwnR ((leftV v pre).flatMap versionC) (leftV v pre).length 7 (H.next + 1) H' d ∧ H'.get H.next = some (.cells (versionC v)) ∧ H.next + 1 ≤ H'.next ∧ H.next ≤ H'.low ∧ H'.low ≤ H'.next
theorem Put15_run (l : Sl TVersion) (v : TVersion) (H : Heap) : Run tab (.fn n_q43) [l.enc versionC, .agg (versionC v)] H (putD l v) H := by
  refine cK.run (cK_fn o_q43 t_q43 (Nat.le_of_ble_eq_true rfl) (by decide) ?_)
  rw [z_q43]
  have hR := fun H => (Right15_run l H).cK
  have hO := fun H => (RightOne_run v H).cK
  unfold putD
  cases c1 : rightVs l.l with
  | false => simp [hR, c1]
  | true =>
  cases c2 : oneV v with
  | false => simp [hR, hO, c1, c2, versionC_len, ver_take]
  | true =>
  have hl8 : l.l.length ≤ 8 := by
    simp only [rightVs, Bool.and_eq_true, decide_eq_true_eq] at c1
    exact c1.2
  have hfull : ∀ (x : TVersion) (z : List D), z.length = 7 → setAll z 0 (versionC x) = versionC x := fun x z hz => setAll_full z _ (by rw [versionC_len, hz])
  simp [hR, hO, c1, c2, versionC_len, ver_take]
  refine LR_rule (WR_mono _) (Put15Inv l v H) ?_ (j := l.l.length) ⟨[], l.l, .v (.slice none 0 0), rfl, rfl, by simp, by simp, by simp, by simp, .inl ⟨rfl, rfl, rfl⟩, by simp, by simp, by simp, by simp⟩
  rintro j E H' ⟨pre, suf, d, hl, rfl, e0, e3, e6, e7, ho, hb, h1, h2, h3⟩
  have hlen : evLen false (l.enc versionC) = some (i64D l.l.length) := by simp [Sl.enc]
  cases suf with
  | nil =>
    have hp : l.l = pre := by simpa using hl
    have hlt' : ((pre.length : Int) < (l.l.length : Int)) = False := by simp [hp]
    rw [← hp] at ho
    have hK : (leftV v l.l).length ≤ l.l.length := List.length_filter_le _ _
    have hold : ∀ e : Int, (D.tup [l.enc versionC, i64D e]).under H.next = true := fun e => by
      have : (l.enc versionC).under H.next = true := under_zero _ _ (by simp [Sl.enc])
      simp [under_tup, under_cons, this, under_v, under_nil]
    generalize leftV v l.l = K at *
    have hput : ¬ K.length = 8 → oK (evApp (H'.add (.cells (versionC v))) false 7 96 d (.rs H'.next 0 1 (some 1) 7)) fun r => finX true H (.tup [r.fst, i64D 0]) r.snd fun x y => x = .tup [.sl (K.length + 1) (K.flatMap versionC ++ versionC v) none, i64D 0] ∧ y = H := fun h8 => by
      refine ownR_app (lo := H.next) (b := H.next + 1) (ho.mono (by simp) fun q q1 q2 => by rw [get_add, if_neg (by omega)]) (versionC_len v) (flatMap_length versionC_len _) (by omega) (by decide) (by simp) (by simp; omega) (by simp; omega) (by simp; omega) (by omega) _ fun d' H2 o2 n2 l2 l3 g2 => ?_
      rcases o2 with ⟨q1, -⟩ | ⟨-, r, rfl, q2, q3, q4⟩
      · omega
      · show finX true H (.tup [.rs r 0 (K.length + 1) none 7, i64D 0]) H2 _
        have hp2 : D.under.underAll 0 (K.flatMap versionC ++ versionC v) = true := by
          have := under_flatMap 0 _ versionC_pure (K ++ [v])
          simpa using this
        have hl2 : (K.flatMap versionC ++ versionC v).length = (K.length + 1) * 7 := by
          have := flatMap_length versionC_len (K ++ [v])
          simpa using this
        rw [finX_frozen (d' := .tup [.sl (K.length + 1) (K.flatMap versionC ++ versionC v) none, i64D 0]) l2 (frz_tupRow (rest := []) (by omega) (by simpa using q4) hl2 hp2)]
        exact ⟨rfl, rfl⟩
    have big8 : (8 ≤ K.length) = (K.length = 8) := by simp; omega
    have hdl : evLen false d = some (i64D K.length) := by
      rcases ho with ⟨q1, -, rfl⟩ | ⟨-, r, rfl, -⟩
      · rw [q1]; rfl
      · rfl
    have tail : ∀ E1 : Fr, True := fun _ => trivial
    cases hd : v.drop with
    | true =>
      rcases List.eq_nil_or_concat K with rfl | ⟨pre', w, e⟩
      · simp [e0, e3, e6, e7, hlen, hlt', hb, ver_get1, ver_at1, versionC_len, hd, lastD, hdl]
        rw [finX_old h2 (hold 12)]
        exact ⟨rfl, rfl⟩
      · rw [List.concat_eq_append] at e
        have hpos : 0 < K.length := by rw [e]; simp
        have hne : K ≠ [] := by intro e; rw [e] at hpos; simp at hpos
        rcases ho with ⟨q1, -, -⟩ | ⟨-, r, rfl, q2, q3, q4⟩
        · omega
        have hn : (K.length : Int) = (pre'.length : Int) + 1 := by rw [e]; simp
        have w1 : IntKind.i64.wrap ((K.length : Int) - 1) = pre'.length := by
          rw [show (K.length : Int) - 1 = pre'.length by omega]
          exact wrap64 (by omega) (by omega)
        have hL : (K.flatMap versionC)[pre'.length * 7 + 1]? = some (bD w.drop) := by
          have hl := flatMap_length versionC_len pre'
          rw [e, List.flatMap_append, List.getElem?_append_right (by omega), hl]
          simp [versionC]
          rfl
        have hlD : lastD K = w.drop := by unfold lastD; rw [e]; simp
        have hi : ((pre'.length : Int) < (K.length : Int)) = True := eq_true (by omega)
        simp [e0, e3, e6, e7, hlen, hlt', hb, ver_get1, ver_at1, versionC_len, hd, hdl, hne, hpos, w1, hi, q4, hL]
        rw [hlD]
        cases hwd : w.drop with
        | true =>
          simp [e0]
          rw [finX_old h2 (hold 12)]
          exact ⟨rfl, rfl⟩
        | false =>
          simp [e6, hdl]
          refine gK_of (fun h8 => ?_) (fun h8 => ?_)
          · simp at h8
            have h8' : K.length = 8 := by omega
            simp [h8', e0]
            rw [finX_old h2 (hold 2)]
            exact ⟨rfl, rfl⟩
          · simp at h8
            have h8' : ¬ K.length = 8 := by omega
            simp [h8', e3, e6, hb, versionC_len, ver_take, hfull]
            exact hput h8'
    | false =>
      simp [e0, e3, e6, e7, hlen, hlt', hb, ver_get1, ver_at1, versionC_len, hd, hdl, ver_take, hfull]
      refine gK_of (fun h8 => ?_) (fun h8 => ?_)
      · simp at h8
        have h8' : K.length = 8 := by omega
        simp [h8', e0]
        rw [finX_old h2 (hold 2)]
        exact ⟨rfl, rfl⟩
      · simp at h8
        have h8' : ¬ K.length = 8 := by omega
        simp [h8', e3, e6, hb, versionC_len, ver_take, hfull]
        exact hput h8'
  | cons x suf =>
    have hlt : pre.length < l.l.length := by rw [hl]; simp
    have hlt' : ((pre.length : Int) < (l.l.length : Int)) = True := by simp; omega
    have hw := wrap_more hlt l.ok
    have ev := elem_at versionC_len l.rep l.l .i64 pre.length x (by rw [hl]; simp)
    have ev' : evIadr 7 (l.enc versionC) (.v (.int .i64 (pre.length : Int))) = _ := ev
    have f0 : ∀ (x : TVersion) rest, evFadr 0 (.cp (versionC x ++ rest)) = some (.cp (i64D x.from_ :: bD x.drop :: (queryC x.query ++ rest))) := fun _ _ => rfl
    have lm : ∀ H (d : D) rest, evLoad H none (.cp (d :: rest)) = some d := fun _ _ _ => rfl
    by_cases c : x.from_ < v.from_
    · simp [-fadr_cp, -load_cp, e0, e3, e6, e7, hlen, hlt', hb, ver_get0, ver_at0, ev', f0, lm, load_elem _ _ _ _ (versionC_len x), versionC_len, hfull, c, hw]
      have hle : (leftV v pre).length ≤ 100000 := Nat.le_trans (List.length_filter_le _ _) (by omega)
      refine ownR_app (lo := H.next) (b := H.next + 1) (ho.mono (by simp) fun q q1 q2 => by rw [get_add, if_neg (by omega)]) (versionC_len x) (flatMap_length versionC_len _) hle (by decide) (by simp) (by simp; omega) (by simp; omega) (by simp; omega) (by omega) _ fun d' H2 o2 n2 l2 l3 g2 => ?_
      simp at n2
      have h5 : H.next + 1 ≤ H2.next := by omega
      refine ⟨suf.length, by omega, pre ++ [x], suf, d', by simp [hl], rfl, by simp [e0], by simp [e3], by simp, by simp, ?_, ?_, h5, l2, l3⟩
      · rw [leftV_snoc, if_pos c]
        simpa using o2
      · show H2.get H.next = _
        rw [g2 _ (by omega), get_add, if_neg (by omega), hb]
    · simp [-fadr_cp, -load_cp, e0, e3, e6, e7, hlen, hlt', hb, ver_get0, ver_at0, ev', f0, lm, load_elem _ _ _ _ (versionC_len x), versionC_len, hfull, c, hw]
      exact ⟨suf.length, by omega, pre ++ [x], suf, d, by simp [hl], rfl, by simp [e0], by simp [e3], by simp [e6], by simp, by rw [leftV_snoc, if_neg c]; exact ho, hb, h1, h2, h3⟩
def spansN (i : Int) : List TVersion → List TSpan
  | [] => []
  | v :: l => if v.drop = true then spansN (i + 1) l else ⟨i, v.from_, nextFrom l⟩ :: spansN (i + 1) l
theorem spansN_filter : ∀ (l pre L : List TVersion), L = pre ++ l → (spansFrom pre.length l).filter (fun s => !dropS L s) = spansN pre.length l
  | [], _, _, _ => rfl
  | v :: l, pre, L, h => by
    have hd : dropS L ⟨pre.length, v.from_, nextFrom l⟩ = v.drop := by
      unfold dropS
      rw [h]
      simp
    have ih := spansN_filter l (pre ++ [v]) L (by rw [h]; simp)
    rw [show (((pre ++ [v]).length : Nat) : Int) = (pre.length : Int) + 1 by simp] at ih
    simp only [spansFrom, spansN, List.filter_cons, hd, ih]
    cases v.drop <;> rfl
theorem spansK_eq {l : List TVersion} (h : rightVs l = true) : spansK l = spansN 0 l := by
  unfold spansK spansS
  rw [if_pos h]
  exact spansN_filter l [] l rfl
theorem spansN_length : ∀ (l : List TVersion) (i : Int), (spansN i l).length ≤ l.length
  | [], _ => Nat.le_refl _
  | v :: l, i => by
    have := spansN_length l (i + 1)
    unfold spansN
    split <;> simp <;> omega
def Spans15Inv (l : Sl TVersion) (H : Heap) (j : Nat) (E : Fr) (H' : Heap) : Prop :=
  ∃ (pre suf : List TVersion) (K : List TSpan) (d : D), l.l = pre ++ suf ∧ j = suf.length ∧ E 0 = l.enc versionC ∧ E 3 = d ∧ E 4 = i64D pre.length ∧
    OwnR (K.flatMap spanC) K.length 3 H.next H' d ∧ (rightVs l.l = true → spansN 0 l.l = K ++ spansN pre.length suf) ∧ (rightVs l.l = false → K = []) ∧ H.next ≤ H'.next ∧ H.next ≤ H'.low ∧ H'.low ≤ H'.next
theorem Spans15_c (l : Sl TVersion) (H : Heap) : cK tab (.fn n_q47) [l.enc versionC] H fun d H' => (∃ rep, d = slD rep (spansK l.l).length ((spansK l.l).flatMap spanC)) ∧ H' = H := by
  refine cK_fn o_q47 t_q47 (Nat.le_of_ble_eq_true rfl) (by decide) ?_
  rw [z_q47]
  have hR := fun H => (Right15_run l H).cK
  simp
  refine LR_rule (WR_mono _) (Spans15Inv l H) ?_ (j := l.l.length) ⟨[], l.l, [], .v (.slice none 0 0), rfl, rfl, by simp, by simp, by simp, .inl ⟨rfl, rfl, rfl⟩, fun _ => by simp, fun _ => rfl, by simp, by simp, by simp⟩
  rintro j E H' ⟨pre, suf, K, d, hl, rfl, e0, e3, e4, ho, hk, hk0, h1, h2, h3⟩
  have hlen : evLen false (l.enc versionC) = some (i64D l.l.length) := by simp [Sl.enc]
  have fin : spansK l.l = K → finX true H d H' fun d H' => (∃ rep, d = slD rep (spansK l.l).length ((spansK l.l).flatMap spanC)) ∧ H' = H := fun hK => by
    rw [hK]
    rcases ho with ⟨q1, q2, rfl⟩ | ⟨q0, r, rfl, q2, q3, q4⟩
    · have : K = [] := List.length_eq_zero_iff.1 q1
      subst this
      rw [finX_old h2 rfl]
      exact ⟨⟨none, rfl⟩, rfl⟩
    · rw [finX_frozen (d' := .sl K.length (K.flatMap spanC) none) h2 (frz_fresh (rest := []) q2 (by simpa using q4) (by rw [flatMap_length spanC_len]) (under_flatMap 0 _ spanC_pure _))]
      exact ⟨⟨some none, rfl⟩, rfl⟩
  cases c1 : rightVs l.l with
  | false =>
    have hK : spansK l.l = K := by
      rw [hk0 c1]
      unfold spansK spansS
      rw [c1]
      rfl
    simp [e0, e3, e4, hR, c1]
    exact fin hK
  | true =>
  have hl8 : l.l.length ≤ 8 := by
    simp only [rightVs, Bool.and_eq_true, decide_eq_true_eq] at c1
    exact c1.2
  cases suf with
  | nil =>
    have hp : l.l = pre := by simpa using hl
    have hlt' : ((pre.length : Int) < (l.l.length : Int)) = False := by simp [hp]
    have hK : spansK l.l = K := by rw [spansK_eq c1, hk c1]; simp [spansN]
    simp [e0, e3, e4, hR, c1, hlen, hlt']
    exact fin hK
  | cons v suf =>
    have hlt : pre.length < l.l.length := by rw [hl]; simp
    have hlt' : ((pre.length : Int) < (l.l.length : Int)) = True := by simp; omega
    have hw := wrap_more hlt l.ok
    have ev := elem_at versionC_len l.rep l.l .i64 pre.length v (by rw [hl]; simp)
    have ev' : evIadr 7 (l.enc versionC) (.v (.int .i64 (pre.length : Int))) = _ := ev
    have f1 : ∀ (x : TVersion) rest, evFadr 1 (.cp (versionC x ++ rest)) = some (.cp (bD x.drop :: (queryC x.query ++ rest))) := fun _ _ => rfl
    have f0 : ∀ (x : TVersion) rest, evFadr 0 (.cp (versionC x ++ rest)) = some (.cp (i64D x.from_ :: bD x.drop :: (queryC x.query ++ rest))) := fun _ _ => rfl
    have lm : ∀ H (d : D) rest, evLoad H none (.cp (d :: rest)) = some d := fun _ _ _ => rfl
    have hE := fun H => (end_run l pre suf v hl H).cK
    have hsn : spansN 0 l.l = K ++ spansN pre.length (v :: suf) := hk c1
    cases c3 : v.drop with
    | true =>
      simp [-fadr_cp, -load_cp, e0, e3, e4, hR, c1, hlen, hlt', ev', f1, f0, lm, c3, hw]
      exact ⟨suf.length, by omega, pre ++ [v], suf, K, d, by simp [hl], rfl, by simp [e0], by simp [e3], by simp, ho, fun _ => by rw [hsn]; simp [spansN, c3], fun h => (by rw [c1] at h; cases h), h1, h2, h3⟩
    | false =>
      simp [-fadr_cp, -load_cp, e0, e3, e4, hR, c1, hlen, hlt', ev', f1, f0, lm, c3, hw, hE]
      let s : TSpan := ⟨pre.length, v.from_, nextFrom suf⟩
      have hKl : K.length ≤ 100000 := by
        have h := spansN_length l.l 0
        rw [hsn, List.length_append] at h
        omega
      change oK (evApp (H'.add (.cells (spanC s))) false 3 24 d (.rs H'.next 0 1 (some 1) 3)) _
      refine ownR_app (lo := H.next) (b := H.next) (ho.mono (by simp) fun q q1 q2 => by rw [get_add, if_neg (by omega)]) (spanC_len s) (flatMap_length spanC_len _) hKl (by decide) (by simp) (by simp; omega) (by simp; omega) (by simp; omega) (Nat.le_refl _) _ fun d' H2 o2 n2 l2 l3 g2 => ?_
      simp at n2
      have h5 : H.next ≤ H2.next := by omega
      refine ⟨suf.length, by omega, pre ++ [v], suf, K ++ [s], d', by simp [hl], rfl, by simp [e0], by simp, by simp, ?_, fun _ => ?_, fun h => (by rw [c1] at h; cases h), h5, l2, l3⟩
      · simpa using o2
      · rw [hsn]; simp [spansN, c3, s]
end Go.Proofs.YtlnkifnkamojnaaGreat.Tz
