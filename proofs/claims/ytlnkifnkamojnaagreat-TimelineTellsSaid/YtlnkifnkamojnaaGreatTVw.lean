/-
The walks of timeline.Put and timeline.Back. Conditions: none.
-/
import Derived.Test.YtlnkifnkamojnaaGreatTVv
namespace Go.Proofs.YtlnkifnkamojnaaGreat.Tz
open Go.Aug Go.Aug.Api
set_option maxRecDepth 100000
theorem IndexFunc_Version_own {α : Type} {c : α → List D} (hc : ∀ x, (c x).length = 7) (p : α → Bool) (l : List α) (hl : l.length ≤ big) (cap : Option Nat) (g : FuncId) (caps : List D) (H : Heap) {r : Nat} (hg : H.get r = some (.cells (l.flatMap c)))
    (hp : ∀ x ∈ l, Run tab (.fn g) (.agg (c x) :: caps) (low0 H) (bD (p x)) (low0 H)) :
    Run tab (.fn n_q142) [.rs r 0 l.length cap 7, .fn (.func g) [] caps] H (i64D (idx p l)) H := by
  refine cK.run (cK_fn o_q142 t_q142 (Nat.le_of_ble_eq_true rfl) (by decide) ?_)
  simp
  refine LR_rule (WR_mono _) (fun j E H' => H' = low0 H ∧ ∃ pre suf, l = pre ++ suf ∧ j = suf.length ∧ E 0 = .rs r 0 l.length cap 7 ∧ E 1 = .fn (.func g) [] caps ∧ E 7 = i64D l.length ∧ E 8 = i64D pre.length ∧ (∀ x ∈ pre, p x = false)) ?_
    (j := l.length) ⟨rfl, [], l, by simp⟩
  rintro j E H' ⟨rfl, pre, suf, h0, rfl, e0, e1, e7, e8, hpre⟩
  cases suf with
  | nil =>
    simp at h0
    subst h0
    simp [e7, e8, idx_none hpre]
  | cons x suf =>
    have hlt : pre.length < l.length := by simp [h0]
    have hlt' : ((pre.length : Int) < (l.length : Int)) = True := by simp; omega
    have hL := own_load hc h0 (H := low0 H) hg
    have hX := (hp x (by rw [h0]; simp)).cK
    have hw := wrap_len hlt hl
    simp [-load_rf, e0, e1, e7, e8, hlt', hL, hX]
    refine gK_of (fun hx => ?_) (fun hx => ?_)
    · have hi := idx_some pre x suf hpre hx
      rw [← h0] at hi
      simp [e8, hi]
    · simp [e0, e1, e7, e8, hw]
      exact ⟨suf.length, by omega, pre ++ [x], suf, by simp [h0], rfl, by simp, fun y hy => by simp at hy; rcases hy with hy | rfl; exact hpre y hy; exact hx⟩
theorem DeleteFunc_Version_own {α : Type} {c : α → List D} (hc : ∀ x, (c x).length = 7) (p : α → Bool) (l : List α) (hl : l.length ≤ big) (cap : Option Nat) (g : FuncId) (caps : List D) (H : Heap) {r : Nat} (hg : H.get r = some (.cells (l.flatMap c))) (hr : r < H.next) (hlow : H.low ≤ H.next)
    (hp : ∀ x ∈ l, ∀ H', H.next ≤ H'.next → (∀ k, k < H.next → k ≠ r → H'.get k = H.get k) → Run tab (.fn g) (.agg (c x) :: caps) H' (bD (p x)) H') (R : D → Heap → Prop)
    (hk : ∀ rest H', RowPost H r ((l.filter fun x => !p x).flatMap c ++ rest) H' → R (.rs r 0 (l.filter fun x => !p x).length cap 7) H') :
    cK tab (.fn n_q133) [.rs r 0 l.length cap 7, .fn (.func g) [] caps] H R := by
  refine cK_fn o_q133 t_q133 (Nat.le_of_ble_eq_true rfl) (by decide) ?_
  have hI := (IndexFunc_Version_own hc p l hl cap g caps (low0 H) (by simpa using hg) fun x hx => hp x hx _ (by simp) (fun k h1 h2 => by simp)).cK
  rcases idx_cases p l with ⟨h1, h2, -⟩ | ⟨pre0, x0, suf0, h1, h2, h3, h4, -⟩
  · have hf : (l.filter fun x => !p x) = l := List.filter_eq_self.2 fun x hx => by simp [h2 x hx]
    rw [h1] at hI
    rw [hf] at hk
    simp [hI]
    exact RowIn.fin hr hlow (by simp [D.under, hr]) (RowIn.start hr hg) (fun H'' hh => hk [] H'' (by simpa using hh)) fun _ => rfl
  · rw [h4] at hI
    have hne : ((pre0.length : Int) = -1) = False := by simp
    have hlt0 : pre0.length < l.length := by rw [h1]; simp
    have hw0 := wrap_len hlt0 hl
    simp [hI, hne, hw0]
    refine LR_rule (WR_mono _) (DelInv c 7 p l cap r (.fn (.func g) [] caps) H) ?_
      (j := suf0.length) ⟨pre0, [x0], suf0, pre0.length + 1, by simp, by rw [h1]; simp; omega, by simp, rfl, ?_, fun x hx => by rw [h1]; simp [hx], by simp, by simp, by simp, by simp, by simpa [h1] using RowIn.start hr hg, fun _ => by simp⟩
    · rintro j E H' ⟨kept, junk, suf, m, hm0, hln, hj, rfl, hf, hm, e0, e1, e5, e6, hP, hsame⟩
      cases suf with
      | nil =>
        simp only [List.length_nil, Nat.add_zero] at hln
        have hjl : 0 < junk.length := List.length_pos_iff.2 hj
        have hkl : kept.length < l.length := by omega
        have hend : ((m : Int) < (l.length : Int)) = False := by simp only [eq_iff_iff, iff_false]; omega
        have hlo := own_lo (s := 7) r l.length cap kept.length hkl
        have hhi := own_hi (s := 7) r l.length cap kept.length (Nat.le_of_lt hkl)
        have hsub : l.length - kept.length = junk.length := by omega
        have hcl := own_clr hc (rows := kept ++ junk) rfl hj [.v (.int .i64 0), .v (.bool false), .v (.slice none 0 0), .v (.slice none 0 0), .v (.int .i64 0), .v (.string ⟨#[]⟩), .v (.int .i64 0)] rfl (cap.map (· - kept.length)) (H := H') (r := r) (by simpa using hP.row)
        rw [hsub] at hlo
        simp only [List.filter_nil, List.append_nil] at hf
        simp [e0, e5, e6, hend, hlo, hcl, hhi]
        refine RowIn.fin hr hlow (by simp [D.under, hr]) (hP.setRow _) (fun H'' hh => ?_) fun h => ?_
        · rw [hf] at hk
          exact hk _ H'' hh
        · have := hP.low
          rw [low_set] at h
          split at h <;> omega
      | cons x suf =>
        simp only [List.length_cons] at hln
        have hlt : m < l.length := by omega
        have hlt' : ((m : Int) < (l.length : Int)) = True := by simp only [eq_iff_iff, iff_true]; omega
        have hw := wrap_len hlt hl
        have hL := own_load hc (show kept ++ junk ++ x :: suf = (kept ++ junk) ++ x :: suf from rfl) (H := H') hP.row
        rw [List.length_append, ← hm0] at hL
        have hA := hP.add hr (.cells [.v (.int .i64 0), .v (.bool false), .v (.slice none 0 0), .v (.slice none 0 0), .v (.int .i64 0), .v (.string ⟨#[]⟩), .v (.int .i64 0)])
        have hB := hA.setNew hr H'.next hP.next (.cells (c x))
        have hn1 := hP.next
        have hn2 := hP.low'
        have hX := (hp x (hm x (by simp)) _ hB.next hB.old).cK
        have hst : ∀ (H1 : Heap), H1.get H'.next = some (.cells [.v (.int .i64 0), .v (.bool false), .v (.slice none 0 0), .v (.slice none 0 0), .v (.int .i64 0), .v (.string ⟨#[]⟩), .v (.int .i64 0)]) → evStore H1 7 (.rf H'.next 0) (.agg (c x)) = some (H1.set H'.next (.cells (c x))) := fun H1 h => by
          have hs := setAll_part (c x) [.v (.int .i64 0), .v (.bool false), .v (.slice none 0 0), .v (.slice none 0 0), .v (.int .i64 0), .v (.string ⟨#[]⟩), .v (.int .i64 0)] [] [] (by rw [hc]; rfl)
          simp only [List.append_nil, List.nil_append, List.length_nil] at hs
          simp only [evStore, h, cellsOf, hc, hs]
          rfl
        have hld : ∀ (H1 : Heap), H1.get H'.next = some (.cells (c x)) → evLoad H1 (some 7) (.rf H'.next 0) = some (.agg (c x)) := fun H1 h => by
          simp only [evLoad, cellsAt, h, pickL, List.drop_zero, hc, Nat.le_refl, if_true, List.take_of_length_le (show (c x).length ≤ 7 by rw [hc]; exact Nat.le_refl _)]
        have g1 : (H'.add (.cells [.v (.int .i64 0), .v (.bool false), .v (.slice none 0 0), .v (.slice none 0 0), .v (.int .i64 0), .v (.string ⟨#[]⟩), .v (.int .i64 0)])).get H'.next = some (.cells [.v (.int .i64 0), .v (.bool false), .v (.slice none 0 0), .v (.slice none 0 0), .v (.int .i64 0), .v (.string ⟨#[]⟩), .v (.int .i64 0)]) := by simp
        have g2 : ((H'.add (.cells [.v (.int .i64 0), .v (.bool false), .v (.slice none 0 0), .v (.slice none 0 0), .v (.int .i64 0), .v (.string ⟨#[]⟩), .v (.int .i64 0)])).set H'.next (.cells (c x))).get H'.next = some (.cells (c x)) := by rw [get_set, if_pos ⟨rfl, by rw [g1]; rfl⟩]
        have s1 := hst _ g1
        have l1 := hld _ g2
        generalize hHB : (H'.add (.cells [.v (.int .i64 0), .v (.bool false), .v (.slice none 0 0), .v (.slice none 0 0), .v (.int .i64 0), .v (.string ⟨#[]⟩), .v (.int .i64 0)])).set H'.next (.cells (c x)) = HB at *
        have hsB : H.next ≤ HB.low → HB.get r = H.get r := fun h => by
          have e : HB.get r = H'.get r := by
            rw [← hHB, get_set, if_neg (by omega), get_add, if_neg (by omega)]
          rw [e]
          refine hsame ?_
          rw [← hHB, low_set, low_add] at h
          split at h <;> omega
        simp [-load_rf, -store_rf, e0, e1, e5, e6, hlt', hL, s1, l1, hX]
        refine gK_of (fun hx => ?_) (fun hx => ?_)
        · have hkk : ((kept.length : Nat) : Int) < (l.length : Int) := by omega
          obtain ⟨y, junk', rfl⟩ : ∃ y t, junk = y :: t := by
            cases junk with
            | nil => exact absurd rfl hj
            | cons y t => exact ⟨y, t, rfl⟩
          have hS := own_store hc (show kept ++ y :: junk' ++ x :: suf = kept ++ y :: (junk' ++ x :: suf) by simp) x (H := HB) hB.row
          have hw2 := wrap_len (a := kept.length) (n := l.length) (by omega) hl
          simp at hx
          simp [-load_rf, -store_rf, e0, e1, e5, e6, hkk, hS, l1, hw, hw2]
          refine ⟨suf.length, by simp, kept ++ [x], junk' ++ [x], suf, m + 1, ?_, by omega, by simp, rfl, ?_, fun z hz => hm z (by simp [hz]), by simp [e0], by simp [e1], by simp, by simp, ?_, fun h => ?_⟩
          · simp at hm0 ⊢; omega
          · rw [hf]; simp [hx]
          · have := hB.setRow (((kept ++ x :: (junk' ++ x :: suf)).flatMap c))
            simpa using this
          · exfalso
            have := hB.low
            rw [low_set] at h
            split at h <;> omega
        · simp at hx
          simp [-load_rf, -store_rf, e0, e1, e5, e6, hw]
          refine ⟨suf.length, by simp, kept, junk ++ [x], suf, m + 1, ?_, by omega, by simp, rfl, ?_, fun z hz => hm z (by simp [hz]), by simp [e0], by simp [e1], by simp [e5], by simp, ?_, hsB⟩
          · simp at hm0 ⊢; omega
          · rw [hf]; simp [hx]
          · simpa using hB
    · rw [h1]
      have hf0 : (pre0.filter fun x => !p x) = pre0 := List.filter_eq_self.2 fun x hx => by simp [h2 x hx]
      simp [hf0, h3]
theorem room96 {n : Nat} (h : n ≤ 1000) : roomOk 96 n = true := roomOkR (by omega) (by decide)
theorem Clone_Version_c (m : Sl TVersion) (hm : m.l.length ≤ 1000) (H : Heap) (hlow : H.low ≤ H.next) (R : D → Heap → Prop) (hnil : m.rep = none → m.l = [] → R (.v (.slice none 0 0)) H)
    (hk : ∀ r cap H', H.next ≤ r → r < H'.next → H.next ≤ H'.next → (m.l = [] ∧ cap = some 0 ∨ m.l ≠ [] ∧ cap = none) → H'.get r = some (.cells (m.l.flatMap versionC)) → (∀ k, k < H.next → H'.get k = H.get k) → H'.low = H.low → R (.rs r 0 m.l.length cap 7) H') :
    cK tab (.fn n_q122) [m.enc versionC] H R := by
  refine cK_fn o_q122 t_q122 (Nat.le_of_ble_eq_true rfl) (by decide) ?_
  rw [z_q122]
  obtain ⟨rep, l, hl⟩ := m
  have own : ∀ (L : List D) (cap : Option Nat), L = l.flatMap versionC → oK (evApp ((low0 H).add (.cells [])) false 7 96 (.rs H.next 0 0 (some 0) 7) (.sl l.length L cap)) fun x => finX false H x.1 x.2 R := by
    rintro L cap rfl
    have hfl := flatMap_length versionC_len l
    by_cases h0 : l = []
    · subst h0
      refine ⟨(.rs H.next 0 0 (some 0) 7, (low0 H).add (.cells [])), by simp [evApp, firstD], ?_⟩
      show finX false H _ _ R
      rw [finX_new (by simp [D.under])]
      refine hk H.next (some 0) _ (Nat.le_refl _) (by simp) (by simp) (.inl ⟨rfl, rfl⟩) (by simp) (fun k hk => ?_) ?_
      · have : (k = H.next) = False := by simp; omega
        simp [this]
      · simp; omega
    · have hpos : l.length ≠ 0 := fun e => h0 (List.length_eq_zero_iff.1 e)
      refine ⟨(.rs (H.next + 1) 0 l.length none 7, ((low0 H).add (.cells [])).add (.cells (l.flatMap versionC))), ?_, ?_⟩
      · simp [evApp, firstD, hfl, hpos, room96 hm]
      · show finX false H _ _ R
        rw [finX_new (by simp [D.under])]
        refine hk (H.next + 1) none _ (by omega) (by simp) (by simp) (.inr ⟨h0, rfl⟩) (by simp) (fun k hk => ?_) ?_
        · have e1 : (k = H.next) = False := by simp; omega
          have e2 : (k = H.next + 1) = False := by simp; omega
          simp [e1, e2]
        · simp; omega
  cases rep with
  | none =>
    cases l with
    | nil =>
      simp [Sl.enc, eqAny]
      exact hnil rfl rfl
    | cons x l =>
      have := own _ none rfl
      simp [Sl.enc, slD, eqAny]
      simpa using this
  | some cap =>
    have := own _ cap rfl
    simp [Sl.enc, slD, eqAny]
    simpa using this
theorem DeleteFunc_Version_nil (g : FuncId) (caps : List D) (H : Heap) : Run tab (.fn n_q133) [.v (.slice none 0 0), .fn (.func g) [] caps] H (.v (.slice none 0 0)) H := by
  refine cK.run (cK_fn o_q133 t_q133 (Nat.le_of_ble_eq_true rfl) (by decide) ?_)
  have hI : ∀ H, Run tab (.fn n_q142) [.v (.slice none 0 0), .fn (.func g) [] caps] H (i64D (-1)) H := fun H => by
    refine cK.run (cK_fn o_q142 t_q142 (Nat.le_of_ble_eq_true rfl) (by decide) ?_)
    simp
    refine LR_rule (WR_mono _) (fun j E H' => H' = low0 H ∧ E 7 = i64D 0 ∧ E 8 = i64D 0) ?_ (j := 0) ⟨rfl, by simp, by simp⟩
    rintro j E H' ⟨rfl, e7, e8⟩
    simp [e7, e8]
  have hI' := fun H => (hI H).cK
  simp [hI']
theorem Put_1_run (x v : TVersion) (b : Nat) (H : Heap) (hb : H.get b = some (.cells (versionC v))) (hlt : b < H.next) : Run tab (.fn n_q166) [.agg (versionC x), .rf b 0] H (bD (decide (v.from_ ≤ x.from_))) H := by
  refine cK.run (cK_fn o_q166 t_q166 (Nat.le_of_ble_eq_true rfl) (by decide) ?_)
  have hne : (b = H.next) = False := by simp; omega
  simp [hb, hne, ver_get0, ver_at0, versionC_len]
theorem frz_tupRow {H : Heap} {lo r n : Nat} {cap : Option Nat} {s : Nat} {L rest : List D} {x : Value} (hr : lo ≤ r) (hg : H.get r = some (.cells (L ++ rest))) (hL : L.length = n * s) (hp : D.under.underAll 0 L = true) : frz H lo 64 (.tup [.rs r 0 n cap s, .v x]) = some (.tup [.sl n L cap, .v x]) := by
  have hz : ∀ l : List D, D.under.underAll 0 l = true → frzL (frz H lo 62) l = some l := by
    intro l
    induction l with
    | nil => intro _; rfl
    | cons d l ih =>
      intro h
      simp only [D.under.underAll, Bool.and_eq_true] at h
      simp only [frzL, frz_under0 H lo 61 d (under_zero lo d h.1), ih h.2]
  have hu : (D.rs r 0 n cap s).under lo = false := by simp [D.under]; omega
  have hlt : ¬ r < lo := by omega
  rw [frz_tup, if_neg (by simp [under_cons, hu]), frzL_cons, frz_rs, if_neg hlt, hg]
  simp only [Nat.zero_add, List.length_append, List.drop_zero]
  rw [if_pos (by omega), List.take_left' hL, hz L hp, frzL_cons, frz_under0 _ _ _ (.v x) (under_v _ _), frzL_nil]
  rfl
theorem app_kept {H : Heap} {r r2 : Nat} {cap c : Option Nat} {K : List TVersion} {rest : List D} {v : TVersion} (hg : H.get r = some (.cells (K.flatMap versionC ++ rest))) (h2 : H.get r2 = some (.cells (versionC v))) (hn : K.length ≤ 900) (hc : cap = none ∨ (cap = some 0 ∧ K = [])) (k : D × Heap → Prop)
    (hk : ∀ H', H'.get H.next = some (.cells ((K ++ [v]).flatMap versionC)) → H'.next = H.next + 1 → (H.low ≤ H'.low ∨ r ≤ H'.low) → k (.rs H.next 0 (K.length + 1) none 7, H')) : oK (evApp H false 7 96 (.rs r 0 K.length cap 7) (.rs r2 0 1 c 7)) k := by
  have h1 : ((1 : Nat) == 0) = false := rfl
  have hf := firstR_one (c := c) (versionC_len v) h2
  have hl := flatMap_length versionC_len K
  have hr := room96 (n := K.length + 1) (by omega)
  rcases hc with rfl | ⟨rfl, rfl⟩
  · refine ⟨(.rs H.next 0 (K.length + 1) none 7, (H.del r).add (.cells ((K ++ [v]).flatMap versionC))), ?_, hk _ (by simp) (by simp) ?_⟩
    · simp only [evApp, hf, h1, hg, hr, beq_self_eq_true, if_true, Bool.false_eq_true, if_false, Bool.true_and, Bool.and_true, List.length_append, hl]
      by_cases e : rest = []
      · subst e
        simp
      · have : 0 < rest.length := List.length_pos_iff.2 e
        have e1 : (K.length * 7 == K.length * 7 + rest.length) = false := by simp; omega
        have e2 : K.length * 7 ≤ K.length * 7 + rest.length := by omega
        have e3 : (K.flatMap versionC ++ rest).take (K.length * 7) = K.flatMap versionC := List.take_left' hl
        simp [e1, e2, e3]
    · simp; split <;> omega
  · refine ⟨(.rs H.next 0 1 none 7, H.add (.cells (versionC v))), ?_, hk _ (by simp) (by simp) (.inl (by simp))⟩
    have hr1 : roomOk 96 1 = true := hr
    simp [evApp, hf, hg, hr1]
theorem timeline_Put_run (l : Sl TVersion) (v : TVersion) (H : Heap) : Run tab (.fn n_q165) [l.enc versionC, .agg (versionC v)] H (putD l v) H := by
  refine cK.run (cK_fn o_q165 t_q165 (Nat.le_of_ble_eq_true rfl) (by decide) ?_)
  rw [z_q165]
  have hR := fun H => (timeline_Right_run l H).cK
  have hO := fun H => (timeline_one_run v H).cK
  unfold putD
  cases c1 : rightVs l.l with
  | false => simp [hR, c1]
  | true =>
  cases c2 : oneV v with
  | false => simp [hR, hO, c1, c2, versionC_len, ver_take]
  | true =>
  have hl8 : l.l.length ≤ 8 := by
    simp only [rightVs, Bool.and_eq_true, decide_eq_true_eq] at c1
    exact c1.2
  simp [hR, hO, c1, c2, versionC_len, ver_take]
  have vcap : ∀ {H1 : Heap}, H1.get H.next = some (.cells (versionC v)) → H.next < H1.next → H.next ≤ H1.next → True := fun _ _ _ => trivial
  refine Clone_Version_c l (by omega) _ (by simp) _ (fun h1 h2 => ?_) fun r cap H' r1 r2 r3 hc g1 g2 w => ?_
  · have hD := fun g caps H => (DeleteFunc_Version_nil g caps H).cK
    simp [hD, h2, leftV, lastD]
    have hK0 : leftV v l.l = [] := by rw [h2]; rfl
    have hfull : ∀ z : List D, z.length = 7 → setAll z 0 (versionC v) = versionC v := fun z hz => setAll_full z _ (by rw [versionC_len, hz])
    rw [hK0]
    cases hd : v.drop with
    | true => simp [ver_get1, ver_at1, versionC_len, hd, lastD]
    | false =>
      simp [ver_get1, ver_at1, versionC_len, hd, ver_take, hfull]
      have a1 : (((low0 H).add (.cells (versionC v))).add (.cells (versionC v))).get (H.next + 1) = some (.cells (versionC v)) := by simp
      have a2 : (((low0 H).add (.cells (versionC v))).add (.cells (versionC v))).next = H.next + 2 := by simp
      have a3 : (((low0 H).add (.cells (versionC v))).add (.cells (versionC v))).low = H.next := by simp
      generalize ((low0 H).add (.cells (versionC v))).add (.cells (versionC v)) = H1 at *
      refine ⟨_, appR_first (versionC_len v) (by decide) a1, ?_⟩
      show finX true H (.tup [.rs H1.next 0 1 none 7, i64D 0]) (H1.add (.cells (versionC v))) _
      rw [finX_frozen (d' := .tup [.sl 1 (versionC v) none, i64D 0]) (by simp [a3]) (frz_tupRow (rest := []) (by omega) (by simp) rfl (versionC_pure v))]
      exact ⟨rfl, rfl⟩
  · simp at r1 r2 r3 g2 w
    have hb : H'.get H.next = some (.cells (versionC v)) := by rw [g2 _ (by omega)]; simp
    refine DeleteFunc_Version_own versionC_len (fun x => decide (v.from_ ≤ x.from_)) l.l l.ok cap n_q166 [.rf H.next 0] H' g1 r2 (by omega) (fun x _ H2 h1 h2 => Put_1_run x v H.next H2 ?_ (by omega)) _ fun rest H'' hp => ?_
    · rw [h2 _ (by omega) (by omega), hb]
    have hb2 : H''.get H.next = some (.cells (versionC v)) := by rw [hp.old _ (by omega) (by omega), hb]
    have hlo : H.next ≤ H''.low := by
      rcases hp.low with h | h <;> omega
    have hrow := hp.row
    change H''.get r = some (.cells ((leftV v l.l).flatMap versionC ++ rest)) at hrow
    have hK : (leftV v l.l).length ≤ l.l.length := List.length_filter_le _ _
    show oK (evLen false (.rs r 0 (leftV v l.l).length cap 7)) _
    have hfold : (List.filter (fun x => !decide (v.from_ ≤ x.from_)) l.l) = leftV v l.l := rfl
    have hcap : cap = none ∨ (cap = some 0 ∧ leftV v l.l = []) := by
      rcases hc with ⟨a, b⟩ | ⟨-, b⟩
      · exact .inr ⟨b, by rw [a]; rfl⟩
      · exact .inl b
    generalize leftV v l.l = K at *
    have hfull : ∀ z : List D, z.length = 7 → setAll z 0 (versionC v) = versionC v := fun z hz => setAll_full z _ (by rw [versionC_len, hz])
    have hlast : ∀ (pre : List TVersion) (w : TVersion), K = pre ++ [w] → (K.flatMap versionC ++ rest)[pre.length * 7 + 1]? = some (bD w.drop) := fun pre w e => by
      have hl := flatMap_length versionC_len pre
      rw [e, List.flatMap_append, List.append_assoc, List.getElem?_append_right (by omega), hl]
      simp [versionC]
    have hold : ∀ e : Int, (D.tup [l.enc versionC, i64D e]).under H.next = true := fun e => by
      have : (l.enc versionC).under H.next = true := under_zero _ _ (by simp [Sl.enc])
      simp [under_tup, under_cons, this, under_v, under_nil]
    have hput : ¬ K.length = 8 → oK (evApp (H''.add (.cells (versionC v))) false 7 96 (.rs r 0 K.length cap 7) (.rs H''.next 0 1 (some 1) 7)) fun r => finX true H (.tup [r.fst, i64D 0]) r.snd fun x y => x = .tup [.sl (K.length + 1) (K.flatMap versionC ++ versionC v) none, i64D 0] ∧ y = H := fun h8 => by
      have n1 := hp.next
      have n2 := hp.low'
      refine app_kept (K := K) (rest := rest) (v := v) ?_ (by simp) (by omega) hcap _ fun H4 q1 q2 q3 => ?_
      · rw [get_add, if_neg (by omega)]; exact hrow
      · simp at q1 q2 q3
        have : H.next ≤ H4.low := by omega
        show finX true H (.tup [.rs (H''.add (.cells (versionC v))).next 0 (K.length + 1) none 7, i64D 0]) H4 _
        rw [finX_frozen (d' := .tup [.sl (K.length + 1) ((K ++ [v]).flatMap versionC) none, i64D 0]) this (frz_tupRow (rest := []) (by simp; omega) (by simpa using q1) (by rw [flatMap_length versionC_len]; simp) (under_flatMap 0 _ versionC_pure _))]
        exact ⟨by simp, rfl⟩
    cases hd : v.drop with
    | true =>
      rcases List.eq_nil_or_concat K with rfl | ⟨pre, w, e⟩
      · simp [hfold, hb2, ver_get1, ver_at1, versionC_len, hd, lastD]
        rw [finX_old hlo (hold 12)]
        exact ⟨rfl, rfl⟩
      · have hL := hlast pre w (by simpa using e)
        have hn : (K.length : Int) = (pre.length : Int) + 1 := by rw [e]; simp
        have e0 : ((pre.length : Int) + 1 = 0) = False := by simp; omega
        have hgl : K.getLast? = some w := by rw [e]; simp
        have w1 : IntKind.i64.wrap (pre.length : Int) = pre.length := wrap64 (by omega) (by omega)
        simp [hfold, hb2, ver_get1, ver_at1, versionC_len, hd, lastD, hn, e0, w1, hrow, hgl]
        rw [if_pos (by omega)]
        simp [hrow, hL]
        have hlD : lastD K = w.drop := by unfold lastD; rw [hgl]
        rw [hlD]
        cases hwd : w.drop with
        | true =>
          simp
          rw [finX_old hlo (hold 12)]
          exact ⟨rfl, rfl⟩
        | false =>
          simp [hfold, hn, hb2, versionC_len, ver_take, hfull]
          refine gK_of (fun h8 => ?_) (fun h8 => ?_)
          · simp at h8
            have h8' : K.length = 8 := by omega
            simp [h8']
            rw [finX_old hlo (hold 2)]
            exact ⟨rfl, rfl⟩
          · simp at h8
            have h8' : ¬ K.length = 8 := by omega
            simp [h8', hb2, hfold, versionC_len, ver_take, hfull]
            exact hput h8'
    | false =>
      simp [hfold, hb2, ver_get1, ver_at1, versionC_len, hd, ver_take, hfull]
      refine gK_of (fun h8 => ?_) (fun h8 => ?_)
      · simp at h8
        have h8' : K.length = 8 := by omega
        simp [h8']
        rw [finX_old hlo (hold 2)]
        exact ⟨rfl, rfl⟩
      · simp at h8
        have h8' : ¬ K.length = 8 := by omega
        simp [h8', hb2, hfold, versionC_len, ver_take, hfull]
        exact hput h8'
theorem sl_hi {α : Type} {c : α → List D} {s : Nat} (hc : ∀ x, (c x).length = s) (rep : Option (Option Nat)) (l : List α) (m : Nat) (hm : m ≤ l.length) (h0 : 0 < l.length) (k : IntKind) :
    ∃ cap, sliceX s (slD rep l.length (l.flatMap c)) none (some (.v (.int k (m : Nat)))) none false = some (slD (some cap) m ((l.take m).flatMap c)) := by
  have ht : ((l.flatMap c).take (m * s)) = (l.take m).flatMap c := by
    conv => lhs; rw [← List.take_append_drop m l, List.flatMap_append]
    exact List.take_left' (by rw [flatMap_length hc]; simp [Nat.min_eq_left hm])
  have key : ∀ cap, sliceX s (.sl l.length (l.flatMap c) cap) none (some (.v (.int k (m : Nat)))) none false = some (.sl m ((l.take m).flatMap c) (cap.map (· - 0))) := by
    intro cap
    simp only [sliceX, bound_none, bound_some]
    rw [if_pos (by simp; omega)]
    simp [ht]
  cases rep with
  | none =>
    cases hn : l.length with
    | zero => omega
    | succ n =>
      refine ⟨none, ?_⟩
      have := key none
      rw [hn] at this
      exact this
  | some cap => exact ⟨_, key cap⟩
theorem timeline_Back_run (l : Sl TVersion) (H : Heap) : Run tab (.fn n_q161) [l.enc versionC] H (backD l) H := by
  refine cK.run (cK_fn o_q161 t_q161 (Nat.le_of_ble_eq_true rfl) (by decide) ?_)
  rw [z_q161]
  have hR := fun H => (timeline_Right_run l H).cK
  unfold backD
  cases c1 : rightVs l.l with
  | false => simp [hR, c1]
  | true =>
  have hl8 : l.l.length ≤ 8 := by
    simp only [rightVs, Bool.and_eq_true, decide_eq_true_eq] at c1
    exact c1.2
  simp only [Sl.enc] at hR
  by_cases c2 : l.l.length < 2
  · have c2' : ((l.l.length : Int) < 2) = True := by simp; omega
    simp [Sl.enc, hR, c1, c2, c2']
  · have c2' : ((l.l.length : Int) < 2) = False := by simp; omega
    have w1 : IntKind.i64.wrap ((l.l.length : Int) - 1) = ((l.l.length - 1 : Nat) : Int) := by
      rw [show (l.l.length : Int) - 1 = ((l.l.length - 1 : Nat) : Int) by omega]
      exact wrap64 (by omega) (by omega)
    obtain ⟨cap, hs⟩ := sl_hi versionC_len l.rep l.l (l.l.length - 1) (by omega) (by omega) .i64
    have ht : l.l.take (l.l.length - 1) = l.l.dropLast := by rw [List.dropLast_eq_take]
    rw [ht] at hs
    simp [Sl.enc, hR, c1, c2, c2', w1, hs]
    have hdl : l.l.dropLast.length = l.l.length - 1 := by simp
    have := Clone_Version_c ⟨some cap, l.l.dropLast, Nat.le_trans (by rw [hdl]; exact Nat.sub_le _ _) l.ok⟩ (by simp; omega) (low0 H) (by simp) (fun d H' => finX true H (.tup [d, .v (.int .i64 0)]) H' fun x y => x = .tup [.sl (l.l.length - 1) (l.l.dropLast.flatMap versionC) none, .v (.int .i64 0)] ∧ y = H) (fun h1 => by cases h1) fun r cap' H' r1 r2 r3 hc g1 g2 w => ?_
    · simp only [Sl.enc, hdl] at this
      exact this
    · simp at r1 r2 r3 g2 w
      have hne : l.l.dropLast ≠ [] := fun e => by rw [e] at hdl; simp at hdl; omega
      obtain rfl : cap' = none := by
        rcases hc with ⟨a, -⟩ | ⟨-, b⟩
        · exact absurd a hne
        · exact b
      simp only [hdl]
      rw [finX_frozen (d' := .tup [.sl (l.l.length - 1) (l.l.dropLast.flatMap versionC) none, i64D 0]) (by omega) (frz_tupRow (rest := []) r1 (by simpa using g1) (by rw [flatMap_length versionC_len, hdl]) (under_flatMap 0 _ versionC_pure _))]
      exact ⟨rfl, rfl⟩
end Go.Proofs.YtlnkifnkamojnaaGreat.Tz
