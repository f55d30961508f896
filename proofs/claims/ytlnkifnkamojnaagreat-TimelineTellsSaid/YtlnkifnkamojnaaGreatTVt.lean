/-
The walks of timeline.Spans: what collects spans, what leaves out Drops. Conditions: none.
-/
import Derived.Test.YtlnkifnkamojnaaGreatTVs
namespace Go.Proofs.YtlnkifnkamojnaaGreat.Tz
open Go.Aug Go.Aug.Api
set_option maxRecDepth 100000
theorem IndexFunc_Span_own {α : Type} {c : α → List D} (hc : ∀ x, (c x).length = 3) (p : α → Bool) (l : List α) (hl : l.length ≤ big) (cap : Option Nat) (g : FuncId) (caps : List D) (H : Heap) {r : Nat} (hg : H.get r = some (.cells (l.flatMap c)))
    (hp : ∀ x ∈ l, Run tab (.fn g) (.agg (c x) :: caps) (low0 H) (bD (p x)) (low0 H)) :
    Run tab (.fn n_q140) [.rs r 0 l.length cap 3, .fn (.func g) [] caps] H (i64D (idx p l)) H := by
  refine cK.run (cK_fn o_q140 t_q140 (Nat.le_of_ble_eq_true rfl) (by decide) ?_)
  simp
  refine LR_rule (WR_mono _) (fun j E H' => H' = low0 H ∧ ∃ pre suf, l = pre ++ suf ∧ j = suf.length ∧ E 0 = .rs r 0 l.length cap 3 ∧ E 1 = .fn (.func g) [] caps ∧ E 7 = i64D l.length ∧ E 8 = i64D pre.length ∧ (∀ x ∈ pre, p x = false)) ?_
    (j := l.length) ⟨rfl, [], l, by simp⟩
  rintro j E H' ⟨rfl, pre, suf, h0, rfl, e0, e1, e7, e8, hpre⟩
  cases suf with
  | nil =>
    simp at h0
    subst h0
    simp [e7, e8, idx_none hpre]
  | cons x suf =>
    have hlt : pre.length < l.length := by simp [h0]
    have hlt' : ((pre.length : Int) < (l.length : Int)) = True := by simp; omega
    have hL := own_load hc h0 (H := low0 H) hg
    have hX := (hp x (by rw [h0]; simp)).cK
    have hw := wrap_len hlt hl
    simp [-load_rf, e0, e1, e7, e8, hlt', hL, hX]
    refine gK_of (fun hx => ?_) (fun hx => ?_)
    · have hi := idx_some pre x suf hpre hx
      rw [← h0] at hi
      simp [e8, hi]
    · simp [e0, e1, e7, e8, hw]
      exact ⟨suf.length, by omega, pre ++ [x], suf, by simp [h0], rfl, by simp, fun y hy => by simp at hy; rcases hy with hy | rfl; exact hpre y hy; exact hx⟩
theorem DeleteFunc_Span_own {α : Type} {c : α → List D} (hc : ∀ x, (c x).length = 3) (p : α → Bool) (l : List α) (hl : l.length ≤ big) (cap : Option Nat) (g : FuncId) (caps : List D) (H : Heap) {r : Nat} (hg : H.get r = some (.cells (l.flatMap c))) (hr : r < H.next) (hlow : H.low ≤ H.next)
    (hp : ∀ x ∈ l, ∀ H', H.next ≤ H'.next → (∀ k, k < H.next → k ≠ r → H'.get k = H.get k) → Run tab (.fn g) (.agg (c x) :: caps) H' (bD (p x)) H') (R : D → Heap → Prop)
    (hk : ∀ rest H', RowPost H r ((l.filter fun x => !p x).flatMap c ++ rest) H' → R (.rs r 0 (l.filter fun x => !p x).length cap 3) H') :
    cK tab (.fn n_q132) [.rs r 0 l.length cap 3, .fn (.func g) [] caps] H R := by
  refine cK_fn o_q132 t_q132 (Nat.le_of_ble_eq_true rfl) (by decide) ?_
  have hI := (IndexFunc_Span_own hc p l hl cap g caps (low0 H) (by simpa using hg) fun x hx => hp x hx _ (by simp) (fun k h1 h2 => by simp)).cK
  rcases idx_cases p l with ⟨h1, h2, -⟩ | ⟨pre0, x0, suf0, h1, h2, h3, h4, -⟩
  · have hf : (l.filter fun x => !p x) = l := List.filter_eq_self.2 fun x hx => by simp [h2 x hx]
    rw [h1] at hI
    rw [hf] at hk
    simp [hI]
    exact RowIn.fin hr hlow (by simp [D.under, hr]) (RowIn.start hr hg) (fun H'' hh => hk [] H'' (by simpa using hh)) fun _ => rfl
  · rw [h4] at hI
    have hne : ((pre0.length : Int) = -1) = False := by simp
    have hlt0 : pre0.length < l.length := by rw [h1]; simp
    have hw0 := wrap_len hlt0 hl
    simp [hI, hne, hw0]
    refine LR_rule (WR_mono _) (DelInv c 3 p l cap r (.fn (.func g) [] caps) H) ?_
      (j := suf0.length) ⟨pre0, [x0], suf0, pre0.length + 1, by simp, by rw [h1]; simp; omega, by simp, rfl, ?_, fun x hx => by rw [h1]; simp [hx], by simp, by simp, by simp, by simp, by simpa [h1] using RowIn.start hr hg, fun _ => by simp⟩
    · rintro j E H' ⟨kept, junk, suf, m, hm0, hln, hj, rfl, hf, hm, e0, e1, e5, e6, hP, hsame⟩
      cases suf with
      | nil =>
        simp only [List.length_nil, Nat.add_zero] at hln
        have hjl : 0 < junk.length := List.length_pos_iff.2 hj
        have hkl : kept.length < l.length := by omega
        have hend : ((m : Int) < (l.length : Int)) = False := by simp only [eq_iff_iff, iff_false]; omega
        have hlo := own_lo (s := 3) r l.length cap kept.length hkl
        have hhi := own_hi (s := 3) r l.length cap kept.length (Nat.le_of_lt hkl)
        have hsub : l.length - kept.length = junk.length := by omega
        have hcl := own_clr hc (rows := kept ++ junk) rfl hj [.v (.int .i64 0), .v (.int .i64 0), .v (.int .i64 0)] rfl (cap.map (· - kept.length)) (H := H') (r := r) (by simpa using hP.row)
        rw [hsub] at hlo
        simp only [List.filter_nil, List.append_nil] at hf
        simp [e0, e5, e6, hend, hlo, hcl, hhi]
        refine RowIn.fin hr hlow (by simp [D.under, hr]) (hP.setRow _) (fun H'' hh => ?_) fun h => ?_
        · rw [hf] at hk
          exact hk _ H'' hh
        · have := hP.low
          rw [low_set] at h
          split at h <;> omega
      | cons x suf =>
        simp only [List.length_cons] at hln
        have hlt : m < l.length := by omega
        have hlt' : ((m : Int) < (l.length : Int)) = True := by simp only [eq_iff_iff, iff_true]; omega
        have hw := wrap_len hlt hl
        have hL := own_load hc (show kept ++ junk ++ x :: suf = (kept ++ junk) ++ x :: suf from rfl) (H := H') hP.row
        rw [List.length_append, ← hm0] at hL
        have hA := hP.add hr (.cells [.v (.int .i64 0), .v (.int .i64 0), .v (.int .i64 0)])
        have hB := hA.setNew hr H'.next hP.next (.cells (c x))
        have hn1 := hP.next
        have hn2 := hP.low'
        have hX := (hp x (hm x (by simp)) _ hB.next hB.old).cK
        have hst : ∀ (H1 : Heap), H1.get H'.next = some (.cells [.v (.int .i64 0), .v (.int .i64 0), .v (.int .i64 0)]) → evStore H1 3 (.rf H'.next 0) (.agg (c x)) = some (H1.set H'.next (.cells (c x))) := fun H1 h => by
          have hs := setAll_part (c x) [.v (.int .i64 0), .v (.int .i64 0), .v (.int .i64 0)] [] [] (by rw [hc]; rfl)
          simp only [List.append_nil, List.nil_append, List.length_nil] at hs
          simp only [evStore, h, cellsOf, hc, hs]
          rfl
        have hld : ∀ (H1 : Heap), H1.get H'.next = some (.cells (c x)) → evLoad H1 (some 3) (.rf H'.next 0) = some (.agg (c x)) := fun H1 h => by
          simp only [evLoad, cellsAt, h, pickL, List.drop_zero, hc, Nat.le_refl, if_true, List.take_of_length_le (show (c x).length ≤ 3 by rw [hc]; exact Nat.le_refl _)]
        have g1 : (H'.add (.cells [.v (.int .i64 0), .v (.int .i64 0), .v (.int .i64 0)])).get H'.next = some (.cells [.v (.int .i64 0), .v (.int .i64 0), .v (.int .i64 0)]) := by simp
        have g2 : ((H'.add (.cells [.v (.int .i64 0), .v (.int .i64 0), .v (.int .i64 0)])).set H'.next (.cells (c x))).get H'.next = some (.cells (c x)) := by rw [get_set, if_pos ⟨rfl, by rw [g1]; rfl⟩]
        have s1 := hst _ g1
        have l1 := hld _ g2
        generalize hHB : (H'.add (.cells [.v (.int .i64 0), .v (.int .i64 0), .v (.int .i64 0)])).set H'.next (.cells (c x)) = HB at *
        have hsB : H.next ≤ HB.low → HB.get r = H.get r := fun h => by
          have e : HB.get r = H'.get r := by
            rw [← hHB, get_set, if_neg (by omega), get_add, if_neg (by omega)]
          rw [e]
          refine hsame ?_
          rw [← hHB, low_set, low_add] at h
          split at h <;> omega
        simp [-load_rf, -store_rf, e0, e1, e5, e6, hlt', hL, s1, l1, hX]
        refine gK_of (fun hx => ?_) (fun hx => ?_)
        · have hkk : ((kept.length : Nat) : Int) < (l.length : Int) := by omega
          obtain ⟨y, junk', rfl⟩ : ∃ y t, junk = y :: t := by
            cases junk with
            | nil => exact absurd rfl hj
            | cons y t => exact ⟨y, t, rfl⟩
          have hS := own_store hc (show kept ++ y :: junk' ++ x :: suf = kept ++ y :: (junk' ++ x :: suf) by simp) x (H := HB) hB.row
          have hw2 := wrap_len (a := kept.length) (n := l.length) (by omega) hl
          simp at hx
          simp [-load_rf, -store_rf, e0, e1, e5, e6, hkk, hS, l1, hw, hw2]
          refine ⟨suf.length, by simp, kept ++ [x], junk' ++ [x], suf, m + 1, ?_, by omega, by simp, rfl, ?_, fun z hz => hm z (by simp [hz]), by simp [e0], by simp [e1], by simp, by simp, ?_, fun h => ?_⟩
          · simp at hm0 ⊢; omega
          · rw [hf]; simp [hx]
          · have := hB.setRow (((kept ++ x :: (junk' ++ x :: suf)).flatMap c))
            simpa using this
          · exfalso
            have := hB.low
            rw [low_set] at h
            split at h <;> omega
        · simp at hx
          simp [-load_rf, -store_rf, e0, e1, e5, e6, hw]
          refine ⟨suf.length, by simp, kept, junk ++ [x], suf, m + 1, ?_, by omega, by simp, rfl, ?_, fun z hz => hm z (by simp [hz]), by simp [e0], by simp [e1], by simp [e5], by simp, ?_, hsB⟩
          · simp at hm0 ⊢; omega
          · rw [hf]; simp [hx]
          · simpa using hB
    · rw [h1]
      have hf0 : (pre0.filter fun x => !p x) = pre0 := List.filter_eq_self.2 fun x hx => by simp [h2 x hx]
      simp [hf0, h3]
def CollI (H : Heap) (e : Env) (all : List TSpan) (o : Option (List TSpan)) (H' : Heap) : Prop :=
  match o with
  | some rest => ∃ pre d, all = pre ++ rest ∧ OwnR (pre.flatMap spanC) pre.length 3 (H.next + 2) H' d ∧ H'.get H.next = some (.cells [d]) ∧
      H'.get (H.next + 1) = some (.loop false false .normal e [7] F_q117.a4 F_q117.b5) ∧ H.next + 2 ≤ H'.next ∧ H.next ≤ H'.low ∧ H'.low ≤ H'.next ∧ (∀ k, k < H.next → H'.get k = H.get k) ∧ (pre = [] ∨ H'.low ≤ H.next + 1)
  | none => False
theorem AppendSeq_c (l : Sl TVersion) (hl : (spansS l.l).length ≤ 100) (H : Heap) (hlow : H.low ≤ H.next) (R : D → Heap → Prop)
    (hk : ∀ d H', OwnR ((spansS l.l).flatMap spanC) (spansS l.l).length 3 H.next H' d → H.next ≤ H'.next → (∀ k, k < H.next → H'.get k = H.get k) → H'.low = H.low → R d H') :
    cK tab (.fn n_q117) [.v (.slice none 0 0), .fn (.func n_q172) [] [.cp [l.enc versionC]]] H R := by
  refine cK_fn o_q117 t_q117 (Nat.le_of_ble_eq_true rfl) (by decide) ?_
  rw [z_q117]
  simp
  refine RX_of rfl fun e he => ?_
  obtain ⟨E0, he, f2⟩ : ∃ E0 : Fr, Fits 13 E0 e ∧ E0 2 = .rf H.next 0 := ⟨_, he, by simp⟩
  simp
  refine timeline_spans_1_c l (q := H.next + 1) _ (CollI H e (spansS l.l)) _ ?_ ?_ ?_ ?_ ?_
  · intro o z c H' hi
    cases o with
    | none => exact hi.elim
    | some rest =>
      obtain ⟨pre, d, h1, h2, h3, h4, h5, h6, h7, h8, h9⟩ := hi
      refine ⟨pre, d, h1, h2.mono (by simp) fun k k1 k2 => ?_, ?_, ?_, by simp; omega, ?_, ?_, fun k hk => ?_, ?_⟩
      · rw [get_set, if_neg (by omega), get_add, if_neg (by omega)]
      · rw [get_set, if_neg (by omega), get_add, if_neg (by omega), h3]
      · rw [get_set, if_neg (by omega), get_add, if_neg (by omega), h4]
      · simp only [low_set, low_add]; split <;> omega
      · simp only [low_set, low_add, next_set, next_add]; split <;> omega
      · rw [get_set, if_neg (by omega), get_add, if_neg (by omega), h8 k hk]
      · rcases h9 with h9 | h9
        · exact .inl h9
        · refine .inr ?_
          simp only [low_set, low_add]; split <;> omega
  · intro o H' hi
    cases o with
    | none => exact hi.elim
    | some rest => obtain ⟨pre, d, h1, h2, h3, h4, h5, h6, h7, h8, h9⟩ := hi; exact h7
  · intro s x H' hi
    obtain ⟨pre, d, h1, h2, h3, h4, h5, h6, h7, h8, h9⟩ := hi
    refine cK_yl h4 he rfl (by decide) (by decide) (by decide) ?_
    have n0 : (H.next = H'.next) = False := by simp; omega
    have n1 : (H.next + 1 = H'.next) = False := by simp; omega
    have m0 : (H'.next = H.next) = False := by simp; omega
    have m1 : (H'.next = H.next + 1) = False := by simp; omega
    have hs3 : setAll [i64D 0, i64D 0, i64D 0] 0 (spanC s) = spanC s := rfl
    have htk : (spanC s).take 3 = spanC s := rfl
    simp [spanC_len, hs3]
    refine assignX_of (jump := .normal) (e := e) (ps := [7]) (a := F_q117.a4) (b := F_q117.b5) ?_ ?_
    · simp [n1, h4, h7, get_set, m1]
    simp [f2, n0, n1, m0, m1, h3, get_set, spanC_len, htk, hs3]
    have hpl : pre.length ≤ 100 := by
      have := congrArg List.length h1
      simp at this
      omega
    refine ownR_app (b := H.next + 2) (lo := H.next) (L := pre.flatMap spanC) (X := spanC s) (h2.mono (by simp) fun k k1 k2 => ?_) (spanC_len s) (flatMap_length spanC_len pre) (by omega) (by decide) (by simp) ?_ ?_ (by simp; omega) (by omega) _ fun d' H2 o2 n2 l2 l3 g2 => ?_
    · have e1 : (k = H'.next) = False := by simp; omega
      have e2 : (k = H'.next + 1) = False := by simp; omega
      have e3 : (k = H.next + 1) = False := by simp; omega
      simp [e1, e2, e3, get_set]
    · simp only [low_set, low_add]; split <;> split <;> omega
    · simp only [low_set, low_add, next_set, next_add]; split <;> split <;> omega
    · have p2 : (H.next = H'.next + 1) = False := by simp; omega
      have q0 : H2.get H.next = some (.cells [d]) := by
        rw [g2 _ (by omega)]
        simp [n0, n1, m0, m1, p2, h3, get_set]
      have q1 : H2.get (H.next + 1) = some (.loop true false .normal e [7] F_q117.a4 F_q117.b5) := by
        rw [g2 _ (by omega)]
        simp [n0, n1, m0, m1, h4, get_set]
      simp at n2
      have hd1 : cellsOf d' = some [d'] := by
        rcases o2 with ⟨h, -, -⟩ | ⟨-, r', rfl, -⟩
        · omega
        · rfl
      simp [q0, q1, hd1, get_set]
      refine ⟨pre ++ [s], d', by simp [h1], ?_, ?_, ?_, ?_, ?_, ?_, fun k hk => ?_, .inr ?_⟩
      · have := o2.mono (H' := (H2.set H.next (.cells [d'])).set (H.next + 1) (.loop false false .normal e [7] F_q117.a4 F_q117.b5)) (by simp) fun q q1 q2 => by rw [get_set, if_neg (by omega), get_set, if_neg (by omega)]
        simpa using this
      · rw [get_set, if_neg (by omega), get_set, if_pos ⟨rfl, by rw [q0]; rfl⟩]
      · rw [get_set, if_pos ⟨rfl, by rw [get_set, if_neg (by omega), q1]; rfl⟩]
      · simp; omega
      · simp only [low_set]; split <;> split <;> omega
      · simp only [low_set, next_set]; split <;> split <;> omega
      · rw [get_set, if_neg (by omega), get_set, if_neg (by omega), g2 k (by omega)]
        have e1 : (k = H'.next) = False := by simp; omega
        have e2 : (k = H'.next + 1) = False := by simp; omega
        have e3 : (k = H.next + 1) = False := by simp; omega
        simp [e1, e2, e3, get_set, h8 k hk]
      · simp only [low_set]; split <;> split <;> omega
  · intro o H' ho hi
    rcases ho with rfl | rfl
    · exact hi.elim
    · obtain ⟨pre, d, h1, h2, h3, h4, h5, h6, h7, h8, h9⟩ := hi
      have hp : spansS l.l = pre := by simpa using h1
      subst hp
      have fin : ∀ H2 : Heap, OwnR ((spansS l.l).flatMap spanC) (spansS l.l).length 3 (H.next + 2) H2 d → H.next + 2 ≤ H2.next → H2.low = H.next → (∀ k, k < H.next → H2.get k = H.get k) → finX false H d H2 R := fun H2 k1 k2 k3 k4 => by
        rcases k1 with ⟨a1, a2, rfl⟩ | ⟨a1, r, rfl, a2, a3, a4⟩
        · rw [finX_data (by omega) rfl]
          exact hk _ H (.inl ⟨a1, a2, rfl⟩) (Nat.le_refl _) (fun _ _ => rfl) rfl
        · rw [finX_new (by simp [D.under]; omega)]
          refine hk _ _ (.inr ⟨a1, r, rfl, by omega, by simpa using a3, by simpa using a4⟩) (by simp; omega) (fun k hk => by simp [k4 k hk]) ?_
          simp only [low_relow, k3]
          split <;> omega
      by_cases hbig : H.next + 2 ≤ H'.low
      · have hnil : spansS l.l = [] := by
          rcases h9 with h9 | h9
          · exact h9
          · omega
        rw [finX_data (by simpa using hbig) rfl]
        generalize hH1 : ((low0 H).add (.cells [.v (.slice none 0 0)])).add (.loop false false .normal e [7] F_q117.a4 F_q117.b5) = H1
        have q1 : H1.get H.next = some (.cells [.v (.slice none 0 0)]) := by rw [← hH1]; simp
        have q2 : H1.get (H.next + 1) = some (.loop false false .normal e [7] F_q117.a4 F_q117.b5) := by rw [← hH1]; simp
        have q3 : H1.low = H.next := by rw [← hH1]; simp
        refine ⟨false, .normal, e, [7], F_q117.a4, F_q117.b5, q2, ?_⟩
        simp [get_del, q1]
        rw [finX_data (by simp only [low_del, q3]; split <;> omega) rfl]
        exact hk _ H (.inl ⟨by rw [hnil]; rfl, by rw [hnil]; rfl, rfl⟩) (Nat.le_refl _) (fun _ _ => rfl) rfl
      · rw [finX_loud (by simp; omega)]
        refine ⟨false, .normal, e, [7], F_q117.a4, F_q117.b5, by simp [h4], ?_⟩
        simp [h3, get_del]
        refine fin _ (h2.mono (by simp) fun k k1 k2 => ?_) (by simp; omega) ?_ fun k hk => ?_
        · have : (k = H.next + 1) = False := by simp; omega
          simp [get_del, this]
        · simp only [low_del, low_relow, low_add, low_low0]
          split <;> split <;> omega
        · have : (k = H.next + 1) = False := by simp; omega
          simp [get_del, this, h8 k hk]
  · refine ⟨[], .v (.slice none 0 0), rfl, .inl ⟨rfl, rfl, rfl⟩, by simp, by simp, by simp, by simp, by simp, fun k hk => ?_, .inl rfl⟩
    have e1 : (k = H.next) = False := by simp; omega
    have e2 : (k = H.next + 1) = False := by simp; omega
    simp [e1, e2]
theorem Collect_c (l : Sl TVersion) (hl : (spansS l.l).length ≤ 100) (H : Heap) (hlow : H.low ≤ H.next) (R : D → Heap → Prop)
    (hk : ∀ d H', OwnR ((spansS l.l).flatMap spanC) (spansS l.l).length 3 H.next H' d → H.next ≤ H'.next → (∀ k, k < H.next → H'.get k = H.get k) → H'.low = H.low → R d H') :
    cK tab (.fn n_q123) [.fn (.func n_q172) [] [.cp [l.enc versionC]]] H R := by
  refine cK_fn o_q123 t_q123 (Nat.le_of_ble_eq_true rfl) (by decide) ?_
  rw [z_q123]
  simp
  refine AppendSeq_c l hl (low0 H) (by simp) _ fun d H' h1 h2 h3 h4 => ?_
  simp at h1 h2 h3 h4
  rcases h1 with ⟨a1, a2, rfl⟩ | ⟨a1, r, rfl, a2, a3, a4⟩
  · rw [finX_data (by omega) rfl]
    exact hk _ H (.inl ⟨a1, a2, rfl⟩) (Nat.le_refl _) (fun _ _ => rfl) rfl
  · rw [finX_new (by simp [D.under]; omega)]
    refine hk _ _ (.inr ⟨a1, r, rfl, by omega, by simpa using a3, by simpa using a4⟩) (by simp; omega) (fun k hk => by simp [h3 k hk]) ?_
    simp only [low_relow, h4]
    split <;> omega
theorem Spans_1_run (l : Sl TVersion) (s : TSpan) (hs : 0 ≤ s.at_ ∧ s.at_ < (l.l.length : Int)) (b : Nat) (H : Heap) (hb : H.get b = some (.cells [l.enc versionC])) (hlt : b < H.next) : Run tab (.fn n_q169) [.agg (spanC s), .rf b 0] H (bD (dropS l.l s)) H := by
  refine cK.run (cK_fn o_q169 t_q169 (Nat.le_of_ble_eq_true rfl) (by decide) ?_)
  have hne : (b = H.next) = False := by simp; omega
  obtain ⟨k, hk⟩ := Int.eq_ofNat_of_zero_le hs.1
  have hkl : k < l.l.length := by omega
  have ev := elem_at versionC_len l.rep l.l .i64 k l.l[k] (List.getElem?_eq_getElem hkl)
  have f1 : ∀ (x : TVersion) rest, evFadr 1 (.cp (versionC x ++ rest)) = some (.cp (bD x.drop :: (queryC x.query ++ rest))) := fun _ _ => rfl
  have hd : dropS l.l s = l.l[k].drop := by
    unfold dropS
    rw [hk]
    simp [List.getElem?_eq_getElem hkl]
  simp only [Sl.enc] at hb
  simp [-fadr_cp, spanC, hb, hne, hk, ev, f1, hd]
theorem DeleteFunc_Span_nil (g : FuncId) (caps : List D) (H : Heap) : Run tab (.fn n_q132) [.v (.slice none 0 0), .fn (.func g) [] caps] H (.v (.slice none 0 0)) H := by
  refine cK.run (cK_fn o_q132 t_q132 (Nat.le_of_ble_eq_true rfl) (by decide) ?_)
  have hI : ∀ H, Run tab (.fn n_q140) [.v (.slice none 0 0), .fn (.func g) [] caps] H (i64D (-1)) H := fun H => by
    refine cK.run (cK_fn o_q140 t_q140 (Nat.le_of_ble_eq_true rfl) (by decide) ?_)
    simp
    refine LR_rule (WR_mono _) (fun j E H' => H' = low0 H ∧ E 7 = i64D 0 ∧ E 8 = i64D 0) ?_ (j := 0) ⟨rfl, by simp, by simp⟩
    rintro j E H' ⟨rfl, e7, e8⟩
    simp [e7, e8]
  have hI' := fun H => (hI H).cK
  simp [hI']
theorem timeline_Spans_c (l : Sl TVersion) (H : Heap) : cK tab (.fn n_q168) [l.enc versionC] H fun d H' => (∃ rep, d = slD rep (spansK l.l).length ((spansK l.l).flatMap spanC)) ∧ H' = H := by
  refine cK_fn o_q168 t_q168 (Nat.le_of_ble_eq_true rfl) (by decide) ?_
  rw [z_q168]
  have hl8 : (spansS l.l).length ≤ 100 := by
    unfold spansS
    split
    · rename_i h
      simp only [rightVs, Bool.and_eq_true, decide_eq_true_eq] at h
      rw [spansFrom_length]
      omega
    · simp
  have hS := fun H => (timeline_spans_run l H).cK
  simp only [Sl.enc] at hS
  simp [Sl.enc, hS]
  refine Collect_c l hl8 _ (by simp) _ fun d H' h1 h2 h3 h4 => ?_
  simp at h2 h3 h4
  have hb : H'.get H.next = some (.cells [l.enc versionC]) := by
    rw [h3 _ (by omega)]
    simp [Sl.enc]
  rcases h1 with ⟨a1, a2, rfl⟩ | ⟨a1, r, rfl, a2, a3, a4⟩
  · have he : spansS l.l = [] := List.length_eq_zero_iff.1 a1
    have hk : spansK l.l = [] := by unfold spansK; rw [he]; rfl
    have hD := fun H => (DeleteFunc_Span_nil n_q169 [.rf (H.next) 0] H).cK
    have hD2 := fun b H => (DeleteFunc_Span_nil n_q169 [.rf b 0] H).cK
    simp [hD2, hk]
    rw [finX_data (by omega) rfl]
    exact ⟨⟨none, rfl⟩, rfl⟩
  · simp at a2
    have hok := (spansS_ok l.l).1
    refine DeleteFunc_Span_own spanC_len (dropS l.l) (spansS l.l) (Nat.le_trans hl8 (by decide)) none n_q169 [.rf H.next 0] H' a4 a3 (by omega) (fun x hx H2 k1 k2 => Spans_1_run l x ⟨(hok x hx).1, (hok x hx).2.1⟩ H.next H2 (by rw [k2 _ (by omega) (by omega), hb]) (by omega)) _ fun rest H2 hp => ?_
    have hlo : H.next ≤ H2.low := by
      rcases hp.low with h | h <;> omega
    show finX true H (.rs r 0 (spansK l.l).length none 3) H2 _
    rw [finX_frozen (d' := .sl (spansK l.l).length ((spansK l.l).flatMap spanC) none) hlo (frz_fresh (by omega) hp.row (by rw [flatMap_length spanC_len]) (under_flatMap 0 _ spanC_pure _))]
    exact ⟨⟨some none, rfl⟩, rfl⟩
end Go.Proofs.YtlnkifnkamojnaaGreat.Tz
