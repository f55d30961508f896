/-
The table of what a change takes over. Conditions: none.
-/
import Derived.Test.YtmfhanoibbmnlaaGreatDoorTXm
namespace Go.Proofs.YtmfhanoibbmnlaaGreatDoor.Tz
open Go.Aug Go.Aug.Api
set_option maxRecDepth 100000
noncomputable def orcsM (f : Nat) : Option (List D → Heap → Option (D × Heap)) := cond (Nat.beq f n_q58) (some (pureOrc2 (runSpec tabD n_q58))) (orcs f)
noncomputable def tabM : Tab := ⟨findF rows, frozen, orcsM⟩
theorem orcsM_ok (f : Nat) (g : List D → Heap → Option (D × Heap)) (h : orcsM f = some g) : OrcOk Tryz.prog f g := by
  unfold orcsM at h
  cases hk : Nat.beq f n_q58 with
  | true =>
    rw [hk] at h
    simp only [cond_true, Option.some.injEq] at h
    rw [← h, Nat.eq_of_beq_eq_true hk]
    exact runSpec_orc tabD_ok _
  | false =>
    rw [hk] at h
    exact orcs_ok f g h
theorem tabM_ok : TabOk Tryz.prog tabM := tab_ok' _ _ orcsM_ok
theorem oM_Class : tabM.orc n_q58 = some (pureOrc2 (runSpec tabD n_q58)) := by kernel_rfl
end Go.Proofs.YtmfhanoibbmnlaaGreatDoor.Tz

namespace Go.Proofs.YtmfhanoibbmnlaaGreatDoor.Tz.M
open Go.Aug Go.Aug.Api
set_option maxRecDepth 100000
noncomputable abbrev tab : Tab := tabM
theorem o_q61 : tab.orc n_q61 = none := by kernel_rfl
theorem o_q80 : tab.orc n_q80 = none := by kernel_rfl
theorem o_q88 : tab.orc n_q88 = none := by kernel_rfl
theorem o_q90 : tab.orc n_q90 = none := by kernel_rfl
theorem t_q61 : tab.fn n_q61 = some F_q61 := by kernel_rfl
theorem t_q80 : tab.fn n_q80 = some F_q80 := by kernel_rfl
theorem t_q88 : tab.fn n_q88 = some F_q88 := by kernel_rfl
theorem t_q90 : tab.fn n_q90 = some F_q90 := by kernel_rfl
theorem First_run (at_ : Int) (b : Sl (Sl TEvent)) (H : Heap) : Run tab (.fn n_q80) [.agg (runC at_ b)] H (i64D (firstM b.l)) H := by
  refine cK.run (cK_fn o_q80 t_q80 (Nat.le_of_ble_eq_true rfl) (by decide) ?_)
  obtain ⟨rep, l, hl⟩ := b
  cases l with
  | nil => simp [runC, Sl.enc, firstM]
  | cons r l =>
    have er := elem_at rowC_len rep (r :: l) .i64 0 r rfl
    have hpos : ((l.length : Int) + 1 = 0) = False := by simp; omega
    have lr : ∀ H (r : Sl TEvent) rest, evLoad H none (.cp (rowC r ++ rest)) = some (r.enc eventC) := fun _ _ _ => rfl
    have f0 : ∀ (e : TEvent) rest, evFadr 0 (.cp (eventC e ++ rest)) = some (.cp (eventC e ++ rest)) := fun _ _ => rfl
    have le : ∀ H (e : TEvent) rest, evLoad H none (.cp (eventC e ++ rest)) = some (i64D e.ts) := fun _ _ _ => rfl
    obtain ⟨rp, es, hes⟩ := r
    cases es with
    | nil =>
      simp at er
      simp [-load_cp, runC, Sl.enc, firstM, er, hpos, lr]
    | cons e es =>
      have ee := elem_at eventC_len rp (e :: es) .i64 0 e rfl
      have hpos2 : ((es.length : Int) + 1 = 0) = False := by simp; omega
      simp at er ee
      simp [-load_cp, -fadr_cp, runC, Sl.enc, firstM, er, hpos, lr, hpos2, ee, f0, le]
theorem Matches_1_1_run (q : TQuery) (m : TMatch) (b : Nat) (H : Heap) (hb : H.get b = some (.cells (queryC q))) (hlt : b < H.next) : Run tab (.fn n_q61) [.agg (matchC m), .rf b 0] H (bD (delM q.within m)) H := by
  refine cK.run (cK_fn o_q61 t_q61 (Nat.le_of_ble_eq_true rfl) (by decide) ?_)
  have hne : (b = H.next) = False := by simp; omega
  obtain ⟨done, ⟨rep, l, hl⟩⟩ := m
  have hF := fun H => (First_run 0 ⟨rep, l, hl⟩ H).cK
  simp only [runC, Sl.enc] at hF
  unfold delM
  cases l with
  | nil =>
    simp at hF
    simp [matchC, Sl.enc, hF, noneM]
  | cons r l =>
    have er := elem_at rowC_len rep (r :: l) .i64 0 r rfl
    have hpos : ((l.length : Int) + 1 = 0) = False := by simp; omega
    obtain ⟨rp, es, hes⟩ := r
    simp at hF er
    cases es with
    | nil =>
      simp [matchC, Sl.enc, hF, noneM, er, hpos]
      simp [rowC, Sl.enc]
    | cons e es =>
      have hpos2 : ((es.length : Int) + 1 = 0) = False := by simp; omega
      simp [matchC, Sl.enc, hF, noneM, er, hpos]
      simp [rowC, Sl.enc, hpos2]
      by_cases c1 : firstM (⟨rp, e :: es, hes⟩ :: l) < 0
      · simp [c1]
      · by_cases c2 : done < 0
        · simp [c1, c2]
        · simp [c1, c2, hb, hne, queryC]
theorem IndexFunc_Match_own {α : Type} {c : α → List D} (hc : ∀ x, (c x).length = 2) (p : α → Bool) (l : List α) (hl : l.length ≤ big) (cap : Option Nat) (g : FuncId) (caps : List D) (H : Heap) {r : Nat} (hg : H.get r = some (.cells (l.flatMap c)))
    (hp : ∀ x ∈ l, Run tab (.fn g) (.agg (c x) :: caps) (low0 H) (bD (p x)) (low0 H)) :
    Run tab (.fn n_q90) [.rs r 0 l.length cap 2, .fn (.func g) [] caps] H (i64D (idx p l)) H := by
  refine cK.run (cK_fn o_q90 t_q90 (Nat.le_of_ble_eq_true rfl) (by decide) ?_)
  simp
  refine LR_rule (WR_mono _) (fun j E H' => H' = low0 H ∧ ∃ pre suf, l = pre ++ suf ∧ j = suf.length ∧ E 0 = .rs r 0 l.length cap 2 ∧ E 1 = .fn (.func g) [] caps ∧ E 7 = i64D l.length ∧ E 8 = i64D pre.length ∧ (∀ x ∈ pre, p x = false)) ?_
    (j := l.length) ⟨rfl, [], l, by simp⟩
  rintro j E H' ⟨rfl, pre, suf, h0, rfl, e0, e1, e7, e8, hpre⟩
  cases suf with
  | nil =>
    simp at h0
    subst h0
    simp [e7, e8, idx_none hpre]
  | cons x suf =>
    have hlt : pre.length < l.length := by simp [h0]
    have hlt' : ((pre.length : Int) < (l.length : Int)) = True := by simp; omega
    have hL := own_load hc h0 (H := low0 H) hg
    have hX := (hp x (by rw [h0]; simp)).cK
    have hw := wrap_len hlt hl
    simp [-load_rf, e0, e1, e7, e8, hlt', hL, hX]
    refine gK_of (fun hx => ?_) (fun hx => ?_)
    · have hi := idx_some pre x suf hpre hx
      rw [← h0] at hi
      simp [e8, hi]
    · simp [e0, e1, e7, e8, hw]
      exact ⟨suf.length, by omega, pre ++ [x], suf, by simp [h0], rfl, by simp, fun y hy => by simp at hy; rcases hy with hy | rfl; exact hpre y hy; exact hx⟩
theorem DeleteFunc_Match_own {α : Type} {c : α → List D} (hc : ∀ x, (c x).length = 2) (p : α → Bool) (l : List α) (hl : l.length ≤ big) (cap : Option Nat) (g : FuncId) (caps : List D) (H : Heap) {r : Nat} (hg : H.get r = some (.cells (l.flatMap c))) (hr : r < H.next) (hlow : H.low ≤ H.next)
    (hp : ∀ x ∈ l, ∀ H', H.next ≤ H'.next → (∀ k, k < H.next → k ≠ r → H'.get k = H.get k) → Run tab (.fn g) (.agg (c x) :: caps) H' (bD (p x)) H') (R : D → Heap → Prop)
    (hk : ∀ rest H', RowPost H r ((l.filter fun x => !p x).flatMap c ++ rest) H' → R (.rs r 0 (l.filter fun x => !p x).length cap 2) H') :
    cK tab (.fn n_q88) [.rs r 0 l.length cap 2, .fn (.func g) [] caps] H R := by
  refine cK_fn o_q88 t_q88 (Nat.le_of_ble_eq_true rfl) (by decide) ?_
  have hI := (IndexFunc_Match_own hc p l hl cap g caps (low0 H) (by simpa using hg) fun x hx => hp x hx _ (by simp) (fun k h1 h2 => by simp)).cK
  rcases idx_cases p l with ⟨h1, h2, -⟩ | ⟨pre0, x0, suf0, h1, h2, h3, h4, -⟩
  · have hf : (l.filter fun x => !p x) = l := List.filter_eq_self.2 fun x hx => by simp [h2 x hx]
    rw [h1] at hI
    rw [hf] at hk
    simp [hI]
    exact RowIn.fin hr hlow (by simp [D.under, hr]) (RowIn.start hr hg) (fun H'' hh => hk [] H'' (by simpa using hh)) fun _ => rfl
  · rw [h4] at hI
    have hne : ((pre0.length : Int) = -1) = False := by simp
    have hlt0 : pre0.length < l.length := by rw [h1]; simp
    have hw0 := wrap_len hlt0 hl
    simp [hI, hne, hw0]
    refine LR_rule (WR_mono _) (DelInv c 2 p l cap r (.fn (.func g) [] caps) H) ?_
      (j := suf0.length) ⟨pre0, [x0], suf0, pre0.length + 1, by simp, by rw [h1]; simp; omega, by simp, rfl, ?_, fun x hx => by rw [h1]; simp [hx], by simp, by simp, by simp, by simp, by simpa [h1] using RowIn.start hr hg, fun _ => by simp⟩
    · rintro j E H' ⟨kept, junk, suf, m, hm0, hln, hj, rfl, hf, hm, e0, e1, e5, e6, hP, hsame⟩
      cases suf with
      | nil =>
        simp only [List.length_nil, Nat.add_zero] at hln
        have hjl : 0 < junk.length := List.length_pos_iff.2 hj
        have hkl : kept.length < l.length := by omega
        have hend : ((m : Int) < (l.length : Int)) = False := by simp only [eq_iff_iff, iff_false]; omega
        have hlo := own_lo (s := 2) r l.length cap kept.length hkl
        have hhi := own_hi (s := 2) r l.length cap kept.length (Nat.le_of_lt hkl)
        have hsub : l.length - kept.length = junk.length := by omega
        have hcl := own_clr hc (rows := kept ++ junk) rfl hj [.v (.int .i64 0), .v (.slice none 0 0)] rfl (cap.map (· - kept.length)) (H := H') (r := r) (by simpa using hP.row)
        rw [hsub] at hlo
        simp only [List.filter_nil, List.append_nil] at hf
        simp [e0, e5, e6, hend, hlo, hcl, hhi]
        refine RowIn.fin hr hlow (by simp [D.under, hr]) (hP.setRow _) (fun H'' hh => ?_) fun h => ?_
        · rw [hf] at hk
          exact hk _ H'' hh
        · have := hP.low
          rw [low_set] at h
          split at h <;> omega
      | cons x suf =>
        simp only [List.length_cons] at hln
        have hlt : m < l.length := by omega
        have hlt' : ((m : Int) < (l.length : Int)) = True := by simp only [eq_iff_iff, iff_true]; omega
        have hw := wrap_len hlt hl
        have hL := own_load hc (show kept ++ junk ++ x :: suf = (kept ++ junk) ++ x :: suf from rfl) (H := H') hP.row
        rw [List.length_append, ← hm0] at hL
        have hA := hP.add hr (.cells [.v (.int .i64 0), .v (.slice none 0 0)])
        have hB := hA.setNew hr H'.next hP.next (.cells (c x))
        have hn1 := hP.next
        have hn2 := hP.low'
        have hX := (hp x (hm x (by simp)) _ hB.next hB.old).cK
        have hst : ∀ (H1 : Heap), H1.get H'.next = some (.cells [.v (.int .i64 0), .v (.slice none 0 0)]) → evStore H1 2 (.rf H'.next 0) (.agg (c x)) = some (H1.set H'.next (.cells (c x))) := fun H1 h => by
          have hs := setAll_part (c x) [.v (.int .i64 0), .v (.slice none 0 0)] [] [] (by rw [hc]; rfl)
          simp only [List.append_nil, List.nil_append, List.length_nil] at hs
          simp only [evStore, h, cellsOf, hc, hs]
          rfl
        have hld : ∀ (H1 : Heap), H1.get H'.next = some (.cells (c x)) → evLoad H1 (some 2) (.rf H'.next 0) = some (.agg (c x)) := fun H1 h => by
          simp only [evLoad, cellsAt, h, pickL, List.drop_zero, hc, Nat.le_refl, if_true, List.take_of_length_le (show (c x).length ≤ 2 by rw [hc]; exact Nat.le_refl _)]
        have g1 : (H'.add (.cells [.v (.int .i64 0), .v (.slice none 0 0)])).get H'.next = some (.cells [.v (.int .i64 0), .v (.slice none 0 0)]) := by simp
        have g2 : ((H'.add (.cells [.v (.int .i64 0), .v (.slice none 0 0)])).set H'.next (.cells (c x))).get H'.next = some (.cells (c x)) := by rw [get_set, if_pos ⟨rfl, by rw [g1]; rfl⟩]
        have s1 := hst _ g1
        have l1 := hld _ g2
        generalize hHB : (H'.add (.cells [.v (.int .i64 0), .v (.slice none 0 0)])).set H'.next (.cells (c x)) = HB at *
        have hsB : H.next ≤ HB.low → HB.get r = H.get r := fun h => by
          have e : HB.get r = H'.get r := by
            rw [← hHB, get_set, if_neg (by omega), get_add, if_neg (by omega)]
          rw [e]
          refine hsame ?_
          rw [← hHB, low_set, low_add] at h
          split at h <;> omega
        simp [-load_rf, -store_rf, e0, e1, e5, e6, hlt', hL, s1, l1, hX]
        refine gK_of (fun hx => ?_) (fun hx => ?_)
        · have hkk : ((kept.length : Nat) : Int) < (l.length : Int) := by omega
          obtain ⟨y, junk', rfl⟩ : ∃ y t, junk = y :: t := by
            cases junk with
            | nil => exact absurd rfl hj
            | cons y t => exact ⟨y, t, rfl⟩
          have hS := own_store hc (show kept ++ y :: junk' ++ x :: suf = kept ++ y :: (junk' ++ x :: suf) by simp) x (H := HB) hB.row
          have hw2 := wrap_len (a := kept.length) (n := l.length) (by omega) hl
          simp at hx
          simp [-load_rf, -store_rf, e0, e1, e5, e6, hkk, hS, l1, hw, hw2]
          refine ⟨suf.length, by simp, kept ++ [x], junk' ++ [x], suf, m + 1, ?_, by omega, by simp, rfl, ?_, fun z hz => hm z (by simp [hz]), by simp [e0], by simp [e1], by simp, by simp, ?_, fun h => ?_⟩
          · simp at hm0 ⊢; omega
          · rw [hf]; simp [hx]
          · have := hB.setRow (((kept ++ x :: (junk' ++ x :: suf)).flatMap c))
            simpa using this
          · exfalso
            have := hB.low
            rw [low_set] at h
            split at h <;> omega
        · simp at hx
          simp [-load_rf, -store_rf, e0, e1, e5, e6, hw]
          refine ⟨suf.length, by simp, kept, junk ++ [x], suf, m + 1, ?_, by omega, by simp, rfl, ?_, fun z hz => hm z (by simp [hz]), by simp [e0], by simp [e1], by simp [e5], by simp, ?_, hsB⟩
          · simp at hm0 ⊢; omega
          · rw [hf]; simp [hx]
          · simpa using hB
    · rw [h1]
      have hf0 : (pre0.filter fun x => !p x) = pre0 := List.filter_eq_self.2 fun x hx => by simp [h2 x hx]
      simp [hf0, h3]
end Go.Proofs.YtmfhanoibbmnlaaGreatDoor.Tz.M

namespace Go.Proofs.YtmfhanoibbmnlaaGreatDoor.Tz.M
open Go.Aug Go.Aug.Api
set_option maxRecDepth 100000
theorem tM {f : Nat} {fi : FI} (h : Tz.tab.fn f = some fi) : tab.fn f = some fi := h
theorem o_q86 : tab.orc n_q86 = none := by kernel_rfl
theorem z_q86 : tab.fz n_q86 = false := by kernel_rfl
theorem o_q60 : tab.orc n_q60 = none := by kernel_rfl
theorem z_q60 : tab.fz n_q60 = true := by kernel_rfl
theorem o_q64 : tab.orc n_q64 = none := by kernel_rfl
theorem o_q59 : tab.orc n_q59 = none := by kernel_rfl
theorem clone_room {n : Nat} (h : n * 32 ≤ 140737488355328) : roomOk 32 n = true := by
  simp only [roomOk, Bool.and_eq_true, decide_eq_true_eq]
  omega
theorem Clone_Match_c (m : Sl TMatch) (hm : m.l.length * 32 ≤ 140737488355328) (H : Heap) (hlow : H.low ≤ H.next) (R : D → Heap → Prop) (hnil : m.rep = none → m.l = [] → R (.v (.slice none 0 0)) H)
    (hk : ∀ r cap H', H.next ≤ r → r < H'.next → H.next ≤ H'.next → H'.get r = some (.cells (m.l.flatMap matchC)) → (∀ k, k < H.next → H'.get k = H.get k) → H'.low = H.low → R (.rs r 0 m.l.length cap 2) H') :
    cK tab (.fn n_q86) [m.enc matchC] H R := by
  refine cK_fn o_q86 (tM t_q86) (Nat.le_of_ble_eq_true rfl) (by decide) ?_
  rw [z_q86]
  obtain ⟨rep, l, hl⟩ := m
  have own : ∀ (L : List D) (cap : Option Nat), L = l.flatMap matchC → oK (evApp ((low0 H).add (.cells [])) false 2 32 (.rs H.next 0 0 (some 0) 2) (.sl l.length L cap)) fun x => finX false H x.1 x.2 R := by
    rintro L cap rfl
    have hfl := flatMap_length matchC_len l
    by_cases h0 : l = []
    · subst h0
      refine ⟨(.rs H.next 0 0 (some 0) 2, (low0 H).add (.cells [])), by simp [evApp, firstD], ?_⟩
      show finX false H _ _ R
      rw [finX_new (by simp [D.under])]
      refine hk H.next (some 0) _ (Nat.le_refl _) (by simp) (by simp) (by simp) (fun k hk => ?_) ?_
      · have : (k = H.next) = False := by simp; omega
        simp [this]
      · simp; omega
    · have hpos : l.length ≠ 0 := fun e => h0 (List.length_eq_zero_iff.1 e)
      refine ⟨(.rs (H.next + 1) 0 l.length none 2, ((low0 H).add (.cells [])).add (.cells (l.flatMap matchC))), ?_, ?_⟩
      · simp [evApp, firstD, hfl, hpos, clone_room hm]
      · show finX false H _ _ R
        rw [finX_new (by simp [D.under])]
        refine hk (H.next + 1) none _ (by omega) (by simp) (by simp) (by simp) (fun k hk => ?_) ?_
        · have e1 : (k = H.next) = False := by simp; omega
          have e2 : (k = H.next + 1) = False := by simp; omega
          simp [e1, e2]
        · simp; omega
  cases rep with
  | none =>
    cases l with
    | nil =>
      simp [Sl.enc, eqAny]
      exact hnil rfl rfl
    | cons x l =>
      have := own _ none rfl
      simp [Sl.enc, slD, eqAny]
      simpa using this
  | some cap =>
    have := own _ cap rfl
    simp [Sl.enc, slD, eqAny]
    simpa using this
theorem DeleteFunc_nil (f : D) (hf : ∃ g caps, f = .fn (.func g) [] caps) (H : Heap) : Run tab (.fn n_q88) [.v (.slice none 0 0), f] H (.v (.slice none 0 0)) H := by
  obtain ⟨g, caps, rfl⟩ := hf
  refine cK.run (cK_fn o_q88 t_q88 (Nat.le_of_ble_eq_true rfl) (by decide) ?_)
  have hI : ∀ H, Run tab (.fn n_q90) [.v (.slice none 0 0), .fn (.func g) [] caps] H (i64D (-1)) H := fun H => by
    refine cK.run (cK_fn o_q90 t_q90 (Nat.le_of_ble_eq_true rfl) (by decide) ?_)
    simp
    refine LR_rule (WR_mono _) (fun j E H' => H' = low0 H ∧ E 7 = i64D 0 ∧ E 8 = i64D 0) ?_ (j := 0) ⟨rfl, by simp, by simp⟩
    rintro j E H' ⟨rfl, e7, e8⟩
    simp [e7, e8]
  have hI' := fun H => (hI H).cK
  simp [hI']
def keptS (w : Int) (l : List TMatch) : List TMatch := l.filter fun m => !delM w m
theorem Matches_1_c (q : TQuery) (b : Nat) (m : Sl TMatch) (hm : m.l.length * 32 ≤ 140737488355328) (H : Heap) (hb : H.get b = some (.cells (queryC q))) (hlt : b < H.next) :
    cK tab (.fn n_q60) [m.enc matchC, .rf b 0] H fun d H' => (∃ rep, d = slD rep (keptS q.within m.l).length ((keptS q.within m.l).flatMap matchC)) ∧ H' = H := by
  refine cK_fn o_q60 (tM t_q60) (Nat.le_of_ble_eq_true rfl) (by decide) ?_
  rw [z_q60]
  simp
  refine Clone_Match_c m hm (low0 H) (by simp) _ (fun h1 h2 => ?_) fun r cap H' r1 r2 r3 g1 g2 w => ?_
  · have hD := fun H => (DeleteFunc_nil (.fn (.func n_q61) [] [.rf b 0]) ⟨_, _, rfl⟩ H).cK
    simp [hD, h2, keptS]
    exact ⟨none, rfl⟩
  · simp at r1 r2 r3 g2 w
    refine DeleteFunc_Match_own matchC_len (delM q.within) m.l m.ok cap n_q61 [.rf b 0] H' g1 r2 (by omega) (fun x _ H2 h1 h2 => Matches_1_1_run q x b H2 ?_ (by omega)) _ fun rest H'' hp => ?_
    · rw [h2 b (by omega) (by omega), g2 b hlt, hb]
    · have hlo : H.next ≤ H''.low := by
        rcases hp.low with h | h <;> omega
      show finX true H (.rs r 0 (keptS q.within m.l).length cap 2) H'' _
      rw [finX_frozen (d' := .sl (keptS q.within m.l).length ((keptS q.within m.l).flatMap matchC) cap) hlo (frz_fresh r1 hp.row (by rw [flatMap_length matchC_len]) (under_flatMap 0 _ matchC_pure _))]
      exact ⟨⟨some cap, rfl⟩, rfl⟩
theorem diff_Matches_c (a b : TQuery) (m : Sl TMatch) (hm : m.l.length * 32 ≤ 140737488355328) (H : Heap) :
    cK tab (.fn n_q59) [.agg (queryC a), .agg (queryC b), m.enc matchC] H fun d H' => (∃ rep, d = .tup [slD rep (takenS (classS a b) b.within m.l).1.length ((takenS (classS a b) b.within m.l).1.flatMap matchC), bD (takenS (classS a b) b.within m.l).2]) ∧ H' = H := by
  refine cK_fn o_q59 (tM t_q59) (Nat.le_of_ble_eq_true rfl) (by decide) ?_
  have hq5 : ∀ q : TQuery, (queryC q).take 5 = queryC q := fun q => List.take_of_length_le (by rw [queryC_len]; exact Nat.le_refl _)
  have hC0 : ∀ (a b : TQuery) H, Run tab (.fn n_q58) [.agg (queryC a), .agg (queryC b)] H (i64D (classS a b)) H := fun a b H => cK.run (cK_pure oM_Class (by simp) (diff_Class_run a b H0) ⟨rfl, rfl⟩)
  have hC := fun a b H => (hC0 a b H).cK
  have hne : (H.next = H.next + 1) = False := by simp
  simp [hq5, hC]
  have hc1 : (1 : Int) = 2 ↔ False := by decide
  have hr : classS a b = 1 ∨ classS a b = 2 ∨ (classS a b ≠ 1 ∧ classS a b ≠ 2) := by omega
  have hM : ∀ H1 : Heap, H1.get (H.next + 1) = some (.cells (queryC b)) → H.next + 1 < H1.next → cK tab (.fn n_q64) [i64D (classS a b), m.enc matchC, .fn (.func n_q60) [] [.rf (H.next + 1) 0]] H1 fun d H' => (∃ rep, d = .tup [slD rep (takenS (classS a b) b.within m.l).1.length ((takenS (classS a b) b.within m.l).1.flatMap matchC), bD (takenS (classS a b) b.within m.l).2]) ∧ H' = H1 := fun H1 g1 g2 => by
    refine cK_fn o_q64 (tM t_q64) (Nat.le_of_ble_eq_true rfl) (by decide) ?_
    rcases hr with c | c | ⟨c1, c2⟩
    · simp [c, takenS]
      exact ⟨m.rep, rfl⟩
    · simp [c, takenS]
      refine (Matches_1_c b (H.next + 1) m hm (low0 H1) (by simpa using g1) (by simpa using g2)).mono ?_
      rintro d H' ⟨⟨rep, rfl⟩, rfl⟩
      simp [keptS]
      exact ⟨rep, rfl⟩
    · simp [c1, c2, takenS]
      exact ⟨none, rfl⟩
  refine (hM _ (by simp) (by simp)).mono ?_
  rintro d H' ⟨⟨rep, rfl⟩, rfl⟩
  simp
  exact ⟨rep, rfl⟩
end Go.Proofs.YtmfhanoibbmnlaaGreatDoor.Tz.M

namespace Go.Proofs.YtmfhanoibbmnlaaGreatDoor.Tz
open Go.Aug Go.Aug.Api
set_option maxRecDepth 100000
end Go.Proofs.YtmfhanoibbmnlaaGreatDoor.Tz

namespace Go.Aug.Api
open Go.Aug
theorem keep_step {α : Type} (keep : α → Bool) (R : α → α → Bool) (hR : ∀ x, R x x = true) (l pre suf : List α) (x : α) (hl : l = pre ++ x :: suf) (k : Nat) (h1 : (pre.filter keep).length ≤ k) (h2 : k ≤ (l.filter keep).length) :
    (∀ y, (l.filter keep)[k]? = some y → R x y = true → (((pre ++ [x]).filter keep).length ≤ k + 1 ∧ k + 1 ≤ (l.filter keep).length)) ∧ (∀ y, (l.filter keep)[k]? = some y → R x y = false → ((pre ++ [x]).filter keep).length ≤ k) := by
  have hf : l.filter keep = pre.filter keep ++ (x :: suf).filter keep := by rw [hl, List.filter_append]
  refine ⟨fun y hy _ => ⟨?_, ?_⟩, fun y hy hr => ?_⟩
  · rw [List.filter_append, List.length_append]
    have : ([x].filter keep).length ≤ 1 := by
      cases h : keep x <;> simp [h]
    omega
  · have := (List.getElem?_eq_some_iff.1 hy).1
    omega
  · rw [List.filter_append, List.length_append]
    cases hk : keep x with
    | false => simpa [hk] using h1
    | true =>
      have hne : (pre.filter keep).length ≠ k := fun e => by
        rw [hf, ← e, List.getElem?_append_right (Nat.le_refl _), Nat.sub_self] at hy
        simp [hk] at hy
        rw [← hy, hR x] at hr
        cases hr
      simp [hk]
      omega
end Go.Aug.Api
