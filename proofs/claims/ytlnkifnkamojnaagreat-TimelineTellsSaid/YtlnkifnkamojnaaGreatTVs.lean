/-
The walks of spans: the iterator, what collects it, timeline.Spans, timeline.At. Conditions: none.
-/
import Derived.Test.YtlnkifnkamojnaaGreatTVr
namespace Go.Proofs.YtlnkifnkamojnaaGreat.Tz
open Go.Aug Go.Aug.Api
set_option maxRecDepth 100000
theorem timeline_spans_run (l : Sl TVersion) (H : Heap) : Run tab (.fn n_q171) [l.enc versionC] H (.fn (.func n_q172) [] [.cp [l.enc versionC]]) H := by
  refine cK.run (cK_fn o_q171 t_q171 (Nat.le_of_ble_eq_true rfl) (by decide) ?_)
  rw [z_q171]
  have hu : ∀ n, (slD l.rep l.l.length (l.l.flatMap versionC)).under n = true := fun n => under_zero n _ (by simp)
  simp [Sl.enc]
  rw [finX_frozen (d' := .fn (.func n_q172) [] [.cp [slD l.rep l.l.length (l.l.flatMap versionC)]]) (by simp) (by simp [frz_fn, frz_rf, frzL_cons, frzL_nil, frz_under0, hu, D.under])]
  simp
def SpansInv (l : Sl TVersion) (q : Nat) (I : Option (List TSpan) → Heap → Prop) (j : Nat) (E : Fr) (H' : Heap) : Prop :=
  ∃ pre suf, l.l = pre ++ suf ∧ j = suf.length ∧ E 0 = .yl q ∧ E 1 = .cp [l.enc versionC] ∧ E 9 = l.enc versionC ∧ E 10 = i64D l.l.length ∧ E 11 = i64D pre.length ∧ I (some (spansFrom (pre.length : Nat) suf)) H'
theorem timeline_spans_1_c (l : Sl TVersion) {q : Nat} (H : Heap) (I : Option (List TSpan) → Heap → Prop) (R : D → Heap → Prop)
    (hst : ∀ o z c H', I o H' → I o ((H'.add (.cells z)).set H'.next (.cells c))) (hok : ∀ o H', I o H' → H'.low ≤ H'.next)
    (hy : ∀ s x H', I (some (s :: x)) H' → cK tab (.yl q) [.agg (spanC s)] H' (fun d H'' => (d = bD true ∧ I (some x) H'') ∨ (d = bD false ∧ I none H'')))
    (hend : ∀ o H', (o = none ∨ o = some []) → I o H' → finX (tab.fz n_q172) H (.tup []) H' R) (h0 : I (some (spansS l.l)) (low0 H)) :
    cK tab (.fn n_q172) [.yl q, .cp [l.enc versionC]] H R := by
  refine cK_fn o_q172 t_q172 (Nat.le_of_ble_eq_true rfl) (by decide) ?_
  have hR := fun H => (timeline_Right_run l H).cK
  cases hr : rightVs l.l with
  | false =>
    have he : spansS l.l = [] := by unfold spansS; rw [hr]; rfl
    rw [he] at h0
    have hfin := hend _ _ (.inr rfl) h0
    rw [finX_data (by simp) rfl] at hfin
    simp [hR, hr]
    exact hfin
  | true =>
    have he : spansS l.l = spansFrom 0 l.l := by unfold spansS; rw [hr]; rfl
    rw [he] at h0
    simp [hR, hr]
    simp [Sl.enc]
    refine LR_rule (WR_mono _) (SpansInv l q I) ?_
      (j := l.l.length) ⟨[], l.l, rfl, rfl, by simp, by simp [Sl.enc], by simp [Sl.enc], by simp, by simp, by simpa using h0⟩
    rintro j E H' ⟨pre, suf, hl, rfl, e0, e1, e9, e10, e11, hi⟩
    simp only [Sl.enc] at e1 e9
    have hlow := hok _ _ hi
    cases suf with
    | nil =>
      have hp : l.l = pre := by simpa using hl
      have hlt' : ((pre.length : Int) < (l.l.length : Int)) = False := by simp [hp]
      simp [e10, e11, hlt']
      exact hend (some []) H' (.inr rfl) hi
    | cons v suf =>
      have hlt : pre.length < l.l.length := by rw [hl]; simp
      have hlt' : ((pre.length : Int) < (l.l.length : Int)) = True := by simp; omega
      have hw := wrap_more hlt l.ok
      have ev := elem_at versionC_len l.rep l.l .i64 pre.length v (by rw [hl]; simp)
      have hfull : ∀ z : List D, z.length = 7 → setAll z 0 (versionC v) = versionC v := fun z hz => setAll_full z _ (by rw [versionC_len, hz])
      have hi2 := fun z => hst _ z (versionC v) _ hi
      have rest : ∀ (nx : Int) d H'', nx = nextFrom suf → (d = bD true ∧ I (some (spansFrom ((pre.length : Int) + 1) suf)) H'') ∨ (d = bD false ∧ I none H'') → (d = bD true ∧ I (some (spansFrom ((pre.length : Int) + 1) suf)) H'') ∨ (d = bD false ∧ finX (tab.fz n_q172) H (.tup []) H'' R) := by
        rintro nx d H'' - (⟨h1, h2⟩ | ⟨h1, h2⟩)
        · exact .inl ⟨h1, h2⟩
        · exact .inr ⟨h1, hend _ _ (.inl rfl) h2⟩
      have hyy := fun z => (hy ⟨(pre.length : Nat), v.from_, nextFrom suf⟩ (spansFrom ((pre.length : Int) + 1) suf) _ (hi2 z)).mono (rest _ · · rfl)
      simp only [spanC] at hyy
      cases suf with
      | nil =>
        have hlt2 : ((pre.length : Int) + 1 < (l.l.length : Int)) = False := by rw [hl]; simp
        have hmx : nextFrom [] = 1099511627777 := rfl
        rw [hmx] at hyy
        simp [e0, e1, e9, e10, e11, hlt', hlt2, hw, ev, load_elem _ _ _ _ (versionC_len v), versionC_len, hfull, ver_take, ver_get0, ver_at0, get_set]
        refine (hyy _).mono ?_
        rintro d H2 (⟨rfl, hI⟩ | ⟨rfl, hf⟩)
        · simp [e0, e1, e9, e10, e11, hw]
          exact ⟨pre ++ [v], [], by simp [hl], rfl, by simp [e0], by simp [e1, Sl.enc], by simp [e9, Sl.enc], by simp [e10], by simp, by simpa using hI⟩
        · simp
          exact hf
      | cons w suf =>
        have hlt2 : ((pre.length : Int) + 1 < (l.l.length : Int)) = True := by rw [hl]; simp; omega
        have hmx : nextFrom (w :: suf) = w.from_ := rfl
        rw [hmx] at hyy
        have ew := elem_at versionC_len l.rep l.l .i64 (pre.length + 1) w (by rw [hl]; simp)
        have ec : (((pre.length + 1 : Nat)) : Int) = (pre.length : Int) + 1 := by omega
        rw [ec] at ew
        have f0 : ∀ (x : TVersion) rest, evFadr 0 (.cp (versionC x ++ rest)) = some (.cp (versionC x ++ rest)) := fun _ _ => rfl
        have l0 : ∀ H (x : TVersion) rest, evLoad H none (.cp (versionC x ++ rest)) = some (i64D x.from_) := fun _ _ _ => rfl
        have lm : ∀ H (d : D), evLoad H none (.cp [d]) = some d := fun _ _ => rfl
        simp [-fadr_cp, -load_cp, e0, e1, e9, e10, e11, hlt', hlt2, hw, ev, ew, f0, l0, lm, load_elem _ _ _ _ (versionC_len v), versionC_len, hfull, ver_take, ver_get0, ver_at0, get_set]
        refine (hyy _).mono ?_
        rintro d H2 (⟨rfl, hI⟩ | ⟨rfl, hf⟩)
        · simp [e0, e1, e9, e10, e11, hw]
          exact ⟨suf.length + 1, by simp, pre ++ [v], w :: suf, by simp [hl], rfl, by simp [e0], by simp [e1, Sl.enc], by simp [e9, Sl.enc], by simp [e10], by simp, by simpa using hI⟩
        · simp
          exact hf
end Go.Proofs.YtlnkifnkamojnaaGreat.Tz
