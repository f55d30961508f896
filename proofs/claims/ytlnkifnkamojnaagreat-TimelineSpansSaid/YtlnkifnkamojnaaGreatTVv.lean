/-
The walk of TimelineSpans. Conditions: none.
-/
import Derived.Test.YtlnkifnkamojnaaGreatTVu
import Derived.Test.YtlnkifnkamojnaaGreatTX1
namespace Go.Proofs.YtlnkifnkamojnaaGreat.Tz
open Go.Aug Go.Aug.Api
set_option maxRecDepth 100000
theorem Great15_run (l : Sl TVersion) (H : Heap) : SomeB tab n_q2 [l.enc versionC] H := by
  refine cK_fn o_q2 t_q2 (Nat.le_of_ble_eq_true rfl) (by decide) ?_
  simp [Sl.enc]
  refine LR_rule (WR_mono _) (fun j E H' => H' = low0 H ∧ ∃ pre suf, l.l = pre ++ suf ∧ j = suf.length ∧ E 0 = slD l.rep l.l.length (l.l.flatMap versionC) ∧ E 3 = i64D pre.length) ?_ (j := l.l.length) ⟨rfl, [], l.l, by simp⟩
  rintro j E H' ⟨rfl, pre, suf, hl, rfl, e0, e3⟩
  cases suf with
  | nil =>
    have hp : l.l = pre := by simpa using hl
    have hlt' : ((pre.length : Int) < (l.l.length : Int)) = False := by simp [hp]
    simp [e0, e3, hlt']
    omega
  | cons v suf =>
    have hlt : pre.length < l.l.length := by rw [hl]; simp
    have hlt' : ((pre.length : Int) < (l.l.length : Int)) = True := by simp; omega
    have hw := wrap_more hlt l.ok
    have ev := elem_at versionC_len l.rep l.l .i64 pre.length v (by rw [hl]; simp)
    obtain ⟨g, hg⟩ := (Great_run v.query (low0 H)).run
    have hG := hg.cK
    have f2 : ∀ (x : TVersion) rest, evFadr 2 (.cp (versionC x ++ rest)) = some (.cp (queryC x.query ++ rest)) := fun _ _ => rfl
    simp [e0, e3, hlt']
    refine gK_of (fun h1 => ?_) (fun h1 => ?_)
    · simp [-fadr_cp, h1, e0, e3, ev, f2, load_elem _ _ _ _ (queryC_len v.query), hG]
      cases g with
      | true => simp
      | false =>
        simp [e0, e3, hw]
        exact ⟨suf.length, by omega, pre ++ [v], suf, by simp [hl], rfl, by simp⟩
    · simp [h1, e0]
      omega
def isLawV (f : Nat) : List Nat → Bool
  | [] => false
  | n :: l => cond (Nat.beq f n) true (isLawV f l)
def lawFnsV : List Nat := [n_q2, n_q156, n_q148]
noncomputable def orcsW (f : Nat) : Option (List D → Heap → Option (D × Heap)) := cond (isLawV f lawFnsV) (some (pureOrc2 (runSpec tab f))) (orcs f)
noncomputable def tabW : Tab := ⟨findF rows, frozen, orcsW⟩
theorem orcsW_ok (f : Nat) (g : List D → Heap → Option (D × Heap)) (h : orcsW f = some g) : OrcOk Tryz.prog f g := by
  unfold orcsW at h
  cases hk : isLawV f lawFnsV with
  | true =>
    rw [hk] at h
    simp only [cond_true, Option.some.injEq] at h
    rw [← h]
    exact runSpec_orc tab_ok _
  | false => rw [hk] at h; exact orcs_ok f g h
theorem tabW_ok : TabOk Tryz.prog tabW := tab_ok' _ _ orcsW_ok
theorem tW {f : Nat} {fi : FI} (h : tab.fn f = some fi) : tabW.fn f = some fi := h
theorem oW_Great : tabW.orc n_q2 = some (pureOrc2 (runSpec tab n_q2)) := by kernel_rfl
theorem oW_Spans : tabW.orc n_q156 = some (pureOrc2 (runSpec tab n_q156)) := by kernel_rfl
theorem oW_At : tabW.orc n_q148 = some (pureOrc2 (runSpec tab n_q148)) := by kernel_rfl
theorem oW_head : tabW.orc n_q4 = some orcHead := by kernel_rfl
theorem oW_law : tabW.orc n_q3 = none := by kernel_rfl
theorem runW {T : Tab} {f : FuncId} {args : List D} {d : D} (ho : tabW.orc f = some (pureOrc2 (runSpec T f))) (hu : D.under.underAll 0 args = true) (hd : Run T (.fn f) args H0 d H0) (H : Heap) : Run tabW (.fn f) args H d H := cK.run (cK_pure ho hu hd ⟨rfl, rfl⟩)
theorem headW_run (H : Heap) : Run tabW (.fn n_q4) [] H (bD true) H := cK.run (cK_orc oW_head ⟨_, rfl, rfl, rfl⟩)
def SpanLaw (l : Sl TVersion) (t : Int) (rep : Option (Option Nat)) (H : Heap) (j : Nat) (E : Fr) (H' : Heap) : Prop :=
  ∃ pre suf, spansK l.l = pre ++ suf ∧ j = suf.length ∧ E 0 = l.enc versionC ∧ E 1 = i64D t ∧ E 5 = bD true ∧ E 6 = slD rep (spansK l.l).length ((spansK l.l).flatMap spanC) ∧ E 7 = i64D (lastIn t pre) ∧ E 8 = i64D pre.length ∧ H' = low0 H
theorem spans_walk (l : Sl TVersion) (t : Int) (H : Heap) : cK tabW (.fn n_q3) [l.enc versionC, i64D t] H fun d H' => d = bD true ∧ H' = H := by
  refine cK_fn oW_law (tW t_q3) (Nat.le_of_ble_eq_true rfl) (by decide) ?_
  have hh := fun H => (headW_run H).cK
  obtain ⟨g, hg⟩ := (Great15_run l H0).run
  have hG := fun H => (runW oW_Great (by simp) hg H).cK
  cases g with
  | true => simp [hh, hG]
  | false =>
  obtain ⟨d, H', hr, ⟨rep, rfl⟩, rfl⟩ := timeline_Spans_c l H0
  have hS := fun H => (runW oW_Spans (by simp) hr H).cK
  have hA := fun H => (runW oW_At (by simp) (timeline_At_run l t H0) H).cK
  have hK100 : (spansK l.l).length ≤ big := Nat.le_trans (List.length_filter_le _ _) (by
    unfold spansS
    split
    · rw [spansFrom_length]; exact l.ok
    · simp)
  have hok := (spansS_ok l.l).1
  have hpw := (spansS_ok l.l).2
  have hmem : ∀ s ∈ spansK l.l, s ∈ spansS l.l ∧ dropS l.l s = false := fun s hs => by
    have := List.mem_filter.1 hs
    exact ⟨this.1, by simpa using this.2⟩
  have hpk : (spansK l.l).Pairwise fun a b => a.to ≤ b.from_ := hpw.sublist List.filter_sublist
  simp [hh, hG, hS]
  refine LR_rule (WR_mono _) (SpanLaw l t rep H) ?_ (j := (spansK l.l).length) ⟨[], spansK l.l, rfl, rfl, by simp, by simp, by simp, by simp, by simp [lastIn], by simp, rfl⟩
  rintro j E H' ⟨pre, suf, hl, rfl, e0, e1, e5, e6, e7, e8, rfl⟩
  cases suf with
  | nil =>
    have hp : spansK l.l = pre := by simpa using hl
    have hlt' : ((pre.length : Int) < ((spansK l.l).length : Int)) = False := by simp [hp]
    obtain ⟨s1, s2⟩ := spans_law l.l t
    rw [hp] at s1 s2
    generalize hin : lastIn t pre = i at *
    generalize hat : atS l.l t = a at *
    have v1 : ∀ (x : TVersion) rest, evFadr 1 (.cp (versionC x ++ rest)) = some (.cp (bD x.drop :: (queryC x.query ++ rest))) := fun _ _ => rfl
    have lm : ∀ H (d : D) rest, evLoad H none (.cp (d :: rest)) = some d := fun _ _ _ => rfl
    by_cases i0 : i < 0
    · have i0' : (0 ≤ i) = False := by simp; omega
      by_cases a0 : a < 0
      · simp [e0, e1, e5, e6, e7, e8, hlt', hA, i0, i0', a0]
      · obtain ⟨h1, v, h2, h3⟩ : a < (l.l.length : Int) ∧ ∃ v, l.l[a.toNat]? = some v ∧ v.drop = true := by
          rcases s2 with s2 | s2 | s2
          · omega
          · omega
          · exact s2
        obtain ⟨k, rfl⟩ := Int.eq_ofNat_of_zero_le (by omega : 0 ≤ a)
        simp only [Int.toNat_natCast] at h2
        have ev := elem_at versionC_len l.rep l.l .i64 k v h2
        have h1' : ((k : Int) < (l.l.length : Int)) = True := by simp; omega
        simp only [Sl.enc] at e0 hA
        simp [-fadr_cp, -load_cp, e0, e1, e5, e6, e7, e8, hlt', hA, i0, i0', h1', ev, v1, lm, h3]
    · have i0' : (0 ≤ i) = True := by simp; omega
      have hai : a = i := by
        rcases s1 with s1 | s1
        · exact absurd s1 i0
        · exact s1
      subst hai
      simp [e0, e1, e5, e6, e7, e8, hlt', hA, i0, i0']
  | cons s suf =>
    have hlt : pre.length < (spansK l.l).length := by rw [hl]; simp
    have hlt' : ((pre.length : Int) < ((spansK l.l).length : Int)) = True := by simp; omega
    have hw := wrap_more hlt hK100
    have es := elem_at spanC_len rep (spansK l.l) .i64 pre.length s (by rw [hl]; simp)
    obtain ⟨hs1, hs2⟩ := hmem s (by rw [hl]; simp)
    obtain ⟨a1, a2, ⟨v, a3, a4⟩, a5, a6, a7⟩ := hok s hs1
    have hvd : v.drop = false := by
      unfold dropS at hs2
      rw [a3] at hs2
      exact hs2
    obtain ⟨k, hk⟩ := Int.eq_ofNat_of_zero_le a1
    rw [hk] at a3 a2
    simp only [Int.toNat_natCast] at a3
    have ev := elem_at versionC_len l.rep l.l .i64 k v a3
    have f0 : ∀ (x : TSpan) rest, evFadr 0 (.cp (spanC x ++ rest)) = some (.cp (i64D x.at_ :: i64D x.from_ :: i64D x.to :: rest)) := fun _ _ => rfl
    have f1 : ∀ (x : TSpan) rest, evFadr 1 (.cp (spanC x ++ rest)) = some (.cp (i64D x.from_ :: i64D x.to :: rest)) := fun _ _ => rfl
    have f2 : ∀ (x : TSpan) rest, evFadr 2 (.cp (spanC x ++ rest)) = some (.cp (i64D x.to :: rest)) := fun _ _ => rfl
    have v0 : ∀ (x : TVersion) rest, evFadr 0 (.cp (versionC x ++ rest)) = some (.cp (i64D x.from_ :: bD x.drop :: (queryC x.query ++ rest))) := fun _ _ => rfl
    have v1 : ∀ (x : TVersion) rest, evFadr 1 (.cp (versionC x ++ rest)) = some (.cp (bD x.drop :: (queryC x.query ++ rest))) := fun _ _ => rfl
    have lm : ∀ H (d : D) rest, evLoad H none (.cp (d :: rest)) = some d := fun _ _ _ => rfl
    have hk0 : ((k : Int) < 0) = False := by simp
    have hkl : ((l.l.length : Int) ≤ (k : Int)) = False := by simp; omega
    have hft : (s.to ≤ s.from_) = False := by simp; omega
    have hnext : ∀ (E' : Fr), E' 0 = l.enc versionC → E' 1 = i64D t → E' 5 = bD true → E' 6 = slD rep (spansK l.l).length ((spansK l.l).flatMap spanC) → E' 7 = i64D (if inS t s = true then s.at_ else lastIn t pre) → E' 8 = i64D ((pre.length : Int) + 1) → ∃ j', j' < suf.length + 1 ∧ SpanLaw l t rep H j' E' (low0 H) := fun E' g0 g1 g5 g6 g7 g8 =>
      ⟨suf.length, by omega, pre ++ [s], suf, by simp [hl], rfl, g0, g1, g5, g6, by rw [g7]; simp [lastIn], by rw [g8]; simp, rfl⟩
    simp only [Sl.enc] at e0
    rcases List.eq_nil_or_concat pre with rfl | ⟨pre', u, rfl⟩
    · simp at es hlt'
      have hw' : IntKind.i64.wrap 1 = 1 := by decide
      simp [-fadr_cp, -load_cp, e0, e1, e5, e6, e7, e8, hlt', es, f0, f1, f2, v0, v1, lm, hk, hk0, hkl, ev, hvd, hft, a4]
      have hin : inS t s = (decide (s.from_ ≤ t) && decide (t < s.to)) := rfl
      by_cases c1 : s.from_ ≤ t
      · by_cases c2 : t < s.to
        · simp [-fadr_cp, -load_cp, e0, e1, e5, e6, e7, e8, es, f0, f1, f2, lm, c1, c2, hw']
          exact hnext _ (by simp [e0, Sl.enc]) (by simp [e1]) (by simp [e5]) (by simp [e6]) (by simp [hin, c1, c2]) (by simp)
        · simp [-fadr_cp, -load_cp, e0, e1, e5, e6, e7, e8, es, f0, f1, f2, lm, c1, c2, hw']
          exact hnext _ (by simp [e0, Sl.enc]) (by simp [e1]) (by simp [e5]) (by simp [e6]) (by simp [e7, hin, c2]) (by simp)
      · simp [-fadr_cp, -load_cp, e0, e1, e5, e6, e7, e8, es, f0, f1, f2, lm, c1, hw']
        exact hnext _ (by simp [e0, Sl.enc]) (by simp [e1]) (by simp [e5]) (by simp [e6]) (by simp [e7, hin, c1]) (by simp)
    · rw [List.concat_eq_append] at *
      have eu := elem_at spanC_len rep (spansK l.l) .i64 pre'.length u (by rw [hl]; simp)
      have hus : u.to ≤ s.from_ := by
        rw [hl] at hpk
        have := (List.pairwise_append.1 hpk).2.2 u (by simp) s (by simp)
        exact this
      have hus' : (s.from_ < u.to) = False := by simp; omega
      have hpl : pre'.length < 9223372036854775807 := by
        simp at hlt
        have : (spansK l.l).length ≤ 9223372036854775807 := hK100
        omega
      have hw0 : IntKind.i64.wrap (pre'.length : Int) = (pre'.length : Int) := wrap64 (by omega) (by omega)
      have hpos : ((0 : Int) < (pre'.length : Int) + 1) = True := by simp
      simp at es hlt' hw
      have hw' := hw
      simp [-fadr_cp, -load_cp, e0, e1, e5, e6, e7, e8, hlt', es, f0, f1, f2, v0, v1, lm, hk, hk0, hkl, ev, hvd, hft, a4, hpos, hw0, eu, hus']
      have hin : inS t s = (decide (s.from_ ≤ t) && decide (t < s.to)) := rfl
      by_cases c1 : s.from_ ≤ t
      · by_cases c2 : t < s.to
        · simp [-fadr_cp, -load_cp, e0, e1, e5, e6, e7, e8, es, f0, f1, f2, lm, c1, c2, hw']
          exact hnext _ (by simp [e0, Sl.enc]) (by simp [e1]) (by simp [e5]) (by simp [e6]) (by simp [hin, c1, c2]) (by simp)
        · simp [-fadr_cp, -load_cp, e0, e1, e5, e6, e7, e8, es, f0, f1, f2, lm, c1, c2, hw']
          exact hnext _ (by simp [e0, Sl.enc]) (by simp [e1]) (by simp [e5]) (by simp [e6]) (by simp [e7, hin, c2]) (by simp)
      · simp [-fadr_cp, -load_cp, e0, e1, e5, e6, e7, e8, es, f0, f1, f2, lm, c1, hw']
        exact hnext _ (by simp [e0, Sl.enc]) (by simp [e1]) (by simp [e5]) (by simp [e6]) (by simp [e7, hin, c1]) (by simp)
end Go.Proofs.YtlnkifnkamojnaaGreat.Tz
