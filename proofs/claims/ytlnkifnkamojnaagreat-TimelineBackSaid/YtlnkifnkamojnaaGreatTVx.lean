/-
The walk of TimelineBack. Conditions: none.
-/
import Derived.Test.YtlnkifnkamojnaaGreatTVv
import Derived.Test.YtlnkifnkamojnaaGreatTVw
import Derived.Test.YtlnkifnkamojnaaGreatTWA
namespace Go.Proofs.YtlnkifnkamojnaaGreat.Tz
open Go.Aug Go.Aug.Api
set_option maxRecDepth 100000
theorem Same15_run (x y : Sl TVersion) (h : x.l = y.l) (H : Heap) : Run tab (.fn n_q41) [x.enc versionC, y.enc versionC] H (bD true) H := by
  refine cK.run (cK_fn o_q41 t_q41 (Nat.le_of_ble_eq_true rfl) (by decide) ?_)
  have hlen : (x.l.length : Int) = (y.l.length : Int) := by rw [h]
  simp [Sl.enc, hlen]
  refine LR_rule (WR_mono _) (fun j E H' => H' = low0 H ∧ ∃ pre suf, x.l = pre ++ suf ∧ j = suf.length ∧ E 0 = x.enc versionC ∧ E 1 = y.enc versionC ∧ E 5 = i64D pre.length) ?_ (j := x.l.length) ⟨rfl, [], x.l, by simp [Sl.enc]⟩
  rintro j E H' ⟨rfl, pre, suf, hl, rfl, e0, e1, e5⟩
  simp only [Sl.enc] at e0 e1
  cases suf with
  | nil =>
    have hp : x.l = pre := by simpa using hl
    have hlt' : ((pre.length : Int) < (x.l.length : Int)) = False := by simp [hp]
    simp [e0, e1, e5, hlt']
  | cons v suf =>
    have hlt : pre.length < x.l.length := by rw [hl]; simp
    have hlt' : ((pre.length : Int) < (x.l.length : Int)) = True := by simp; omega
    have hw := wrap_more hlt x.ok
    have ev := elem_at versionC_len x.rep x.l .i64 pre.length v (by rw [hl]; simp)
    have ew := elem_at versionC_len y.rep y.l .i64 pre.length v (by rw [← h, hl]; simp)
    have hS := fun H => (Same_run v.query v.query rfl rfl (samePs_refl _) rfl rfl rfl H).cK
    have f2 : ∀ (x : TVersion) rest, evFadr 2 (.cp (versionC x ++ rest)) = some (.cp (queryC x.query ++ rest)) := fun _ _ => rfl
    have f1 : ∀ (x : TVersion) rest, evFadr 1 (.cp (versionC x ++ rest)) = some (.cp (bD x.drop :: (queryC x.query ++ rest))) := fun _ _ => rfl
    have f0 : ∀ (x : TVersion) rest, evFadr 0 (.cp (versionC x ++ rest)) = some (.cp (i64D x.from_ :: bD x.drop :: (queryC x.query ++ rest))) := fun _ _ => rfl
    have hbb : eqAny .bool (bD v.drop) (bD v.drop) = some true := by cases v.drop <;> rfl
    simp [-fadr_cp, e0, e1, e5, hlt', ev, ew, f0, f1, f2, load_elem _ _ _ _ (queryC_len v.query), hS, hw, hbb]
    exact ⟨suf.length, by omega, pre ++ [v], suf, by simp [hl], rfl, by simp [Sl.enc]⟩
def lawFnsB : List Nat := [n_q2, n_q0, n_q158, n_q154, n_q160, n_q153, n_q41]
noncomputable def orcsB (f : Nat) : Option (List D → Heap → Option (D × Heap)) := cond (isLawV f lawFnsB) (some (pureOrc2 (runSpec tab f))) (orcs f)
noncomputable def tabB : Tab := ⟨findF rows, frozen, orcsB⟩
theorem orcsB_ok (f : Nat) (g : List D → Heap → Option (D × Heap)) (h : orcsB f = some g) : OrcOk Tryz.prog f g := by
  unfold orcsB at h
  cases hk : isLawV f lawFnsB with
  | true =>
    rw [hk] at h
    simp only [cond_true, Option.some.injEq] at h
    rw [← h]
    exact runSpec_orc tab_ok _
  | false => rw [hk] at h; exact orcs_ok f g h
theorem tabB_ok : TabOk Tryz.prog tabB := tab_ok' _ _ orcsB_ok
theorem tB {f : Nat} {fi : FI} (h : tab.fn f = some fi) : tabB.fn f = some fi := h
theorem oB_Great : tabB.orc n_q2 = some (pureOrc2 (runSpec tab n_q2)) := by kernel_rfl
theorem oB_GreatQ : tabB.orc n_q0 = some (pureOrc2 (runSpec tab n_q0)) := by kernel_rfl
theorem oB_Put : tabB.orc n_q158 = some (pureOrc2 (runSpec tab n_q158)) := by kernel_rfl
theorem oB_Back : tabB.orc n_q154 = some (pureOrc2 (runSpec tab n_q154)) := by kernel_rfl
theorem oB_Right : tabB.orc n_q160 = some (pureOrc2 (runSpec tab n_q160)) := by kernel_rfl
theorem oB_At : tabB.orc n_q153 = some (pureOrc2 (runSpec tab n_q153)) := by kernel_rfl
theorem oB_Same : tabB.orc n_q41 = some (pureOrc2 (runSpec tab n_q41)) := by kernel_rfl
theorem oB_head : tabB.orc n_q4 = some orcHead := by kernel_rfl
theorem oB_law : tabB.orc n_q3 = none := by kernel_rfl
theorem runB {T : Tab} {f : FuncId} {args : List D} {d : D} (ho : tabB.orc f = some (pureOrc2 (runSpec T f))) (hu : D.under.underAll 0 args = true) (hd : Run T (.fn f) args H0 d H0) (H : Heap) : Run tabB (.fn f) args H d H := cK.run (cK_pure ho hu hd ⟨rfl, rfl⟩)
theorem headB_run (H : Heap) : Run tabB (.fn n_q4) [] H (bD true) H := cK.run (cK_orc oB_head ⟨_, rfl, rfl, rfl⟩)
theorem back_walk (l : Sl TVersion) (v : TVersion) (H : Heap) : cK tabB (.fn n_q3) [l.enc versionC, .agg (versionC v)] H fun d H' => d = bD true ∧ H' = H := by
  refine cK_fn oB_law (tB t_q3) (Nat.le_of_ble_eq_true rfl) (by decide) ?_
  have hh := fun H => (headB_run H).cK
  obtain ⟨g, hg⟩ := (Great15_run l H0).run
  have hG := fun H => (runB oB_Great (by simp) hg H).cK
  obtain ⟨g2, hg2⟩ := (Great_run v.query H0).run
  have hvp : D.under.underAll 0 (versionC v) = true := versionC_pure v
  have hqp : D.under.underAll 0 (queryC v.query) = true := queryC_pure v.query
  have hG2 := fun H => (runB oB_GreatQ (by simp [under_cons, under_agg, hqp, under_nil]) hg2 H).cK
  have hP := fun H => (runB oB_Put (by simp [under_cons, under_agg, hvp, under_nil, Sl.enc]) (timeline_Put_run l v H0) H).cK
  have hS := fun H => (runB oB_Same (by simp [Sl.enc]) (Same15_run l l rfl H0) H).cK
  cases g with
  | true => simp [hh, hG]
  | false =>
  cases g2 with
  | true => simp [hh, hG, hG2, versionC_len, ver_take, ver_drop2, query_take]
  | false =>
  unfold putD at hP
  cases c1 : rightVs l.l && oneV v with
  | false =>
    simp only [c1, if_true] at hP
    simp [hh, hG, hG2, hP, versionC_len, ver_take, ver_drop2, query_take]
  | true =>
  simp only [c1, Bool.true_eq_false, if_false] at hP
  by_cases c2 : (v.drop && lastD (leftV v l.l)) = true
  · simp only [if_pos c2] at hP
    simp [hh, hG, hG2, hP, hS, versionC_len, ver_take, ver_drop2, query_take]
  by_cases c3 : (leftV v l.l).length = 8
  · simp only [if_neg c2, if_pos c3] at hP
    simp [hh, hG, hG2, hP, hS, versionC_len, ver_take, ver_drop2, query_take]
  simp only [if_neg c2, if_neg c3] at hP
  simp only [Bool.and_eq_true] at c1
  have hright := right_put c1.1 c1.2 (by simpa using c2) c3
  have hvf : 0 ≤ v.from_ ∧ v.from_ ≤ maxNum := by
    have := c1.2
    simp only [oneV, Bool.and_eq_true, decide_eq_true_eq] at this
    exact this.1
  have hK8 : (leftV v l.l).length ≤ 8 := by
    have := c1.1
    simp only [rightVs, Bool.and_eq_true, decide_eq_true_eq] at this
    exact Nat.le_trans (List.length_filter_le _ _) this.2
  have hbig : 9 ≤ big := by decide
  obtain ⟨nx, hnl, hnr⟩ : ∃ nx : Sl TVersion, nx.l = leftV v l.l ++ [v] ∧ nx.rep = some none := ⟨⟨some none, leftV v l.l ++ [v], by simp; omega⟩, rfl, rfl⟩
  have hnlen : nx.l.length = (leftV v l.l).length + 1 := by rw [hnl]; simp
  have henc : D.sl ((leftV v l.l).length + 1) ((leftV v l.l ++ [v]).flatMap versionC) none = nx.enc versionC := by
    unfold Sl.enc
    rw [hnr, hnl]
    simp [slD]
  rw [henc] at hP
  have hR := fun H => (runB oB_Right (by simp [Sl.enc]) (timeline_Right_run nx H0) H).cK
  have hA := fun t H => (runB oB_At (by simp [Sl.enc]) (timeline_At_run nx t H0) H).cK
  have hBk := fun H => (runB oB_Back (by simp [Sl.enc]) (timeline_Back_run nx H0) H).cK
  have hSn := fun y (hy : nx.l = y.l) H => (runB oB_Same (by simp [Sl.enc]) (Same15_run nx y hy H0) H).cK
  have hm : maxNum = 1099511627776 := rfl
  have hA1 : atS nx.l v.from_ = ((leftV v l.l).length : Nat) := by rw [hnl]; exact at_last hright _ (Int.le_refl _) hvf.2
  have hA2 : atS nx.l 1099511627776 = ((leftV v l.l).length : Nat) := by rw [hnl]; exact at_last hright _ (by rw [← hm]; exact hvf.2) (by decide)
  have hlenE : evLen false (nx.enc versionC) = some (i64D ((leftV v l.l).length + 1)) := by simp [Sl.enc, hnlen]
  have w1 : IntKind.i64.wrap ((leftV v l.l).length : Int) = ((leftV v l.l).length : Nat) := wrap64 (by omega) (by omega)
  have hin : ∀ w, l.l.getLast? = some w → ∃ k, l.l.length = k + 1 ∧ l.l[k]? = some w := fun w hw => by
    cases hn : l.l.length with
    | zero =>
      have : l.l = [] := List.length_eq_zero_iff.1 hn
      rw [this] at hw
      simp at hw
    | succ k => exact ⟨k, rfl, by rw [List.getLast?_eq_getElem?, hn] at hw; simpa using hw⟩
  rw [← hnl] at hright
  obtain ⟨y, e, hbk, hy⟩ : ∃ (y : Sl TVersion) (e : Int), backD nx = .tup [y.enc versionC, i64D e] ∧ (leftV v l.l ≠ [] → e = 0 ∧ y.l = leftV v l.l) := by
    unfold backD
    rw [if_neg (by rw [hright]; decide)]
    by_cases h2 : nx.l.length < 2
    · rw [if_pos h2]
      refine ⟨nx, 12, rfl, fun h => absurd (List.length_eq_zero_iff.1 (by omega)) h⟩
    · rw [if_neg h2]
      have hdl : nx.l.dropLast = leftV v l.l := by rw [hnl]; simp
      refine ⟨⟨some none, leftV v l.l, Nat.le_trans hK8 (by decide)⟩, 0, ?_, fun _ => ⟨rfl, rfl⟩⟩
      simp only [Sl.enc, hdl, slD, hnlen, Nat.add_sub_cancel]
  simp only [hbk] at hBk
  have hSy := fun (h : y.l = l.l) H => (runB oB_Same (by simp [Sl.enc]) (Same15_run y l h H0) H).cK
  simp [hh, hG, hG2, hP, hR, hright, hA, hA1, hA2, hlenE, w1, versionC_len, ver_take, ver_drop2, query_take, ver_get0, ver_at0]
  simp [hBk]
  cases hgl : l.l.getLast? with
  | none =>
    have : l.l = [] := List.getLast?_eq_none_iff.1 hgl
    simp [Sl.enc, this]
  | some w =>
    obtain ⟨k, hk, hkw⟩ := hin w hgl
    have hk0 : ((k : Int) + 1 = 0) = False := by simp; omega
    have wk : IntKind.i64.wrap (k : Int) = k := wrap64 (by omega) (by
      have := c1.1
      simp only [rightVs, Bool.and_eq_true, decide_eq_true_eq] at this
      have := this.2
      omega)
    have ev := elem_at versionC_len l.rep l.l .i64 k w hkw
    have hlenL : evLen false (l.enc versionC) = some (i64D ((k : Int) + 1)) := by simp [Sl.enc, hk]
    have f0 : ∀ (x : TVersion) rest, evFadr 0 (.cp (versionC x ++ rest)) = some (.cp (i64D x.from_ :: bD x.drop :: (queryC x.query ++ rest))) := fun _ _ => rfl
    have lm : ∀ H (d : D) rest, evLoad H none (.cp (d :: rest)) = some d := fun _ _ _ => rfl
    have ev' : evIadr 7 (l.enc versionC) (i64D k) = _ := ev
    simp [-fadr_cp, -load_cp, hlenL, hk0, wk, ev', f0, lm, ver_get0, ver_at0, versionC_len]
    refine gK_of (fun h1 => ?_) (fun h1 => ?_)
    · simp
    · simp at h1
      have hall := left_all c1.1 hgl (by omega)
      obtain ⟨rfl, hyl⟩ := hy (by rw [hall]; intro e; rw [e] at hk; simp at hk)
      have hSy' := hSy (by rw [hyl, hall])
      simp [hSy']
end Go.Proofs.YtlnkifnkamojnaaGreat.Tz
