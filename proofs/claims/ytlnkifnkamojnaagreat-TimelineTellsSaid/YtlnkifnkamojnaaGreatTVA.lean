/-
The walk of TimelineTells. Conditions: none.
-/
import Derived.Test.YtlnkifnkamojnaaGreatTVx
import Derived.Test.YtlnkifnkamojnaaGreatTVz
namespace Go.Proofs.YtlnkifnkamojnaaGreat.Tz
open Go.Aug Go.Aug.Api
set_option maxRecDepth 100000
def lawFnsT : List Nat := [n_q2, n_q0, n_q165, n_q43, n_q161, n_q42, n_q168, n_q47, n_q167, n_q44, n_q160, n_q41, n_q46]
noncomputable def orcsT (f : Nat) : Option (List D → Heap → Option (D × Heap)) := cond (isLawV f lawFnsT) (some (pureOrc2 (runSpec tab f))) (orcs f)
noncomputable def tabT : Tab := ⟨findF rows, frozen, orcsT⟩
theorem orcsT_ok (f : Nat) (g : List D → Heap → Option (D × Heap)) (h : orcsT f = some g) : OrcOk Tryz.prog f g := by
  unfold orcsT at h
  cases hk : isLawV f lawFnsT with
  | true =>
    rw [hk] at h
    simp only [cond_true, Option.some.injEq] at h
    rw [← h]
    exact runSpec_orc tab_ok _
  | false => rw [hk] at h; exact orcs_ok f g h
theorem tabT_ok : TabOk Tryz.prog tabT := tab_ok' _ _ orcsT_ok
theorem tT {f : Nat} {fi : FI} (h : tab.fn f = some fi) : tabT.fn f = some fi := h
theorem oT_Great : tabT.orc n_q2 = some (pureOrc2 (runSpec tab n_q2)) := by kernel_rfl
theorem oT_GreatQ : tabT.orc n_q0 = some (pureOrc2 (runSpec tab n_q0)) := by kernel_rfl
theorem oT_Put : tabT.orc n_q165 = some (pureOrc2 (runSpec tab n_q165)) := by kernel_rfl
theorem oT_Put15 : tabT.orc n_q43 = some (pureOrc2 (runSpec tab n_q43)) := by kernel_rfl
theorem oT_Back : tabT.orc n_q161 = some (pureOrc2 (runSpec tab n_q161)) := by kernel_rfl
theorem oT_Back15 : tabT.orc n_q42 = some (pureOrc2 (runSpec tab n_q42)) := by kernel_rfl
theorem oT_Spans : tabT.orc n_q168 = some (pureOrc2 (runSpec tab n_q168)) := by kernel_rfl
theorem oT_Spans15 : tabT.orc n_q47 = some (pureOrc2 (runSpec tab n_q47)) := by kernel_rfl
theorem oT_Right : tabT.orc n_q167 = some (pureOrc2 (runSpec tab n_q167)) := by kernel_rfl
theorem oT_Right15 : tabT.orc n_q44 = some (pureOrc2 (runSpec tab n_q44)) := by kernel_rfl
theorem oT_At : tabT.orc n_q160 = some (pureOrc2 (runSpec tab n_q160)) := by kernel_rfl
theorem oT_At15 : tabT.orc n_q41 = some (pureOrc2 (runSpec tab n_q41)) := by kernel_rfl
theorem oT_Same : tabT.orc n_q46 = some (pureOrc2 (runSpec tab n_q46)) := by kernel_rfl
theorem oT_head : tabT.orc n_q4 = some orcHead := by kernel_rfl
theorem oT_law : tabT.orc n_q3 = none := by kernel_rfl
theorem runT {T : Tab} {f : FuncId} {args : List D} {d : D} (ho : tabT.orc f = some (pureOrc2 (runSpec T f))) (hu : D.under.underAll 0 args = true) (hd : Run T (.fn f) args H0 d H0) (H : Heap) : Run tabT (.fn f) args H d H := cK.run (cK_pure ho hu hd ⟨rfl, rfl⟩)
theorem headT_run (H : Heap) : Run tabT (.fn n_q4) [] H (bD true) H := cK.run (cK_orc oT_head ⟨_, rfl, rfl, rfl⟩)
theorem putD_form (l : Sl TVersion) (v : TVersion) : ∃ (y : Sl TVersion) (e : Int), putD l v = .tup [y.enc versionC, i64D e] := by
  unfold putD
  split
  · exact ⟨.nil, 1, rfl⟩
  · split
    · exact ⟨l, 12, rfl⟩
    · split
      · exact ⟨l, 2, rfl⟩
      · rename_i h1 h2 h3
        have hK : (leftV v l.l).length ≤ l.l.length := List.length_filter_le _ _
        have h8 : l.l.length ≤ 8 := by
          simp only [Bool.not_eq_false, Bool.and_eq_true, rightVs, decide_eq_true_eq] at h1
          exact h1.1.2
        have h9 : 9 ≤ big := by decide
        refine ⟨⟨some none, leftV v l.l ++ [v], by rw [List.length_append]; exact Nat.le_trans (by simp; omega) h9⟩, 0, ?_⟩
        simp [Sl.enc, slD]
theorem backD_form (l : Sl TVersion) : ∃ (y : Sl TVersion) (e : Int), backD l = .tup [y.enc versionC, i64D e] := by
  unfold backD
  split
  · exact ⟨.nil, 1, rfl⟩
  · split
    · exact ⟨l, 12, rfl⟩
    · refine ⟨⟨some none, l.l.dropLast, Nat.le_trans (by simp) l.ok⟩, 0, ?_⟩
      simp [Sl.enc, slD]
def TellInv (l : Sl TVersion) (v : TVersion) (t : Int) (p b : Sl TVersion) (pe be : Int) (rep1 rep2 : Option (Option Nat)) (H : Heap) (j : Nat) (E : Fr) (H' : Heap) : Prop :=
  ∃ pre suf, spansK l.l = pre ++ suf ∧ j = suf.length ∧ E 0 = l.enc versionC ∧ E 2 = i64D t ∧ E 7 = bD true ∧ E 8 = p.enc versionC ∧ E 9 = i64D pe ∧ E 10 = p.enc versionC ∧ E 11 = i64D pe ∧ E 12 = b.enc versionC ∧ E 13 = i64D be ∧ E 14 = b.enc versionC ∧ E 15 = i64D be ∧
    E 16 = slD rep1 (spansK l.l).length ((spansK l.l).flatMap spanC) ∧ E 17 = slD rep2 (spansK l.l).length ((spansK l.l).flatMap spanC) ∧ E 18 = i64D pre.length ∧ H' = (low0 H).add (.cells (versionC v))
theorem tells_walk (l : Sl TVersion) (v : TVersion) (t : Int) (H : Heap) : cK tabT (.fn n_q3) [l.enc versionC, .agg (versionC v), i64D t] H fun d H' => d = bD true ∧ H' = H := by
  refine cK_fn oT_law (tT t_q3) (Nat.le_of_ble_eq_true rfl) (by decide) ?_
  have hh := fun H => (headT_run H).cK
  obtain ⟨g, hg⟩ := (Great15_run l H0).run
  have hG := fun H => (runT oT_Great (by simp) hg H).cK
  obtain ⟨g2, hg2⟩ := (Great_run v.query H0).run
  have hvp : D.under.underAll 0 (versionC v) = true := versionC_pure v
  have hqp : D.under.underAll 0 (queryC v.query) = true := queryC_pure v.query
  have hG2 := fun H => (runT oT_GreatQ (by simp [under_cons, under_agg, hqp, under_nil]) hg2 H).cK
  cases g with
  | true => simp [hh, hG]
  | false =>
  cases g2 with
  | true => simp [hh, hG, hG2, versionC_len, ver_take, ver_drop2, query_take]
  | false =>
  have hP := fun H => (runT oT_Put (by simp [under_cons, under_agg, hvp, under_nil, Sl.enc]) (timeline_Put_run l v H0) H).cK
  have hP15 := fun H => (runT oT_Put15 (by simp [under_cons, under_agg, hvp, under_nil, Sl.enc]) (Put15_run l v H0) H).cK
  have hB := fun H => (runT oT_Back (by simp [Sl.enc]) (timeline_Back_run l H0) H).cK
  have hB15 := fun H => (runT oT_Back15 (by simp [Sl.enc]) (Back15_run l H0) H).cK
  have hR := fun H => (runT oT_Right (by simp [Sl.enc]) (timeline_Right_run l H0) H).cK
  have hR15 := fun H => (runT oT_Right15 (by simp [Sl.enc]) (Right15_run l H0) H).cK
  have hA := fun H => (runT oT_At (by simp [Sl.enc]) (timeline_At_run l t H0) H).cK
  have hA15 := fun H => (runT oT_At15 (by simp [Sl.enc]) (At15_run l t H0) H).cK
  obtain ⟨p, pe, hpf⟩ := putD_form l v
  obtain ⟨b, be, hbf⟩ := backD_form l
  simp only [hpf] at hP hP15
  simp only [hbf] at hB hB15
  have hSp := fun H => (runT oT_Same (by simp [Sl.enc]) (Same15_run p p rfl H0) H).cK
  have hSb := fun H => (runT oT_Same (by simp [Sl.enc]) (Same15_run b b rfl H0) H).cK
  obtain ⟨d1, H1, hr1, ⟨rep1, rfl⟩, rfl⟩ := timeline_Spans_c l H0
  have hS1 := fun H => (runT oT_Spans (by simp [Sl.enc]) hr1 H).cK
  obtain ⟨d2, H2, hr2, ⟨rep2, rfl⟩, rfl⟩ := Spans15_c l H0
  have hS2 := fun H => (runT oT_Spans15 (by simp [Sl.enc]) hr2 H).cK
  simp [hh, hG, hG2, hP, hP15, hB, hB15, hS1, hS2, versionC_len, ver_take, ver_drop2, query_take]
  have hKl : (spansK l.l).length ≤ big := Nat.le_trans (List.length_filter_le _ _) (by
    unfold spansS
    split
    · rw [spansFrom_length]; exact l.ok
    · simp)
  refine LR_rule (WR_mono _) (TellInv l v t p b pe be rep1 rep2 H) ?_ (j := (spansK l.l).length) ⟨[], spansK l.l, rfl, rfl, by simp, by simp, by simp, by simp, by simp, by simp, by simp, by simp, by simp, by simp, by simp, by simp, by simp, by simp, rfl⟩
  rintro j E H' ⟨pre, suf, hl, rfl, e0, e2, e7, e8, e9, e10, e11, e12, e13, e14, e15, e16, e17, e18, rfl⟩
  cases suf with
  | nil =>
    have hp : spansK l.l = pre := by simpa using hl
    have hlt' : ((pre.length : Int) < ((spansK l.l).length : Int)) = False := by simp [hp]
    have hbb : eqAny .bool (bD (rightVs l.l)) (bD (rightVs l.l)) = some true := by cases rightVs l.l <;> rfl
    simp [e0, e2, e7, e8, e9, e10, e11, e12, e13, e14, e15, e16, e17, e18, hlt', hR, hR15, hA, hA15, hSp, hSb, hbb]
  | cons s suf =>
    have hlt : pre.length < (spansK l.l).length := by rw [hl]; simp
    have hlt' : ((pre.length : Int) < ((spansK l.l).length : Int)) = True := by simp; omega
    have hw := wrap_more hlt hKl
    have es1 := elem_at spanC_len rep1 (spansK l.l) .i64 pre.length s (by rw [hl]; simp)
    have es2 := elem_at spanC_len rep2 (spansK l.l) .i64 pre.length s (by rw [hl]; simp)
    have hcc : eqAny (.cells [.int, .int, .int]) (.agg (spanC s)) (.agg (spanC s)) = some true := by
      have hk : ∀ n : Int, eqK .int (i64D n) (i64D n) = some true := fun n => by simp [eqK]
      simp only [eqAny, eqL, spanC, hk]
    simp [e0, e2, e7, e8, e9, e10, e11, e12, e13, e14, e15, e16, e17, e18, hlt', es1, es2, load_elem _ _ _ _ (spanC_len s), hw, hcc]
    exact ⟨suf.length, by omega, pre ++ [s], suf, by simp [hl], rfl, by simp [e0], by simp [e2], by simp [e7], by simp [e8], by simp [e9], by simp [e10], by simp [e11], by simp [e12], by simp [e13], by simp [e14], by simp [e15], by simp [e16], by simp [e17], by simp, rfl⟩
end Go.Proofs.YtlnkifnkamojnaaGreat.Tz
