/-
The walk of DiffMatches. Conditions: none.
-/
import Derived.Test.YtmfhanoibbmnlaaGreatDoorTXt
namespace Go.Proofs.YtmfhanoibbmnlaaGreatDoor.Tz
open Go.Aug Go.Aug.Api
set_option maxRecDepth 100000
theorem ref13Great_run (l : Sl TEvent) (H : Heap) : SomeB tab n_q3 [l.enc eventC] H := by
  refine cK_fn o_q3 t_q3 (Nat.le_of_ble_eq_true rfl) (by decide) ?_
  simp [Sl.enc]
  refine LR_rule (WR_mono _) (fun j E H' => H' = low0 H ∧ ∃ pre suf n, l.l = pre ++ suf ∧ j = suf.length ∧ E 0 = slD l.rep l.l.length (l.l.flatMap eventC) ∧ E 3 = i64D n ∧ E 4 = i64D pre.length) ?_ (j := l.l.length) ⟨rfl, [], l.l, _, by simp, rfl, by simp, by simp; rfl, by simp⟩
  rintro j E H' ⟨rfl, pre, suf, n, hl, rfl, e0, e3, e4⟩
  cases suf with
  | nil =>
    simp at hl
    simp [e0, e3, e4, hl]
    omega
  | cons a suf =>
    have hlt : pre.length < l.l.length := by rw [hl]; simp
    have hlt' : ((pre.length : Int) < (l.l.length : Int)) = True := by simp; omega
    have hw := wrap_more hlt l.ok
    have ea := elem_at eventC_len l.rep l.l .i64 pre.length a (by rw [hl]; simp)
    obtain ⟨g, hg⟩ := (GreatEvent_run a (low0 H)).run
    have hG := hg.cK
    have f4 : ∀ (x : TEvent) rest, evFadr 4 (.cp (eventC x ++ rest)) = some (.cp (x.vals.enc valC :: rest)) := fun _ _ => rfl
    simp [e0, e3, e4, hlt']
    refine gK_of (fun h1 => ?_) (fun h1 => ?_)
    · simp [-fadr_cp, h1, e0, e3, e4, ea, load_elem _ _ _ _ (eventC_len a), hG, f4]
      cases g with
      | true => simp
      | false =>
        simp [-fadr_cp, e0, e3, e4, ea, f4, Sl.enc]
        refine gK_of (fun h2 => ?_) (fun h2 => ?_)
        · simp
        · simp [e0, e3, e4, hw]
          exact ⟨suf.length, by omega, pre ++ [a], suf, by simp [hl], rfl, by simp⟩
    · simp [h1, e3]
      omega
theorem GreatMatches_run (l : Sl TMatch) (H : Heap) : SomeB tab n_q4 [l.enc matchC] H := by
  refine cK_fn o_q4 t_q4 (Nat.le_of_ble_eq_true rfl) (by decide) ?_
  simp [Sl.enc]
  refine LR_rule (WR_mono _) (fun j E H' => H' = low0 H ∧ ∃ pre suf n, l.l = pre ++ suf ∧ j = suf.length ∧ E 0 = slD l.rep l.l.length (l.l.flatMap matchC) ∧ E 3 = i64D n ∧ E 4 = i64D pre.length) ?_ (j := l.l.length) ⟨rfl, [], l.l, _, by simp, rfl, by simp, by simp; rfl, by simp⟩
  rintro j E H' ⟨rfl, pre, suf, n, hl, rfl, e0, e3, e4⟩
  cases suf with
  | nil =>
    simp at hl
    simp [e0, e3, e4, hl]
    omega
  | cons a suf =>
    have hlt : pre.length < l.l.length := by rw [hl]; simp
    have hlt' : ((pre.length : Int) < (l.l.length : Int)) = True := by simp; omega
    have hw := wrap_more hlt l.ok
    have ea := elem_at matchC_len l.rep l.l .i64 pre.length a (by rw [hl]; simp)
    have f1 : ∀ (x : TMatch) rest, evFadr 1 (.cp (matchC x ++ rest)) = some (.cp (x.bound.enc rowC :: rest)) := fun _ _ => rfl
    simp [e0, e3, e4, hlt']
    refine gK_of (fun h1 => ?_) (fun h1 => ?_)
    · simp [-fadr_cp, h1, e0, e3, e4, ea, f1]
      simp [-fadr_cp, Sl.enc]
      refine LR_rule (WR_mono _) (fun j E H' => H' = low0 H ∧ ∃ pre2 suf2 n, a.bound.l = pre2 ++ suf2 ∧ j = suf2.length ∧ E 0 = slD l.rep l.l.length (l.l.flatMap matchC) ∧ E 3 = i64D n ∧ E 4 = i64D pre.length ∧ E 5 = i64D pre2.length) ?_ (j := a.bound.l.length) ⟨rfl, [], a.bound.l, _, by simp, rfl, by simp [e0], by simp; rfl, by simp [e4], by simp⟩
      rintro j2 E2 H2 ⟨rfl, pre2, suf2, n2, hl2, rfl, g0, g3, g4, g5⟩
      cases suf2 with
      | nil =>
        simp at hl2
        simp [-fadr_cp, g0, g3, g4, g5, ea, f1, Sl.enc, hl2, hw]
        exact ⟨suf.length, by omega, pre ++ [a], suf, by simp [hl], rfl, by simp⟩
      | cons b suf2 =>
        have hlt2 : pre2.length < a.bound.l.length := by rw [hl2]; simp
        have hlt2' : ((pre2.length : Int) < (a.bound.l.length : Int)) = True := by simp; omega
        have hw2 := wrap_more hlt2 a.bound.ok
        have eb := elem_at rowC_len a.bound.rep a.bound.l .i64 pre2.length b (by rw [hl2]; simp)
        have lr : ∀ H (r : Sl TEvent) rest, evLoad H none (.cp (rowC r ++ rest)) = some (r.enc eventC) := fun _ _ _ => rfl
        have lm : ∀ H (d : D) rest, evLoad H none (.cp (d :: rest)) = some d := fun _ _ _ => rfl
        obtain ⟨g, hg⟩ := (ref13Great_run b (low0 H)).run
        have hG := hg.cK
        simp only [Sl.enc] at hG
        simp [-fadr_cp, -load_cp, g0, g3, g4, g5, ea, f1, lm, Sl.enc, hlt2']
        refine gK_of (fun h2 => ?_) (fun h2 => ?_)
        · simp [-fadr_cp, -load_cp, h2, g0, g3, g4, g5, ea, f1, lm, Sl.enc, eb, lr, hG]
          cases g with
          | true => simp
          | false =>
            simp [g0, g3, g4, g5, hw2]
            exact ⟨suf2.length, by omega, pre2 ++ [b], suf2, by simp [hl2], rfl, by simp⟩
        · simp [h2, g0, g3, g4, hw]
          exact ⟨suf.length, by omega, pre ++ [a], suf, by simp [hl], rfl, by simp⟩
    · simp [h1, e3]
      omega
def lawFnsS : List Nat := [n_q1, n_q4, n_q22, n_q43]
noncomputable def orcsS (f : Nat) : Option (List D → Heap → Option (D × Heap)) := cond (Nat.beq f n_q59) (some (pureOrc2 (runSpec tabM n_q59))) (cond (isLaw f lawFnsS) (some (pureOrc2 (runSpec tab f))) (orcs f))
noncomputable def tabS : Tab := ⟨findF rows, frozen, orcsS⟩
theorem orcsS_ok (f : Nat) (g : List D → Heap → Option (D × Heap)) (h : orcsS f = some g) : OrcOk Tryz.prog f g := by
  unfold orcsS at h
  cases hk : Nat.beq f n_q59 with
  | true =>
    rw [hk] at h
    simp only [cond_true, Option.some.injEq] at h
    rw [← h, Nat.eq_of_beq_eq_true hk]
    exact runSpec_orc tabM_ok _
  | false =>
    rw [hk] at h
    simp only [cond_false] at h
    cases hk : isLaw f lawFnsS with
    | true =>
      rw [hk] at h
      simp only [cond_true, Option.some.injEq] at h
      rw [← h]
      exact runSpec_orc tab_ok _
    | false => rw [hk] at h; exact orcs_ok f g h
theorem tabS_ok : TabOk Tryz.prog tabS := tab_ok' _ _ orcsS_ok
theorem tLS {f : Nat} {fi : FI} (h : tab.fn f = some fi) : tabS.fn f = some fi := h
theorem oS_Matches : tabS.orc n_q59 = some (pureOrc2 (runSpec tabM n_q59)) := by kernel_rfl
theorem oS_Great : tabS.orc n_q1 = some (pureOrc2 (runSpec tab n_q1)) := by kernel_rfl
theorem oS_GreatM : tabS.orc n_q4 = some (pureOrc2 (runSpec tab n_q4)) := by kernel_rfl
theorem oS_Right : tabS.orc n_q22 = some (pureOrc2 (runSpec tab n_q22)) := by kernel_rfl
theorem oS_Same : tabS.orc n_q43 = some (pureOrc2 (runSpec tab n_q43)) := by kernel_rfl
theorem oS_head : tabS.orc n_q6 = some orcHead := by kernel_rfl
theorem oS_law : tabS.orc n_q5 = none := by kernel_rfl
theorem runS {T : Tab} {f : FuncId} {args : List D} {d : D} (ho : tabS.orc f = some (pureOrc2 (runSpec T f))) (hu : D.under.underAll 0 args = true) (hd : Run T (.fn f) args H0 d H0) (H : Heap) : Run tabS (.fn f) args H d H := cK.run (cK_pure ho hu hd ⟨rfl, rfl⟩)
theorem headS_run (H : Heap) : Run tabS (.fn n_q6) [] H (bD true) H := cK.run (cK_orc oS_head ⟨_, rfl, rfl, rfl⟩)
theorem taken_keep (c w : Int) (l : List TMatch) : ∃ keep : TMatch → Bool, (takenS c w l).1 = l.filter keep ∧ ((takenS c w l).2 = true ∨ (takenS c w l).1 = []) := by
  unfold takenS
  by_cases h1 : c = 1
  · refine ⟨fun _ => true, ?_, .inl ?_⟩
    · rw [if_pos h1, List.filter_eq_self.2 fun _ _ => rfl]
    · rw [if_pos h1]
  · rw [if_neg h1]
    by_cases h2 : c = 2
    · rw [if_pos h2]
      exact ⟨_, rfl, .inl rfl⟩
    · rw [if_neg h2]
      exact ⟨fun _ => false, by simp, .inr rfl⟩
def CountInv (l : Sl TMatch) (m n : D) (keep : TMatch → Bool) (is : Bool) (H2 : Heap) (j : Nat) (E : Fr) (H' : Heap) : Prop :=
  ∃ (pre suf : List TMatch) (k : Nat), l.l = pre ++ suf ∧ j = suf.length ∧ (pre.filter keep).length ≤ k ∧ k ≤ (l.l.filter keep).length ∧ E 2 = l.enc matchC ∧ E 7 = bD true ∧ E 8 = m ∧ E 9 = bD is ∧ E 10 = n ∧ E 11 = bD true ∧ E 12 = i64D k ∧ E 13 = i64D pre.length ∧ H' = H2
theorem matches_walk (a b : TQuery) (l : Sl TMatch) (hm : l.l.length * 32 ≤ 140737488355328) (H : Heap) : cK tabS (.fn n_q5) [.agg (queryC a), .agg (queryC b), l.enc matchC] H fun d H' => d = bD true ∧ H' = H := by
  refine cK_fn oS_law (tLS t_q5) (Nat.le_of_ble_eq_true rfl) (by decide) ?_
  have hq5 : ∀ q : TQuery, (queryC q).take 5 = queryC q := fun q => List.take_of_length_le (by rw [queryC_len]; exact Nat.le_refl _)
  have hh := fun H => (headS_run H).cK
  have hG : ∀ q : TQuery, ∃ g, ∀ H k, cK tabS (.fn n_q1) [.agg (queryC q)] H k = k (bD g) H := fun q => by
    obtain ⟨g, hg⟩ := (Great_run q H0).run
    exact ⟨g, fun H => (runS oS_Great (by simp) hg H).cK⟩
  obtain ⟨ga, hGa⟩ := hG a
  obtain ⟨gb, hGb⟩ := hG b
  obtain ⟨gm, hgm⟩ := (GreatMatches_run l H0).run
  have hGm := fun H => (runS oS_GreatM (by simp) hgm H).cK
  have hR0 : ∀ (q : TQuery) H, Run tabS (.fn n_q22) [.agg (queryC q)] H (bD (rightP q)) H := fun q H => by
    have := runS oS_Right (by simp) (ref08_Right_run q H0) H
    rw [rightQ_eq] at this
    exact this
  have hR := fun q H => (hR0 q H).cK
  cases ga with
  | true => simp [hq5, hh, hGa]
  | false =>
  cases gb with
  | true => simp [hq5, hh, hGa, hGb]
  | false =>
  cases gm with
  | true => simp [hq5, hh, hGa, hGb, hGm]
  | false =>
  cases ha : rightP a with
  | false => simp [hq5, hh, hGa, hGb, hGm, hR, ha]
  | true =>
  have hM : ∀ c : TQuery, ∃ rep, ∀ H k, cK tabS (.fn n_q59) [.agg (queryC a), .agg (queryC c), l.enc matchC] H k = k (.tup [slD rep (takenS (classS a c) c.within l.l).1.length ((takenS (classS a c) c.within l.l).1.flatMap matchC), bD (takenS (classS a c) c.within l.l).2]) H := fun c => by
    obtain ⟨d, H', hr, ⟨rep, rfl⟩, rfl⟩ := M.diff_Matches_c a c l hm H0
    exact ⟨rep, fun H => (runS oS_Matches (by simp) hr H).cK⟩
  obtain ⟨repB, hMb⟩ := hM b
  obtain ⟨repA, hMa⟩ := hM a
  obtain ⟨keep, hkeep, hempty⟩ := taken_keep (classS a b) b.within l.l
  have hAll : takenS (classS a a) a.within l.l = (l.l, true) := by rw [class_self ha]; rfl
  rw [hAll] at hMa
  generalize hT : takenS (classS a b) b.within l.l = T at *
  obtain ⟨tl, is⟩ := T
  simp only at hkeep hempty hMb hMa
  subst hkeep
  simp [hq5, hh, hGa, hGb, hGm, hR, ha, hMb, hMa]
  have hfl : (l.l.filter keep).length ≤ big := Nat.le_trans (List.length_filter_le _ _) l.ok
  have hS : ∀ (x y : Sl TMatch) H, Run tabS (.fn n_q43) [x.enc matchC, y.enc matchC] H (bD (sameL sameM x.l y.l)) H := fun x y H => runS oS_Same (by simp) (ref13_SameMatches_run x y H0) H
  have hend := fun H => (hS ⟨repA, l.l, l.ok⟩ l H).cK
  simp only [Sl.enc, sameL_refl sameM_refl] at hend
  refine LR_rule (WR_mono _) (CountInv l (slD repB (l.l.filter keep).length ((l.l.filter keep).flatMap matchC)) (slD repA l.l.length (l.l.flatMap matchC)) keep is (((low0 H).add (.cells (queryC a))).add (.cells (queryC b)))) ?_ (j := l.l.length) ⟨[], l.l, 0, by simp, rfl, by simp, by simp, by simp, by simp, by simp, by simp, by simp, by simp, by simp, by simp, rfl⟩
  rintro j E H' ⟨pre, suf, k, hl, rfl, h1, h2, e2, e7, e8, e9, e10, e11, e12, e13, rfl⟩
  simp only [Sl.enc] at e2
  cases suf with
  | nil =>
    have hp : l.l = pre := by simpa using hl
    have hk : k = (l.l.filter keep).length := by
      have e : pre.filter keep = l.l.filter keep := by rw [hp]
      rw [e] at h1
      omega
    have hlt' : ((pre.length : Int) < (l.l.length : Int)) = False := by simp [hp]
    subst hk
    rcases hempty with rfl | he
    · simp [e2, e7, e8, e9, e10, e11, e12, e13, hlt', hend]
    · cases is <;> simp [e2, e7, e8, e9, e10, e11, e12, e13, hlt', hend, he]
  | cons x suf =>
    have hlt : pre.length < l.l.length := by rw [hl]; simp
    have hlt' : ((pre.length : Int) < (l.l.length : Int)) = True := by simp; omega
    have hw := wrap_more hlt l.ok
    by_cases hk : k < (l.l.filter keep).length
    · have hk' : ((k : Int) < ((l.l.filter keep).length : Int)) = True := by simp; omega
      obtain ⟨y, hy⟩ : ∃ y, (l.l.filter keep)[k]? = some y := ⟨_, List.getElem?_eq_getElem hk⟩
      obtain ⟨hky, hyy⟩ := List.getElem?_eq_some_iff.1 hy
      have hsplit : l.l.filter keep = (l.l.filter keep).take k ++ y :: (l.l.filter keep).drop (k + 1) := by rw [← hyy, List.getElem_cons_drop, List.take_append_drop]
      have hkl : ((l.l.filter keep).take k).length = k := by simp; omega
      obtain ⟨c1, hc1⟩ := sl_one matchC_len l.rep pre x suf .i64
      rw [← hl] at hc1
      obtain ⟨c2, hc2⟩ := sl_one matchC_len repB ((l.l.filter keep).take k) y ((l.l.filter keep).drop (k + 1)) .i64
      rw [← hsplit, hkl] at hc2
      have hw2 : IntKind.i64.wrap ((k : Int) + 1) = (k : Int) + 1 := wrap_more hk hfl
      have hSx := fun H => (hS ⟨some c1, [x], (show 1 ≤ big by decide)⟩ ⟨some c2, [y], (show 1 ≤ big by decide)⟩ H).cK
      simp only [Sl.enc, List.flatMap_cons, List.flatMap_nil, List.append_nil, List.length_singleton, slD_some] at hSx
      obtain ⟨s1, s2⟩ := keep_step keep sameM sameM_refl l.l pre suf x hl k h1 h2
      have hxy : sameL sameM [x] [y] = sameM x y := by simp [sameL]
      rw [hxy] at hSx
      simp [e2, e7, e8, e9, e10, e11, e12, e13, hlt', hk', hw, hw2, hc1, hc2, hSx]
      cases c : sameM x y with
      | true =>
        obtain ⟨t1, t2⟩ := s1 y hy c
        simp [e7, e8, e9, e10, e11, e12, e13, hw, hw2]
        exact ⟨suf.length, by simp, pre ++ [x], suf, k + 1, by simp [hl], rfl, t1, t2, by simp [e2, Sl.enc], by simp [e7], by simp [e8], by simp [e9], by simp [e10], by simp [e11], by simp, by simp, rfl⟩
      | false =>
        have t1 := s2 y hy c
        simp [e13, hw]
        exact ⟨suf.length, by simp, pre ++ [x], suf, k, by simp [hl], rfl, t1, h2, by simp [e2, Sl.enc], by simp [e7], by simp [e8], by simp [e9], by simp [e10], by simp [e11], by simp [e12], by simp, rfl⟩
    · have hk2 : k = (l.l.filter keep).length := by omega
      subst hk2
      rcases hempty with rfl | he
      · simp [e2, e7, e8, e9, e10, e11, e12, e13, hlt', hend]
      · cases is <;> simp [e2, e7, e8, e9, e10, e11, e12, e13, hlt', hend, he]
end Go.Proofs.YtmfhanoibbmnlaaGreatDoor.Tz
