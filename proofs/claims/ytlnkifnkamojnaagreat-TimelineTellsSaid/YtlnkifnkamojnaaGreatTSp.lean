/-
Versions: whether they are right, how long each is in force, which is at a time. Conditions: none; plain.
-/
import Derived.Test.YtlnkifnkamojnaaGreatTSh
namespace Go.Aug.Api
open Go.Aug
structure TVersion where
  from_ : Int
  drop : Bool
  query : TQuery
def versionC (v : TVersion) : List D := i64D v.from_ :: bD v.drop :: queryC v.query
theorem versionC_len (v : TVersion) : (versionC v).length = 7 := rfl
theorem versionC_pure (v : TVersion) : pureL (versionC v) := by
  have := queryC_pure v.query
  simp only [pureL] at this
  simp [pureL, versionC, under_cons, under_v, this]
@[simp] theorem fl_version (l : List TVersion) : D.under.underAll 0 (l.flatMap versionC) = true := under_flatMap 0 _ versionC_pure l
structure TSpan where
  at_ : Int
  from_ : Int
  to : Int
def spanC (s : TSpan) : List D := [i64D s.at_, i64D s.from_, i64D s.to]
theorem spanC_len (s : TSpan) : (spanC s).length = 3 := rfl
theorem spanC_pure (s : TSpan) : pureL (spanC s) := rfl
@[simp] theorem fl_span (l : List TSpan) : D.under.underAll 0 (l.flatMap spanC) = true := under_flatMap 0 _ spanC_pure l
def zeroQ (q : TQuery) : Bool := decide (IntKind.i64.wrap ((q.items.l.length : Int) + (q.preds.l.length : Int)) = 0) && decide (q.within = 0) && decide (q.by_ = ⟨#[]⟩) && decide (q.pick = 0)
def oneV (v : TVersion) : Bool := decide (0 ≤ v.from_) && decide (v.from_ ≤ maxNum) && (if v.drop = true then zeroQ v.query else rightP v.query)
def okFrom (wf : Int) (wd : Bool) : List TVersion → Bool
  | [] => true
  | v :: l => oneV v && decide (wf < v.from_) && !(wd && v.drop) && okFrom v.from_ v.drop l
def rightVs (l : List TVersion) : Bool := okFrom (-1) true l && decide (l.length ≤ 8)
def nextFrom : List TVersion → Int
  | [] => maxNum + 1
  | w :: _ => w.from_
def spansFrom (i : Int) : List TVersion → List TSpan
  | [] => []
  | v :: l => ⟨i, v.from_, nextFrom l⟩ :: spansFrom (i + 1) l
def spansS (l : List TVersion) : List TSpan := if rightVs l = true then spansFrom 0 l else []
def inS (t : Int) (s : TSpan) : Bool := decide (s.from_ ≤ t) && decide (t < s.to)
def dropS (l : List TVersion) (s : TSpan) : Bool := match l[s.at_.toNat]? with | some v => v.drop | none => false
def spansK (l : List TVersion) : List TSpan := (spansS l).filter fun s => !dropS l s
def atS (l : List TVersion) (t : Int) : Int := match (spansS l).find? (inS t) with | some s => s.at_ | none => -1
theorem spansFrom_length : ∀ (l : List TVersion) (i : Int), (spansFrom i l).length = l.length
  | [], _ => rfl
  | _ :: l, i => by simp [spansFrom, spansFrom_length l]
theorem spansFrom_ok : ∀ (l pre : List TVersion) (wf : Int) (wd : Bool), okFrom wf wd l = true → ∀ L, L = pre ++ l →
    (∀ s ∈ spansFrom (pre.length : Nat) l, (0 ≤ s.at_ ∧ s.at_ < (L.length : Int) ∧ (∃ v, L[s.at_.toNat]? = some v ∧ v.from_ = s.from_) ∧ s.from_ < s.to ∧ wf < s.from_ ∧ 0 ≤ s.from_ ∧ s.from_ ≤ maxNum)) ∧ (spansFrom (pre.length : Nat) l).Pairwise fun a b => a.to ≤ b.from_
  | [], _, _, _, _, _, _ => by simp [spansFrom]
  | v :: l, pre, wf, wd, h, L, hL => by
    simp only [okFrom, Bool.and_eq_true, decide_eq_true_eq] at h
    obtain ⟨⟨⟨h1, h2⟩, h3⟩, h4⟩ := h
    have h1' : 0 ≤ v.from_ ∧ v.from_ ≤ maxNum := by
      simp only [oneV, Bool.and_eq_true, decide_eq_true_eq] at h1
      exact h1.1
    obtain ⟨ih1, ih2⟩ := spansFrom_ok l (pre ++ [v]) v.from_ v.drop h4 L (by rw [hL]; simp)
    have e : (((pre ++ [v]).length : Nat) : Int) = (pre.length : Int) + 1 := by simp
    rw [e] at ih1 ih2
    have hat : L[pre.length]? = some v := by rw [hL]; simp
    have hlt : pre.length < L.length := by rw [hL]; simp
    simp only [spansFrom]
    refine ⟨fun s hs => ?_, List.pairwise_cons.2 ⟨fun s hs => ?_, ih2⟩⟩
    · rcases List.mem_cons.1 hs with rfl | hs
      · refine ⟨by simp, by simpa using hlt, ⟨v, by simpa using hat, rfl⟩, ?_, h2, h1'.1, h1'.2⟩
        cases l with
        | nil => simp [nextFrom]; omega
        | cons w l =>
          simp only [okFrom, Bool.and_eq_true, decide_eq_true_eq] at h4
          exact h4.1.1.2
      · obtain ⟨a, b, c, d, e, f, g⟩ := ih1 s hs
        exact ⟨a, b, c, d, by omega, f, g⟩
    · cases l with
      | nil => simp [spansFrom] at hs
      | cons w l =>
        obtain ⟨-, -, -, -, e, -, -⟩ := ih1 s hs
        simp only [spansFrom] at hs ih2
        rcases List.mem_cons.1 hs with rfl | hs
        · exact Int.le_refl _
        · have := (List.pairwise_cons.1 ih2).1 s hs
          have hw : w.from_ < nextFrom l := (ih1 ⟨(pre.length : Int) + 1, w.from_, nextFrom l⟩ (by simp only [spansFrom]; exact List.mem_cons_self ..)).2.2.2.1
          exact Int.le_of_lt (Int.lt_of_lt_of_le hw this)
theorem spansS_ok (l : List TVersion) : (∀ s ∈ spansS l, (0 ≤ s.at_ ∧ s.at_ < (l.length : Int) ∧ (∃ v, l[s.at_.toNat]? = some v ∧ v.from_ = s.from_) ∧ s.from_ < s.to ∧ 0 ≤ s.from_ ∧ s.from_ ≤ maxNum)) ∧ (spansS l).Pairwise fun a b => a.to ≤ b.from_ := by
  unfold spansS
  by_cases h : rightVs l = true
  · rw [if_pos h]
    simp only [rightVs, Bool.and_eq_true, decide_eq_true_eq] at h
    obtain ⟨h1, h2⟩ := spansFrom_ok l [] (-1) true h.1 l rfl
    exact ⟨fun s hs => let ⟨a, b, c, d, _, f, g⟩ := h1 s hs; ⟨a, b, c, d, f, g⟩, h2⟩
  · rw [if_neg h]
    simp
end Go.Aug.Api
