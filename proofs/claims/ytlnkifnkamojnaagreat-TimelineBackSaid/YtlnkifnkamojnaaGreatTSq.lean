/-
Versions with one more; without the last one. Conditions: none; plain.
-/
import Derived.Test.YtlnkifnkamojnaaGreatTSp
namespace Go.Aug.Api
open Go.Aug
def lastD (l : List TVersion) : Bool := match l.getLast? with | some w => w.drop | none => true
def leftV (v : TVersion) (l : List TVersion) : List TVersion := l.filter fun x => !decide (v.from_ ≤ x.from_)
def putD (l : Sl TVersion) (v : TVersion) : D :=
  if (rightVs l.l && oneV v) = false then .tup [.v (.slice none 0 0), i64D 1]
  else if (v.drop && lastD (leftV v l.l)) = true then .tup [l.enc versionC, i64D 12]
  else if (leftV v l.l).length = 8 then .tup [l.enc versionC, i64D 2]
  else .tup [.sl ((leftV v l.l).length + 1) ((leftV v l.l ++ [v]).flatMap versionC) none, i64D 0]
def backD (l : Sl TVersion) : D :=
  if rightVs l.l = false then .tup [.v (.slice none 0 0), i64D 1]
  else if l.l.length < 2 then .tup [l.enc versionC, i64D 12]
  else .tup [.sl (l.l.length - 1) (l.l.dropLast.flatMap versionC) none, i64D 0]
theorem okFrom_lt : ∀ {l : List TVersion} {wf : Int} {wd : Bool}, okFrom wf wd l = true → ∀ x ∈ l, wf < x.from_
  | [], _, _, _, x, hx => by simp at hx
  | v :: l, wf, wd, h, x, hx => by
    simp only [okFrom, Bool.and_eq_true, decide_eq_true_eq] at h
    obtain ⟨⟨⟨-, h2⟩, -⟩, h4⟩ := h
    rcases List.mem_cons.1 hx with rfl | hx
    · exact h2
    · exact Int.lt_trans h2 (okFrom_lt h4 x hx)
theorem okFrom_last : ∀ {l : List TVersion} {wf : Int} {wd : Bool} {w : TVersion}, okFrom wf wd l = true → l.getLast? = some w → ∀ x ∈ l, x.from_ ≤ w.from_
  | [], _, _, _, _, _, x, hx => by simp at hx
  | v :: l, wf, wd, w, h, hl, x, hx => by
    simp only [okFrom, Bool.and_eq_true, decide_eq_true_eq] at h
    obtain ⟨⟨⟨-, -⟩, -⟩, h4⟩ := h
    cases l with
    | nil =>
      simp at hl hx
      rw [hx, hl]
      exact Int.le_refl _
    | cons u l =>
      have hl' : (u :: l).getLast? = some w := by simpa using hl
      rcases List.mem_cons.1 hx with rfl | hx
      · exact Int.le_trans (Int.le_of_lt (okFrom_lt h4 u (List.mem_cons_self ..))) (okFrom_last h4 hl' u (List.mem_cons_self ..))
      · exact okFrom_last h4 hl' x hx
theorem okFrom_put {v : TVersion} (hv : oneV v = true) : ∀ {l : List TVersion} {wf : Int} {wd : Bool}, okFrom wf wd l = true → wf < v.from_ → (v.drop && (match (leftV v l).getLast? with | some w => w.drop | none => wd)) = false → okFrom wf wd (leftV v l ++ [v]) = true
  | [], wf, wd, _, h, hd => by
    simp only [leftV, List.filter_nil, List.getLast?_nil] at hd
    simp [leftV, okFrom, hv, h]
    simp only [Bool.and_eq_false_iff] at hd
    rcases hd with h | h <;> simp [h]
  | w :: l, wf, wd, h0, h, hd => by
    have h0' := h0
    simp only [okFrom, Bool.and_eq_true, decide_eq_true_eq] at h0
    obtain ⟨⟨⟨a1, a2⟩, a3⟩, a4⟩ := h0
    by_cases c : v.from_ ≤ w.from_
    · have hn : leftV v (w :: l) = [] := List.filter_eq_nil_iff.2 fun x hx => by
        have : w.from_ ≤ x.from_ := by
          rcases List.mem_cons.1 hx with rfl | hx
          · exact Int.le_refl _
          · exact Int.le_of_lt (okFrom_lt a4 x hx)
        simp; omega
      rw [hn] at hd ⊢
      simp only [List.getLast?_nil] at hd
      simp [okFrom, hv, h]
      simp only [Bool.and_eq_false_iff] at hd
      rcases hd with h | h <;> simp [h]
    · have hc : leftV v (w :: l) = w :: leftV v l := by
        unfold leftV
        rw [List.filter_cons_of_pos (by simp; omega)]
      rw [hc] at hd ⊢
      simp only [List.cons_append, okFrom, a1, a2, a3, decide_true, Bool.true_and, Bool.and_true]
      refine okFrom_put hv a4 (by omega) ?_
      rw [← hd]
      congr 1
      cases hg : (leftV v l).getLast? with
      | none =>
        have : leftV v l = [] := List.getLast?_eq_none_iff.1 hg
        simp [this]
      | some u =>
        rw [List.getLast?_cons, hg]
        rfl
theorem right_put {l : List TVersion} {v : TVersion} (h1 : rightVs l = true) (h2 : oneV v = true) (h3 : (v.drop && lastD (leftV v l)) = false) (h4 : ¬ (leftV v l).length = 8) : rightVs (leftV v l ++ [v]) = true := by
  simp only [rightVs, Bool.and_eq_true, decide_eq_true_eq] at h1 ⊢
  have h0 : (-1 : Int) < v.from_ := by
    simp only [oneV, Bool.and_eq_true, decide_eq_true_eq] at h2
    have := h2.1.1
    omega
  have hl : (leftV v l).length ≤ l.length := List.length_filter_le _ _
  exact ⟨okFrom_put h2 h1.1 h0 h3, by simp; omega⟩
theorem span_last : ∀ (l : List TVersion) (v : TVersion) (i : Int), (⟨i + l.length, v.from_, maxNum + 1⟩ : TSpan) ∈ spansFrom i (l ++ [v])
  | [], v, i => by simp [spansFrom, nextFrom]
  | w :: l, v, i => by
    simp only [List.cons_append, spansFrom]
    refine List.mem_cons_of_mem _ ?_
    have := span_last l v (i + 1)
    simp only [List.length_cons]
    rw [show i + ((l.length + 1 : Nat) : Int) = i + 1 + l.length by omega]
    exact this
theorem at_last {l : List TVersion} {v : TVersion} (h : rightVs (l ++ [v]) = true) (t : Int) (h1 : v.from_ ≤ t) (h2 : t ≤ maxNum) : atS (l ++ [v]) t = l.length := by
  obtain ⟨s1, s2⟩ := spansS_ok (l ++ [v])
  have hm : (⟨l.length, v.from_, maxNum + 1⟩ : TSpan) ∈ spansS (l ++ [v]) := by
    unfold spansS
    rw [if_pos h]
    simpa using span_last l v 0
  have hin : inS t ⟨l.length, v.from_, maxNum + 1⟩ = true := by
    simp only [inS, Bool.and_eq_true, decide_eq_true_eq]
    exact ⟨h1, by omega⟩
  unfold atS
  cases hf : (spansS (l ++ [v])).find? (inS t) with
  | none => exact absurd hin (List.find?_eq_none.1 hf _ hm)
  | some u =>
    have hu := List.mem_of_find?_eq_some hf
    have hin' : inS t u = true := List.find?_some hf
    have := only_in (fun b hb => (s1 b hb).2.2.2.1) s2 u hu _ hm hin' hin
    rw [this]
theorem left_all {l : List TVersion} {v w : TVersion} (h : rightVs l = true) (hw : l.getLast? = some w) (hlt : w.from_ < v.from_) : leftV v l = l := by
  simp only [rightVs, Bool.and_eq_true, decide_eq_true_eq] at h
  refine List.filter_eq_self.2 fun x hx => ?_
  have := okFrom_last h.1 hw x hx
  simp; omega
end Go.Aug.Api
