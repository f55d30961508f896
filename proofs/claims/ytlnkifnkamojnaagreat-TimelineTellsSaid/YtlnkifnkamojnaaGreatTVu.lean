/-
The walk of timeline.At. Conditions: none.
-/
import Derived.Test.YtlnkifnkamojnaaGreatTVt
namespace Go.Proofs.YtlnkifnkamojnaaGreat.Tz
open Go.Aug Go.Aug.Api
set_option maxRecDepth 100000
def AtI (H : Heap) (e : Env) (l : List TVersion) (t : Int) (o : Option (List TSpan)) (H' : Heap) : Prop :=
  H'.get H.next = some (.cells [i64D t]) ∧ H.next + 3 ≤ H'.next ∧ H.next ≤ H'.low ∧ H'.low ≤ H'.next ∧
  match o with
  | some rest => ∃ pre, spansS l = pre ++ rest ∧ (∀ s ∈ pre, inS t s = false) ∧ H'.get (H.next + 1) = some (.cells [i64D 0]) ∧ H'.get (H.next + 2) = some (.loop false false .normal e [8] F_q160.a5 F_q160.b6) ∧ (pre = [] ∨ H'.low ≤ H.next + 2)
  | none => H'.get (H.next + 1) = some (.cells [i64D (atS l t)]) ∧ H'.get (H.next + 2) = some (.loop false true .ret e [8] F_q160.a5 F_q160.b6) ∧ H'.low ≤ H.next + 2
theorem atS_found {l : List TVersion} {t : Int} {pre x : List TSpan} {s : TSpan} (h : spansS l = pre ++ s :: x) (hp : ∀ s ∈ pre, inS t s = false) (hs : inS t s = true) : atS l t = s.at_ := by
  unfold atS
  have : (spansS l).find? (inS t) = some s := by
    rw [h, List.find?_append]
    have : pre.find? (inS t) = none := List.find?_eq_none.2 fun y hy => by simp [hp y hy]
    simp [this, hs]
  rw [this]
theorem atS_none {l : List TVersion} {t : Int} (hp : ∀ s ∈ spansS l, inS t s = false) : atS l t = -1 := by
  unfold atS
  have : (spansS l).find? (inS t) = none := List.find?_eq_none.2 fun y hy => by simp [hp y hy]
  rw [this]
theorem timeline_At_run (l : Sl TVersion) (t : Int) (H : Heap) : Run tab (.fn n_q160) [l.enc versionC, i64D t] H (i64D (atS l.l t)) H := by
  refine cK.run (cK_fn o_q160 t_q160 (Nat.le_of_ble_eq_true rfl) (by decide) ?_)
  have hS := fun H => (timeline_spans_run l H).cK
  simp [hS]
  refine RX_of rfl fun e he => ?_
  obtain ⟨E0, he, f3, f4⟩ : ∃ E0 : Fr, Fits 21 E0 e ∧ E0 3 = .rf H.next 0 ∧ E0 4 = .rf (H.next + 1) 0 := ⟨_, he, by simp, by simp⟩
  simp
  refine timeline_spans_1_c l (q := H.next + 2) _ (AtI H e l.l t) _ ?_ ?_ ?_ ?_ ?_
  · intro o z c H' hi
    obtain ⟨h1, h2, h3, h4, h5⟩ := hi
    have g : ∀ k, k < H.next + 3 → ((H'.add (.cells z)).set H'.next (.cells c)).get k = H'.get k := fun k hk => by rw [get_set, if_neg (by omega), get_add, if_neg (by omega)]
    have lw : ∀ b, b ≤ H'.next → H'.low ≤ b → ((H'.add (.cells z)).set H'.next (.cells c)).low ≤ b := fun b hb hl => by simp only [low_set, low_add]; split <;> omega
    refine ⟨by rw [g _ (by omega), h1], by simp; omega, ?_, ?_, ?_⟩
    · simp only [low_set, low_add]; split <;> omega
    · simp only [low_set, low_add, next_set, next_add]; split <;> omega
    · cases o with
      | none =>
        obtain ⟨a1, a2, a3⟩ := h5
        exact ⟨by rw [g _ (by omega), a1], by rw [g _ (by omega), a2], lw _ (by omega) a3⟩
      | some rest =>
        obtain ⟨pre, a1, a2, a3, a4, a5⟩ := h5
        refine ⟨pre, a1, a2, by rw [g _ (by omega), a3], by rw [g _ (by omega), a4], ?_⟩
        rcases a5 with a5 | a5
        · exact .inl a5
        · exact .inr (lw _ (by omega) a5)
  · exact fun o H' hi => hi.2.2.2.1
  · intro s x H' hi
    obtain ⟨h1, h2, h3, h4, pre, a1, a2, a3, a4, a5⟩ := hi
    refine cK_yl a4 he rfl (by decide) (by decide) (by decide) ?_
    have n0 : (H.next = H'.next) = False := by simp; omega
    have n1 : (H.next + 1 = H'.next) = False := by simp; omega
    have n2 : (H.next + 2 = H'.next) = False := by simp; omega
    have m0 : (H'.next = H.next) = False := by simp; omega
    have m1 : (H'.next = H.next + 1) = False := by simp; omega
    have m2 : (H'.next = H.next + 2) = False := by simp; omega
    have hs3 : setAll [i64D 0, i64D 0, i64D 0] 0 (spanC s) = spanC s := rfl
    simp [spanC_len, hs3]
    refine assignX_of (jump := .normal) (e := e) (ps := [8]) (a := F_q160.a5) (b := F_q160.b6) ?_ ?_
    · simp [n2, a4, h4, get_set, m2]
    have old : ∀ z c k, k < H.next + 3 → ((H'.add (.cells z)).set H'.next (.cells c)).get k = H'.get k := fun z c k hk => by rw [get_set, if_neg (by omega), get_add, if_neg (by omega)]
    have cont : inS t s = false → ∀ z c o1, AtI H e l.l t (some x) ((((H'.add (.cells z)).set H'.next (.cells c)).set (H.next + 2) o1).set (H.next + 2) (.loop false false .normal e [8] F_q160.a5 F_q160.b6)) := fun hi z c o1 => by
      have g : ∀ k, k < H.next + 2 → ((((H'.add (.cells z)).set H'.next (.cells c)).set (H.next + 2) o1).set (H.next + 2) (.loop false false .normal e [8] F_q160.a5 F_q160.b6)).get k = H'.get k := fun k hk => by rw [get_set, if_neg (by omega), get_set, if_neg (by omega), old _ _ _ (by omega)]
      refine ⟨by rw [g _ (by omega), h1], by simp; omega, ?_, ?_, pre ++ [s], by simp [a1], fun y hy => ?_, by rw [g _ (by omega), a3], ?_, .inr ?_⟩
      · simp only [low_set, low_add]; (repeat' split) <;> omega
      · simp only [low_set, low_add, next_set, next_add]; (repeat' split) <;> omega
      · simp at hy
        rcases hy with hy | rfl
        · exact a2 y hy
        · exact hi
      · rw [get_set, if_pos ⟨rfl, by rw [get_set, if_pos ⟨rfl, by rw [old _ _ _ (by omega), a4]; rfl⟩]; rfl⟩]
      · simp only [low_set, low_add]; (repeat' split) <;> omega
    have hin : inS t s = (decide (s.from_ ≤ t) && decide (t < s.to)) := rfl
    by_cases c1 : s.from_ ≤ t
    · by_cases c2 : t < s.to
      · have hi : inS t s = true := by rw [hin]; simp [c1, c2]
        have hat := atS_found a1 a2 hi
        simp [f3, f4, n0, n1, n2, m0, m1, m2, h1, a3, a4, get_set, spanC, c1, c2]
        refine ⟨?_, by simp; omega, ?_, ?_, ?_, ?_, ?_⟩
        · rw [get_set, if_neg (by omega), get_set, if_neg (by omega), get_set, if_neg (by omega), old _ _ _ (by omega), h1]
        · simp only [low_set, low_add]; (repeat' split) <;> omega
        · simp only [low_set, low_add, next_set, next_add]; (repeat' split) <;> omega
        · rw [hat, get_set, if_neg (by omega), get_set, if_pos ⟨rfl, by rw [get_set, if_neg (by omega), old _ _ _ (by omega), a3]; rfl⟩]
        · rw [get_set, if_pos ⟨rfl, by rw [get_set, if_neg (by omega), get_set, if_pos ⟨rfl, by rw [old _ _ _ (by omega), a4]; rfl⟩]; rfl⟩]
        · simp only [low_set, low_add]; (repeat' split) <;> omega
      · have hi : inS t s = false := by rw [hin]; simp [c2]
        simp [f3, f4, n0, n1, n2, m0, m1, m2, h1, a3, a4, get_set, spanC, c1, c2]
        exact cont hi _ _ _
    · have hi : inS t s = false := by rw [hin]; simp [c1]
      simp [f3, f4, n0, n1, n2, m0, m1, m2, h1, a3, a4, get_set, spanC, c1]
      exact cont hi _ _ _
  · intro o H' ho hi
    obtain ⟨h1, h2, h3, h4, h5⟩ := hi
    rcases ho with rfl | rfl
    · obtain ⟨a1, a2, a3⟩ := h5
      rw [finX_loud (by simp; omega)]
      refine ⟨true, .ret, e, [8], F_q160.a5, F_q160.b6, by simp [a2], ?_⟩
      simp [a1, get_del]
      rw [finX_data (by simp only [low_del, low_relow]; (repeat' split) <;> omega) rfl]
      exact ⟨rfl, rfl⟩
    · obtain ⟨pre, a1, a2, a3, a4, a5⟩ := h5
      have hno : atS l.l t = -1 := atS_none (by rw [a1]; simpa using a2)
      by_cases hbig : H.next + 3 ≤ H'.low
      · rw [finX_data (by simpa using hbig) rfl]
        generalize hH1 : (((low0 H).add (.cells [i64D t])).add (.cells [.v (.int .i64 0)])).add (.loop false false .normal e [8] F_q160.a5 F_q160.b6) = H1
        have q1 : H1.get (H.next + 1) = some (.cells [.v (.int .i64 0)]) := by rw [← hH1]; simp
        have q2 : H1.get (H.next + 2) = some (.loop false false .normal e [8] F_q160.a5 F_q160.b6) := by rw [← hH1]; simp
        have q3 : H1.low = H.next := by rw [← hH1]; simp
        refine ⟨false, .normal, e, [8], F_q160.a5, F_q160.b6, q2, ?_⟩
        simp [get_del, q1, get_set]
        rw [finX_data (by simp only [low_set, low_del, q3]; (repeat' split) <;> omega) rfl]
        exact ⟨by rw [hno], rfl⟩
      · rw [finX_loud (by simp; omega)]
        refine ⟨false, .normal, e, [8], F_q160.a5, F_q160.b6, by simp [a4], ?_⟩
        simp [a3, get_del, hno]
        simp [a3, get_del, get_set]
        rw [finX_data (by simp only [low_set, low_del, low_relow]; (repeat' split) <;> omega) rfl]
        exact ⟨rfl, rfl⟩
  · exact ⟨by simp, by simp, by simp, by simp, [], rfl, by simp, by simp, by simp, .inl rfl⟩
end Go.Proofs.YtlnkifnkamojnaaGreat.Tz
