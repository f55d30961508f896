/-
CheckVars: the plain law, and the walk. Conditions: none.
-/
import Derived.Test.YtnpoicmaiieanaaGreatDoorTV7
import Derived.Test.YtnpoicmaiieanaaGreatDoorTLv
namespace Go.Aug.Api
open Go.Aug
open Go.Proofs.YtnpoicmaiieanaaGreatDoor.Tz (addPs addPs_append addP_mem addPs_ok)

theorem addP_length (l : List Int) (n : Int) : (addP l n).length ≤ l.length + 1 := by
  unfold addP
  split
  · split
    · omega
    · simp
  · omega
theorem addPs_length (q : List TItem) : ∀ (vs : List ByteArray) (ks : List Int), (addPs q vs ks).length ≤ ks.length + vs.length
  | [], ks => Nat.le_refl _
  | v :: vs, ks => by
    have h1 := addPs_length q vs (addP ks (placeS q v))
    have h2 := addP_length ks (placeS q v)
    simp only [List.length_cons]
    show (addPs q vs (addP ks (placeS q v))).length ≤ _
    omega
theorem places_length (q : List TItem) (vs : List ByteArray) : (placesS q vs).length ≤ vs.length := by
  have := addPs_length q vs []
  show (addPs q vs []).length ≤ _
  simpa using this

theorem addP_iff (l : List Int) (n k : Int) : k ∈ addP l n ↔ k ∈ l ∨ (k = n ∧ 0 ≤ n) := by
  unfold addP
  split
  · rename_i h
    split
    · rename_i hc
      have := List.contains_iff_mem.1 hc
      constructor
      · exact .inl
      · rintro (h | ⟨rfl, _⟩)
        · exact h
        · exact this
    · simp [h]
  · rename_i h
    constructor
    · exact .inl
    · rintro (h' | ⟨rfl, h'⟩)
      · exact h'
      · exact absurd h' h
theorem addPs_iff (q : List TItem) (k : Int) : ∀ (vs : List ByteArray) (ks : List Int), k ∈ addPs q vs ks ↔ k ∈ ks ∨ ∃ v ∈ vs, k = placeS q v ∧ 0 ≤ placeS q v
  | [], ks => by simp [addPs]
  | v :: vs, ks => by
    have := addPs_iff q k vs (addP ks (placeS q v))
    show k ∈ addPs q vs (addP ks (placeS q v)) ↔ _
    rw [this, addP_iff]
    simp [or_assoc]
theorem vars_iff (q : List TItem) (xs : List TExpr) (k : Int) : k ∈ varsS q xs ↔ ∃ v ∈ eachVs xs, k = placeS q v ∧ 0 ≤ placeS q v := by
  unfold varsS
  rw [(sortI_perm _).mem_iff]
  have := addPs_iff q k (eachVs xs) []
  show k ∈ addPs q (eachVs xs) [] ↔ _
  simpa using this
theorem vars_nodup (q : List TItem) (xs : List TExpr) : (varsS q xs).Nodup := (sortI_perm _).nodup_iff.2 (addPs_ok q _ [] (by simp) (by simp)).1
theorem vars_rise (q : List TItem) (xs : List TExpr) (pre suf : List Int) (a b : Int) (h : varsS q xs = pre ++ a :: b :: suf) : a < b := by
  have h1 : (varsS q xs).Pairwise (· ≤ ·) := sortI_sorted _
  have h2 := vars_nodup q xs
  rw [h] at h1 h2
  have e1 := (List.pairwise_append.1 h1).2.1
  have e2 := (List.nodup_append.1 h2).2.1
  have e3 := (List.pairwise_cons.1 e1).1 b (by simp)
  have e4 := (List.nodup_cons.1 e2).1
  have : a ≠ b := fun e => e4 (by simp [e])
  omega
theorem vars_in (q : List TItem) (xs : List TExpr) (k : Int) (h : k ∈ varsS q xs) : 0 ≤ k ∧ k < q.length := by
  have := (addPs_ok q (eachVs xs) [] (by simp) (by simp)).2 k
  exact this ((sortI_perm _).mem_iff.1 h)

end Go.Aug.Api
namespace Go.Proofs.YtnpoicmaiieanaaGreatDoor.Tz
open Go.Aug Go.Aug.Api
set_option maxRecDepth 100000

theorem oL_has : tabL.orc n_augurylaw09_has = none := by kernel_rfl
theorem oL_CheckVars : tabL.orc n_augurylaw09_CheckVars = none := by kernel_rfl

theorem has_run (l : List Int) (hl : l.length ≤ big) (k : Int) (H : Heap) : Run tabL (.fn n_augurylaw09_has) [intsD l, i64D k] H (bD (decide (k ∈ l))) H := by
  refine cK.run (cK_fn oL_has (tL t_augurylaw09_has) (Nat.le_of_ble_eq_true rfl) (by decide) ?_)
  simp
  refine LR_rule (WR_mono _) (fun j E H' => H' = low0 H ∧ ∃ pre suf, l = pre ++ suf ∧ j = suf.length ∧ E 0 = intsD l ∧ E 1 = i64D k ∧ E 5 = i64D pre.length ∧ k ∉ pre) ?_ (j := l.length) ⟨rfl, [], l, rfl, rfl, by simp, by simp, by simp, by simp⟩
  rintro j E H' ⟨rfl, pre, suf, h0, rfl, e0, e1, e5, hp⟩
  cases suf with
  | nil =>
    simp at h0
    subst h0
    simp [e0, e5, intsD, hp]
  | cons a suf =>
    have hlt : pre.length < l.length := by simp [h0]
    have hlt' : ((pre.length : Int) < (l.length : Int)) = True := by simp; omega
    have ea := elem_at intC_len none l .i64 pre.length a (by simp [h0])
    have hw := wrap_len hlt hl
    simp [e0, e1, e5, intsD, hlt', ea]
    simp [intC]
    refine gK_of (fun h => ?_) (fun h => ?_)
    · simp at h
      simp [h0, h]
    · simp at h
      simp [e0, e1, e5, hw]
      refine ⟨suf.length, by simp [h0], pre ++ [a], suf, by simp [h0], rfl, by simp [intsD], by simp, ?_⟩
      simp [hp]
      exact fun e => h e.symm

theorem intsD_at (l : List Int) (n : Nat) (k : Int) (h : l[n]? = some k) : ∃ p, evIadr 1 (intsD l) (.v (.int .i64 (n : Nat))) = some p ∧ ∀ H, evLoad H none p = some (i64D k) :=
  ⟨_, elem_at intC_len none l .i64 n k h, fun H => by simp [intC]⟩
theorem intsD_len (l : List Int) : evLen false (intsD l) = some (i64D l.length) := sl_len _ _ _

set_option maxHeartbeats 4000000 in
theorem vars_walk (q : TQuery) (x : TExpr) (hx : okE x) (y : TExpr) (hy : okE y) (H : Heap) :
    cK tabL (.fn n_augurylaw09_CheckVars) [.agg (queryC q), .agg (exprC x), .agg (exprC y)] H fun d H' => d = bD true ∧ H' = H := by
  refine cK_fn oL_CheckVars (tL t_augurylaw09_CheckVars) (Nat.le_of_ble_eq_true rfl) (by decide) ?_
  obtain ⟨g2, hg2⟩ := (Great_run q H0).run
  obtain ⟨g3, hg3, hb⟩ := Great_one (qOne x y hx hy) ⟨0, x, y, hx, hy⟩ rfl rfl rfl H0
  have c2 := fun H => (runL oL_Great (by simp) hg2 H).cK
  have c3 := great_own hg3
  have hq5 : ∀ q : TQuery, (queryC q).take 5 = queryC q := fun q => List.take_of_length_le (by rw [queryC_len]; exact Nat.le_refl _)
  cases g2 with
  | true =>
    simp [(head_run _).cK, fillX, setAll_full, build15, build15_len, build14, build14_len, set15, set15', c2, hq5]
  | false =>
  cases g3 with
  | true =>
    simp [(head_run _).cK, fillX, setAll_full, build15, build15_len, build14, build14_len, set15, set15', c2, c3, hq5]
  | false =>
    obtain ⟨bx, bY⟩ := hb rfl
    have p1 := places_length q.items.l (eachV x)
    have p2 := places_length q.items.l (eachV y)
    have p3 := places_length q.items.l (eachVs [x, y])
    have v1 := fun H => (L.check_Vars_run q x hx H (by simp at bx; omega)).cK
    have v2 := fun H => (L.check_Vars_run q y hy H (by simp at bY; omega)).cK
    have v3 := fun (H : Heap) (r : Nat) (h : H.get r = some (.cells (exprC x ++ exprC y))) (hr : r < H.next) => (L.check_Vars_own q 8 (.inr rfl) [x, y] ⟨hx, hy, trivial⟩ (by simp [big]) (some 2) H (r := r) (by simpa using h) hr (by simp [eachVs] at p3 bx bY ⊢; omega)).cK
    simp only [List.length_cons, List.length_nil] at v3
    simp [(head_run _).cK, fillX, setAll_full, build15, build15_len, build14, build14_len, set15, set15', c2, c3, hq5, v1, v2, v3]
    have la : (varsS q.items.l [x]).length ≤ big := by
      have := (sortI_perm (placesS q.items.l (eachVs [x]))).length_eq
      show (sortI _).length ≤ 9223372036854775807
      simp [eachVs] at this bx ⊢
      omega
    have lb : (varsS q.items.l [y]).length ≤ big := by
      have := (sortI_perm (placesS q.items.l (eachVs [y]))).length_eq
      show (sortI _).length ≤ 9223372036854775807
      simp [eachVs] at this bY ⊢
      omega
    have lc : (varsS q.items.l [x, y]).length ≤ big := by
      have := (sortI_perm (placesS q.items.l (eachVs [x, y]))).length_eq
      show (sortI _).length ≤ 9223372036854775807
      simp [eachVs] at this p3 bx bY ⊢
      omega
    have mc : ∀ k, k ∈ varsS q.items.l [x, y] ↔ k ∈ varsS q.items.l [x] ∨ k ∈ varsS q.items.l [y] := fun k => by
      simp only [vars_iff, eachVs, List.append_nil, List.mem_append]
      constructor
      · rintro ⟨v, hv | hv, h⟩
        · exact .inl ⟨v, hv, h⟩
        · exact .inr ⟨v, hv, h⟩
      · rintro (⟨v, hv, h⟩ | ⟨v, hv, h⟩)
        · exact ⟨v, .inl hv, h⟩
        · exact ⟨v, .inr hv, h⟩
    have rc := vars_rise q.items.l [x, y]
    have ic := vars_in q.items.l [x, y]
    generalize varsS q.items.l [x] = a at la mc ⊢
    generalize varsS q.items.l [y] = b at lb mc ⊢
    generalize varsS q.items.l [x, y] = c at lc mc rc ic ⊢
    have ha := fun k H => (has_run a la k H).cK
    have hb := fun k H => (has_run b lb k H).cK
    have hc := fun k H => (has_run c lc k H).cK
    refine LR_rule (WR_mono _) (fun j E H' => ∃ pre suf, c = pre ++ suf ∧ j = suf.length ∧ E 3 = .rf H.next 0 ∧ E 7 = bD true ∧ E 9 = intsD a ∧ E 10 = intsD b ∧ E 11 = intsD c ∧ E 12 = i64D pre.length ∧ H'.get H.next = some (.cells (queryC q)) ∧ H.next ≤ H'.low) ?_ (j := c.length) ⟨[], c, by simp⟩
    rintro j E H' ⟨pre, suf, h0, rfl, e3, e7, e9, e10, e11, e12, gN, hlow⟩
    cases suf with
    | nil =>
      simp at h0
      simp [e11, e12, e9, e7, e10, intsD_len, h0]
      subst h0
      refine LR_rule (WR_mono _) (fun j E H' => ∃ pre suf, a = pre ++ suf ∧ j = suf.length ∧ E 7 = bD true ∧ E 9 = intsD a ∧ E 10 = intsD b ∧ E 11 = intsD c ∧ E 13 = i64D pre.length ∧ H.next ≤ H'.low) ?_ (j := a.length) ⟨[], a, by simp [e7, e9, e10, e11, hlow]⟩
      rintro j E H' ⟨pre, suf, h0, rfl, e7, e9, e10, e11, e13, hlow⟩
      cases suf with
      | nil =>
        simp at h0
        simp [e13, e9, e7, e10, intsD_len, h0]
        subst h0
        refine LR_rule (WR_mono _) (fun j E H' => ∃ pre suf, b = pre ++ suf ∧ j = suf.length ∧ E 7 = bD true ∧ E 10 = intsD b ∧ E 11 = intsD c ∧ E 14 = i64D pre.length ∧ H.next ≤ H'.low) ?_ (j := b.length) ⟨[], b, by simp [e7, e9, e10, e11, hlow]⟩
        rintro j E H' ⟨pre, suf, h0, rfl, e7, e10, e11, e14, hlow⟩
        cases suf with
        | nil =>
          simp at h0
          simp [e14, e7, e10, intsD_len, h0, hlow]
        | cons k suf =>
          have hlt : pre.length < b.length := by simp [h0]
          have hlt' : ((pre.length : Int) < (b.length : Int)) = True := by simp; omega
          have hw := wrap_len hlt lb
          obtain ⟨p, ek, lk⟩ := intsD_at b pre.length k (by simp [h0])
          have hk : k ∈ c := (mc k).2 (.inr (by simp [h0]))
          simp [e7, e10, e11, e14, intsD_len, hlt', ek, lk, hc, hk, hw]
          exact ⟨suf.length, by omega, pre ++ [k], suf, by simp [h0], rfl, by simp, hlow⟩
      | cons k suf =>
        have hlt : pre.length < a.length := by simp [h0]
        have hlt' : ((pre.length : Int) < (a.length : Int)) = True := by simp; omega
        have hw := wrap_len hlt la
        obtain ⟨p, ek, lk⟩ := intsD_at a pre.length k (by simp [h0])
        have hk : k ∈ c := (mc k).2 (.inl (by simp [h0]))
        simp [e7, e9, e10, e11, e13, intsD_len, hlt', ek, lk, hc, hk, hw]
        exact ⟨suf.length, by omega, pre ++ [k], suf, by simp [h0], rfl, by simp, hlow⟩
    | cons k suf =>
      have hlt : pre.length < c.length := by simp [h0]
      have hlt' : ((pre.length : Int) < (c.length : Int)) = True := by simp; omega
      have hw := wrap_len hlt lc
      obtain ⟨p, ek, lk⟩ := intsD_at c pre.length k (by simp [h0])
      obtain ⟨k1, k2⟩ := ic k (by simp [h0])
      have n1 : ¬ k < 0 := by omega
      have n2 : ¬ (q.items.l.length : Int) ≤ k := by omega
      simp [e11, e12, intsD_len, hlt', ek, lk, n1, e3, gN, queryC, Sl.enc, n2]
      have hk : k ∈ a ∨ k ∈ b := (mc k).1 (by simp [h0])
      have fin : ∃ j', j' < suf.length + 1 ∧ ∃ pre' suf', c = pre' ++ suf' ∧ j' = suf'.length ∧ ((pre.length + 1 : Nat) : Int) = pre'.length := ⟨suf.length, by omega, pre ++ [k], suf, by simp [h0], rfl, by simp⟩
      rcases List.eq_nil_or_concat pre with rfl | ⟨p', k0, rfl⟩
      · have ek0 : evIadr 1 (intsD c) (i64D 0) = some p := by simpa using ek
        by_cases hka : k ∈ a
        · simp [e3, e7, e9, e10, e11, e12, ek0, lk, ha, hka, hw]
          exact ⟨suf.length, by omega, [k], suf, by simpa using h0, rfl, by rw [wrap64 (by omega) (by omega)]; rfl, gN, hlow⟩
        · have hkb : k ∈ b := hk.resolve_left hka
          simp [e3, e7, e9, e10, e11, e12, ek0, lk, ha, hb, hka, hkb, hw]
          exact ⟨suf.length, by omega, [k], suf, by simpa using h0, rfl, by rw [wrap64 (by omega) (by omega)]; rfl, gN, hlow⟩
      · have ek1 : evIadr 1 (intsD c) (i64D ((p'.length : Int) + 1)) = some p := by simpa using ek
        obtain ⟨p0, ek0, lk0⟩ := intsD_at c p'.length k0 (by simp [h0])
        have hw0 : IntKind.i64.wrap (p'.length : Int) = p'.length := wrap64 (by omega) (by simp at hlt; have : c.length ≤ 9223372036854775807 := lc; omega)
        have hr := rc p' suf k0 k (by simp [h0])
        have hn : ¬ k ≤ k0 := by omega
        by_cases hka : k ∈ a
        · simp [e3, e7, e9, e10, e11, e12, ek1, ek0, lk, lk0, ha, hka, hw, hw0, hn]
          exact ⟨suf.length, by omega, p' ++ [k0, k], suf, by simp [h0], rfl, by simp at hlt; have hc9 : c.length ≤ 9223372036854775807 := lc; rw [wrap64 (by omega) (by omega)]; simp; omega, gN, hlow⟩
        · have hkb : k ∈ b := hk.resolve_left hka
          simp [e3, e7, e9, e10, e11, e12, ek1, ek0, lk, lk0, ha, hb, hka, hkb, hw, hw0, hn]
          exact ⟨suf.length, by omega, p' ++ [k0, k], suf, by simp [h0], rfl, by simp at hlt; have hc9 : c.length ≤ 9223372036854775807 := lc; rw [wrap64 (by omega) (by omega)]; simp; omega, gN, hlow⟩

end Go.Proofs.YtnpoicmaiieanaaGreatDoor.Tz
